/-
  Part D of the proof's ground: Oa, Ob, Oc, Je, Pk, Od, Oe, Pb, Pc, La, Rules9, Rules11, Draws4, Lp, Ta.
-/
import Derived.ChangeArms
import Derived.ChangeReads
import Derived.WideShapes
import Derived.Test.YtfhoecgiahpddaaGreatMaA
import Derived.Test.YtfhoecgiahpddaaGreatMaB
import Derived.Test.YtfhoecgiahpddaaGreatMaC
/-
  CONTRACTS: observer.Graph.
-/
set_option linter.all false
namespace Go.Proofs.YtfhoecgiahpddaaGreat
open Go.Mesh Go.RowKit
set_option maxRecDepth 100000
set_option linter.unusedVariables false
set_option maxHeartbeats 4000000
attribute [local irreducible] WP OPS ANY ANYo LG LV FSpec PSpec QOP OPc OPw thenQ blockQ roundQ roundF retQ retM Rd At SLB OS cmpI orI cmpID namedB valB nodeB kindB validG valAux idxI findG zeroV viewOf vwAt idxOf recv flyB scionOf moveOf numberedOf idOf valueOf mget mput localB carriedB stubOf followF followOf flOf flightsOf flPre setL minusL compactL putI mergeN insN insAll unionR NMap Coll retN bodyS GMap Dfs refsV refsOf reachL
/-- the node that a flight moves -/
def movedOf (vs : List View) (i : View × Flight) : Nd := ⟨i.2.msg.parcel.id, i.2.msg.parcel.kind, i.2.msg.parcel.cls, i.2.msg.parcel.fields.map (valueOf vs i.1.machine i.2.to)⟩
def isMove (i : View × Flight) : Bool := decide (i.2.msg.kind = 1)
def movedG (vs : List View) (l : List (View × Flight)) : List (List Nd) := (l.filter isMove).map fun i => [movedOf vs i]
def graphParts (vs : List View) : List (List Nd) := vs.map (·.objects) ++ movedG vs (flightsOf vs)
def graphR (vs : List View) : List Nd × Int := unionR (graphParts vs)
/-- few and small views -/
structure Small (vs : List View) : Prop where
  len : vs.length ≤ 5
  objs : ∀ v, v ∈ vs → v.objects.length ≤ 12
  stubs : ∀ v, v ∈ vs → v.stubs.length ≤ 12
  scions : ∀ v, v ∈ vs → v.scions.length ≤ 12
  names : ∀ v, v ∈ vs → v.names.length ≤ 6
  mail : ∀ v, v ∈ vs → v.mail.length ≤ 6
  flights : ∀ v, v ∈ vs → v.flights.length ≤ 6
  received : ∀ v, v ∈ vs → v.received.length ≤ 10
  fields : ∀ v, v ∈ vs → ∀ n, n ∈ v.objects → n.fields.length ≤ 6
  args : ∀ v, v ∈ vs → ∀ m, m ∈ v.mail → m.args.length ≤ 6
  letter : ∀ v, v ∈ vs → ∀ x, x ∈ v.flights → x.msg.args.length ≤ 6
  moved : ∀ v, v ∈ vs → ∀ x, x ∈ v.flights → x.msg.parcel.fields.length ≤ 6
  pmail : ∀ v, v ∈ vs → ∀ x, x ∈ v.flights → x.msg.parcel.mail.length ≤ 4
  pargs : ∀ v, v ∈ vs → ∀ x, x ∈ v.flights → ∀ m, m ∈ x.msg.parcel.mail → m.length ≤ 6
theorem slb_of_at {α : Type} {B : Nat} {h : Frag} {k : Nat} {C : CR α} {b cap : Nat} {xs : List α} {us : List Value} (ha : At h b 0 us) (hf : Flat h k C xs us) (hm : xs.length ≤ B) : SLB B h k C (.slice (some ⟨b, 0, none⟩) xs.length cap) xs := by
  unfold At at ha
  obtain ⟨arr, t, fz, e, g⟩ := ha
  exact SLB.of_flat e hf g hm
theorem flatMap_le {α β : Type} (f : α → List β) (k : Nat) : ∀ l : List α, (∀ x, x ∈ l → (f x).length ≤ k) → (l.flatMap f).length ≤ l.length * k
  | [], _ => by simp
  | x :: l, h => by
    have h1 := h x (by simp)
    have h2 := flatMap_le f k l fun y hy => h y (by simp [hy])
    simp only [List.flatMap_cons, List.length_append, List.length_cons, Nat.add_mul, Nat.one_mul]
    omega
theorem flightsOf_mem {vs : List View} {i : View × Flight} (h : i ∈ flightsOf vs) : i.1 ∈ vs ∧ i.2 ∈ i.1.flights := by
  simp only [flightsOf, List.mem_flatMap, flOf, List.mem_map, List.mem_filter] at h
  obtain ⟨v, hv, x, ⟨hx, _⟩, rfl⟩ := h
  exact ⟨hv, hx⟩
theorem Small.fl {vs : List View} (s : Small vs) : (flightsOf vs).length ≤ 30 := by
  have := flatMap_le (flOf vs) 6 vs fun v hv => by
    simp only [flOf, List.length_map]
    exact Nat.le_trans (List.length_filter_le _ _) (s.flights v hv)
  have h2 := s.len
  rw [flightsOf]; omega
theorem movedG_snoc (vs : List View) (l : List (View × Flight)) (i : View × Flight) : movedG vs (l ++ [i]) = movedG vs l ++ (if isMove i then [[movedOf vs i]] else []) := by
  simp only [movedG, List.filter_append, List.map_append]
  by_cases h : isMove i = true <;> simp [h]
theorem movedG_len (vs : List View) (l : List (View × Flight)) : (movedG vs l).length ≤ l.length := by simp only [movedG, List.length_map]; exact List.length_filter_le _ _
theorem movedG_flat (vs : List View) (l : List (View × Flight)) : (movedG vs l).flatten.length ≤ l.length := by
  have : (movedG vs l).flatten.length = (movedG vs l).length := by
    rw [movedG]; generalize l.filter isMove = r
    induction r with
    | nil => rfl
    | cons x r ih => simp only [List.map_cons, List.flatten_cons, List.length_append, List.length_cons, List.length_nil] at ih ⊢; omega
  have h2 := movedG_len vs l
  omega
theorem Small.parts {vs : List View} (s : Small vs) : (graphParts vs).flatten.length ≤ 1000000 := by
  have h1 := flatMap_le (fun v : View => v.objects) 12 vs s.objs
  have h2 := movedG_flat vs (flightsOf vs)
  have h3 := s.fl
  have h4 := s.len
  rw [graphParts, List.flatten_append, List.length_append, ← List.flatMap_def]
  omega
attribute [local irreducible] movedOf movedG graphParts graphR isMove
theorem graph_s {h : Frag} {a : Value} {vs : List View} (hs : SL h 13 (ViewC 4398046511104) a vs) (sm : Small vs) : PSpec Tryz.prog 11 #[a] h (fun h' v => ∃ us, v = .tuple #[.agg us.toArray, .int .i64 (graphR vs).2] ∧ GraphC 4398046511104 h' (graphR vs).1 us) := by
  have hlen := sm.len
  have hfl := sm.fl
  obtain ⟨pv, cv, rfl⟩ := hs.slice
  refine pspec_ofN (vs := [.slice pv vs.length cv]) Tryz.func11 Tryz.ntmps11 rfl rfl ?_
  (focus (refine Wr ?_; refine S_c rfl rfl rfl (C_alloc rfl (zer rfl) ?_); intro b0_1; refine Sm rfl ?_; refine On ?_; refine Wr ?_; refine Sm rfl ?_; refine S_c rfl rfl rfl (C_call (of_s ‹_›) rfl rfl ⟨_, _, rfl, rfl, rfl⟩ (cal rfl) ?_); rintro h0_2 _ l0_2 ⟨pf0_2, qf0_2, mb0_2, rfl, ff0_2⟩; replace hs := hs.up l0_2; refine S_c rfl rfl rfl (C_alloc rfl (zer rfl) ?_); intro b0_3; refine S_w0 rfl rfl (W_all rfl rfl rfl (ty rfl) u0 (by first | rfl | assumption) (by first | rfl | assumption) (by first | rfl | assumption | exact ones_sub ‹_› _ _) ?_); refine On ?_; refine Wr ?_; refine S_c rfl rfl rfl (C_alloc rfl (zer rfl) ?_); intro b0_4; refine On ?_; refine WP_seq ?_; refine Wr ?_; refine Sm rfl ?_; refine S_q rfl rfl rfl (Q_len rfl rfl rfl rfl rfl rfl) ?_; refine Sm rfl ?_; refine On ?_; refine WP_block ?_))
  (focus (refine WP_keepM [_] [_] _ rfl ?_; rintro h1_k l1_k k1_k; have a1_k := at_of_keep k1_k; clear k1_k; replace ff0_2 := ff0_2.up l1_k; replace hs := hs.up l1_k))
  (refine WP_loopF (α := Nat × List (List Nd) × Option Addr × Nat × Hp) [17, 16, 5, 4, 2] (fun (s : Nat × List (List Nd) × Option Addr × Nat × Hp) => vs.length - s.1) (fun (s : Nat × List (List Nd) × Option Addr × Nat × Hp) => (b0_4, cells [.slice s.2.2.1 s.2.1.length s.2.2.2.1] 98) :: (b0_1, cells [.slice none 0 0] 27) :: (s.2.2.2.2 ++ [])) (fun (s : Nat × List (List Nd) × Option Addr × Nat × Hp) => [(18, .int .i64 (s.1 : Int))]) (fun hh (s : Nat × List (List Nd) × Option Addr × Nat × Hp) => hh = h1_k ∧ s.1 ≤ vs.length ∧ s.2.1 = (vs.take s.1).map (·.objects) ∧ OS h1_k 27 1 (GraphC 4398046511104) (.slice s.2.2.1 s.2.1.length s.2.2.2.1) s.2.1 s.2.2.2.2) (0, [], none, 0, []) ⟨_, _, rfl, ⟨_, _, rfl, ⟨_, _, rfl, ⟨_, _, rfl, ⟨_, _, rfl, rfl, rfl⟩, rfl⟩, rfl⟩, rfl⟩, rfl⟩ ?_ (by repeat' first | exact sR _ | exact sA _ _ | exact sN _ | apply s2 | apply s1) (by repeat' first | exact trivial | refine ⟨rfl, ?_⟩) ?_)
  · exact ⟨rfl, Nat.zero_le _, rfl, OS.nil _ _ _ _⟩
  rintro h1 ⟨k, gs, p, c, M⟩ _ ⟨rfl, hk, hgs, hO⟩
  simp only at hk hgs hO
  dsimp only
  have hgl : gs.length = k := by rw [hgs]; simp; omega
  by_cases hlt : k < vs.length
  · obtain ⟨v, ev⟩ := get_of hlt
    (focus (refine Wr ?_; refine Sc rfl rfl rfl rfl rfl rfl rfl ?_; refine On ?_; refine WP_seq ?_; refine WP_cond rfl (fun c3_1 => ?_) (fun c3_1 => ?_) <;> (first | (simp [*] at c3_1; done) | (try simp at c3_1)); refine WP_skip ?_; refine then_n ?_; refine WP_seq ?_; refine WP_block ?_; refine Wr ?_; refine S_q rfl rfl rfl (Q_indexS ‹_› ‹_› rfl rfl rfl (elm rfl) rfl) ?_; refine S_load rfl rfl rfl rfl rfl ?_; refine L_elA ‹_› ‹_› (ty rfl) ?_; rintro _ _ _ ⟨xi3_2, xa3_2, po3_2, qo3_2, ps3_2, qs3_2, pc3_2, qc3_2, pn3_2, qn3_2, pm3_2, qm3_2, xw3_2, xv3_2, pf3_2, qf3_2, pr3_2, qr3_2, xe3_2, xf3_2, rfl, vo3_2, vs3_2, vc3_2, vn3_2, vm3_2, vf3_2, vr3_2⟩; refine S_c rfl rfl rfl (C_alloc rfl (zer rfl) ?_); intro b3_3; refine S_w0 rfl rfl (W_all rfl rfl rfl (ty rfl) u0 (by first | rfl | assumption) (by first | rfl | assumption) (by first | rfl | assumption | exact ones_sub ‹_› _ _) ?_); refine On ?_; refine R_region ?_; refine S_load rfl rfl rfl rfl rfl ?_; refine L_one (Rd.own m1) (ty rfl) ?_; refine Sf rfl rfl rfl rfl rfl (fld rfl rfl) ?_; refine S_load rfl rfl rfl rfl rfl ?_; refine L_sub (Rd.own m0) (ty rfl) rfl ?_; refine S_c rfl rfl rfl (C_buildSlice rfl (elm rfl) (zer rfl) rfl ⟨_, _, _, rfl, rfl, rfl, rfl, rfl, rfl⟩ rfl rfl ?_); intro b3_4))
    refine S_w rfl rfl rfl (W_app1 (y := v.objects) (by_ := 24) [_, _, _] _ hO rfl rfl rfl rfl rfl rfl (elm rfl) (zer rfl) rfl rfl rfl rfl ⟨_, _, rfl, vo3_2⟩ (by omega) (by omega) ?_)
    rintro p2 c2 M2 hO2
    (focus (refine S_w0 rfl rfl (W_one rfl rfl rfl (ty rfl) u1 rfl rfl rfl ?_); refine OPS_nil ?_; refine block_n ?_; refine then_n ?_; refine R_region ?_; refine S_q rfl rfl rfl (Q_add rfl rfl rfl (by omega)) ?_; refine Sm rfl ?_; refine OPS_nil ?_))
    refine roundF_n (k + 1, gs ++ [v.objects], p2, c2, M2) (by simp only; omega) ⟨rfl, by simp only; omega, ?_, hO2⟩ (by repeat' first | exact sR _ | exact sA _ _ | exact sN _ | apply s2 | apply s1) (by repeat' first | exact trivial | refine ⟨rfl, ?_⟩)
    simp only; rw [hgs, List.take_add_one, ev]; simp
  · have hge : k = vs.length := by omega
    subst hge
    rw [List.take_length] at hgs
    (focus (refine Wr ?_; refine Sc rfl rfl rfl rfl rfl rfl rfl ?_; refine On ?_; refine WP_seq ?_; refine WP_cond rfl (fun c5_1 => ?_) (fun c5_1 => ?_) <;> (first | (simp [*] at c5_1; done) | (try simp at c5_1)); refine WP_exit ?_; refine then_e ?_; refine roundF_e ?_; refine block_e ?_; refine then_n ?_; refine WP_seq ?_; refine Wr ?_; refine S_load rfl rfl rfl rfl rfl ?_; refine L_agg (Rd.pers ‹_›) (ty rfl) (by first | rfl | assumption) ?_; refine S_c rfl rfl rfl (C_call (flights_s ‹_›) rfl rfl ⟨_, _, rfl, rfl, rfl⟩ (cal rfl) ?_); rintro h5_2 _ l5_2 ⟨bi5_2, rfl, it5_2⟩; replace a1_k := a1_k.up l5_2; replace ff0_2 := ff0_2.up l5_2; replace hs := hs.up l5_2; replace hO := hO.up l5_2; refine On ?_; refine WP_block ?_))
    refine WP_rangeS [] [] (fun s : List (List Nd) × Option Addr × Nat × Hp => (b0_4, cells [.slice s.2.1 s.1.length s.2.2.1] 98) :: (b0_1, cells [.slice none 0 0] 27) :: s.2.2.2)
      (fun pre hh s => le h5_2 hh ∧ s.1 = vs.map (·.objects) ++ movedG vs pre ∧ OS hh 27 1 (GraphC 4398046511104) (.slice s.2.1 s.1.length s.2.2.1) s.1 s.2.2.2) (fun _ _ _ => False) (gs, p, c, M) it5_2 rfl Tryz.func77 (by decide) rfl (by rintro _ _ _ ⟨_, _, rfl, _⟩; rfl) rfl rfl ⟨le_refl _, by simp [movedG, hgs], hO⟩ ?_ ?_ ?_
    · clear hO hgl hgs M p c gs
      rintro l pre ⟨v, x⟩ _ h2 ⟨gs, p, c, M⟩ hl1 ⟨hl2, hgs, hO⟩ hp ⟨us, ws, rfl, hu1, hu2, hu3, hw1, hw2, hw3⟩
      simp only at hgs hO hu3 hw3
      obtain ⟨hvm, hxm⟩ := flightsOf_mem (hp.subset (by simp : (v, x) ∈ pre ++ [(v, x)]))
      have hpl := hp.length_le
      have hsn := movedG_snoc vs pre (v, x)
      have hgl : gs.length ≤ 35 := by
        rw [hgs, List.length_append, List.length_map]; have := movedG_len vs pre; simp at hpl; omega
      have hfl6 := sm.moved v hvm x hxm
      (replace it5_2 := it5_2.up hl1; replace a1_k := a1_k.up hl1; replace ff0_2 := ff0_2.up hl1; replace hs := hs.up hl1)
      obtain ⟨hi, xa, po, qo, qs, qt, pc, qc, pn, qn, pm, qm, xw, xv, pf, qf, pr, qr, xe, xf, rfl, -⟩ := hu3
      obtain ⟨ya, yb, yc, yd, ye, pa, qa, pg, qg, ph, qh, yw, y1, y2, y3, y4, y5, y6, y7, y8, y9, y10, y11, y12, y13, y14, y15, rfl, ha, hfs, hm⟩ := hw3
      dsimp only [parFr]
      (focus (refine Wr ?_; refine S_c rfl rfl rfl (C_alloc rfl (zer rfl) ?_); intro b7_1; refine S_w0 rfl rfl (W_all rfl rfl rfl (ty rfl) u0 (by first | rfl | assumption) (by first | rfl | assumption) (by first | rfl | assumption | exact ones_sub ‹_› _ _) ?_); refine On ?_; refine R_region ?_; refine S_c rfl rfl rfl (C_alloc rfl (zer rfl) ?_); intro b7_2; refine S_w0 rfl rfl (W_all rfl rfl rfl (ty rfl) u0 (by first | rfl | assumption) (by first | rfl | assumption) (by first | rfl | assumption | exact ones_sub ‹_› _ _) ?_); refine On ?_))
      refine ⟨rfl, ?_⟩
      (focus (refine WP_block ?_; refine Wr ?_; refine Sf rfl rfl rfl rfl rfl (fld rfl rfl) ?_; refine Sf rfl rfl rfl rfl rfl (fld rfl rfl) ?_; refine S_load rfl rfl rfl rfl rfl ?_; refine L_fld2 (Rd.own m0) ?_; refine LV_a (ty rfl) rfl ?_; refine S_c rfl rfl rfl (C_alloc rfl (zer rfl) ?_); intro b8_1; refine S_w0 rfl rfl (W_all rfl rfl rfl (ty rfl) u0 (by first | rfl | assumption) (by first | rfl | assumption) (by first | rfl | assumption | exact ones_sub ‹_› _ _) ?_); refine On ?_; refine WP_seq ?_; refine Wr ?_; refine Sf rfl rfl rfl rfl rfl (fld rfl rfl) ?_; refine Sf rfl rfl rfl rfl rfl (fld rfl rfl) ?_; refine S_load rfl rfl rfl rfl rfl ?_; refine L_fld2 (Rd.own m1) ?_; refine LV_1 (ty rfl) rfl ?_; refine Sc rfl rfl rfl rfl rfl rfl rfl ?_; refine On ?_; refine WP_cond rfl (fun c8_2 => ?_) (fun c8_2 => ?_) <;> (first | (simp [*] at c8_2; done) | (try simp at c8_2)); (focus (refine WP_exit ?_; refine then_e ?_; refine block_e ?_)); rotate_left 1; (focus (refine WP_skip ?_; refine then_n ?_; refine Wr ?_; refine Sf rfl rfl rfl rfl rfl (fld rfl rfl) ?_; refine S_load rfl rfl rfl rfl rfl ?_; refine L_sub (Rd.own m0) (ty rfl) rfl ?_; refine Sf rfl rfl rfl rfl rfl (fld rfl rfl) ?_; refine S_load rfl rfl rfl rfl rfl ?_; refine L_fld (Rd.own m0) (ty rfl) rfl ?_; refine Sf rfl rfl rfl rfl rfl (fld rfl rfl) ?_; refine S_load rfl rfl rfl rfl rfl ?_; refine L_fld (Rd.own m0) (ty rfl) rfl ?_; refine S_q rfl rfl rfl (Q_build rfl (by decide +kernel) (zer rfl) ⟨_, _, _, _, _, _, _, rfl, fld rfl rfl, ty rfl, rfl, rfl, ⟨_, _, _, _, _, _, _, rfl, fld rfl rfl, ty rfl, rfl, rfl, ⟨_, _, _, _, _, _, _, rfl, fld rfl rfl, ty rfl, rfl, rfl, rfl, rfl⟩, rfl⟩, rfl⟩ rfl) ?_; refine S_c rfl rfl rfl (C_alloc rfl (zer rfl) ?_); intro b8_3; refine S_w0 rfl rfl (W_all rfl rfl rfl (ty rfl) u0 (by first | rfl | assumption) (by first | rfl | assumption) (by first | rfl | assumption | exact ones_sub ‹_› _ _) ?_); refine On ?_; refine WP_seq ?_; refine Wr ?_; refine Sf rfl rfl rfl rfl rfl (fld rfl rfl) ?_; refine S_load rfl rfl rfl rfl rfl ?_; refine L_fld (Rd.own m1) (ty rfl) rfl ?_; refine S_q rfl rfl rfl (Q_len rfl rfl rfl rfl rfl rfl) ?_; refine Sm rfl ?_; refine On ?_; refine WP_block ?_)); rotate_left 1))
      · rw [if_neg (by simp [isMove, c8_2])] at hsn
        refine bodyS_n (gs, p, c, M) ?_ (by repeat' first | exact sR _ | exact sA _ _ | exact sN _ | apply s2 | apply s1)
        refine ⟨hl2, ?_, hO⟩
        simp only; rw [hsn, List.append_nil]; exact hgs
      rw [if_pos (by simp [isMove, c8_2])] at hsn
      (focus (refine WP_keepM [_] [_] _ rfl ?_; rintro h9_k l9_k k9_k; have a9_k := at_of_keep k9_k; clear k9_k; replace hO := hO.up l9_k; replace it5_2 := it5_2.up l9_k; replace a1_k := a1_k.up l9_k; replace ff0_2 := ff0_2.up l9_k; replace hs := hs.up l9_k; replace ha := ha.up l9_k; replace hfs := hfs.up l9_k; replace hm := hm.up l9_k))
      (focus (refine WP_keepM [_] [_] _ rfl ?_; rintro h10_k l10_k k10_k; have a10_k := at_of_keep k10_k; clear k10_k; replace a9_k := a9_k.up l10_k; replace hO := hO.up l10_k; replace it5_2 := it5_2.up l10_k; replace a1_k := a1_k.up l10_k; replace ff0_2 := ff0_2.up l10_k; replace hs := hs.up l10_k; replace ha := ha.up l10_k; replace hfs := hfs.up l10_k; replace hm := hm.up l10_k))
      (focus (refine WP_keepM [_] [_] _ rfl ?_; rintro h11_k l11_k k11_k; have a11_k := at_of_keep k11_k; clear k11_k; replace a10_k := a10_k.up l11_k; replace a9_k := a9_k.up l11_k; replace hO := hO.up l11_k; replace it5_2 := it5_2.up l11_k; replace a1_k := a1_k.up l11_k; replace ff0_2 := ff0_2.up l11_k; replace hs := hs.up l11_k; replace ha := ha.up l11_k; replace hfs := hfs.up l11_k; replace hm := hm.up l11_k))
      (refine WP_loopF (α := Nat × List Val × Option Addr × Nat × Hp) [48, 47, 11, 9, 8, 5, 4] (fun (s : Nat × List Val × Option Addr × Nat × Hp) => x.msg.parcel.fields.length - s.1) (fun (s : Nat × List Val × Option Addr × Nat × Hp) => (b8_3, cells [.int .i64 x.msg.parcel.id.1, .int .i64 x.msg.parcel.id.2, .int .i64 x.msg.parcel.kind, .int .i64 x.msg.parcel.cls, .slice s.2.2.1 s.2.1.length s.2.2.2.1] 38) :: (b0_4, cells [.slice p gs.length c] 98) :: (b0_1, cells [.slice none 0 0] 27) :: (s.2.2.2.2 ++ (M ++ []))) (fun (s : Nat × List Val × Option Addr × Nat × Hp) => [(49, .int .i64 (s.1 : Int))]) (fun hh (s : Nat × List Val × Option Addr × Nat × Hp) => hh = h11_k ∧ s.1 ≤ x.msg.parcel.fields.length ∧ s.2.1 = (x.msg.parcel.fields.take s.1).map (valueOf vs v.machine x.to) ∧ OS h11_k 42 4 ValC (.slice s.2.2.1 s.2.1.length s.2.2.2.1) s.2.1 s.2.2.2.2) (0, [], none, 0, []) ⟨_, _, rfl, ⟨_, _, rfl, ⟨_, _, rfl, ⟨_, _, rfl, ⟨_, _, rfl, ⟨_, _, rfl, ⟨_, _, rfl, rfl, rfl⟩, rfl⟩, rfl⟩, rfl⟩, rfl⟩, rfl⟩, rfl⟩ ?_ (by repeat' first | exact sR _ | exact sA _ _ | exact sN _ | apply s2 | apply s1) (by repeat' first | exact trivial | refine ⟨rfl, ?_⟩) ?_)
      · exact ⟨rfl, Nat.zero_le _, rfl, OS.nil _ _ _ _⟩
      rintro h3 ⟨k, fs, p2, c2, M2⟩ _ ⟨rfl, hk, hfe, hO2⟩
      simp only at hk hfe hO2
      dsimp only
      have hfl2 : fs.length = k := by rw [hfe]; simp; omega
      by_cases hlt : k < x.msg.parcel.fields.length
      · obtain ⟨r, er⟩ := get_of hlt
        (focus (refine Wr ?_; refine Sc rfl rfl rfl rfl rfl rfl rfl ?_; refine On ?_; refine WP_seq ?_; refine WP_cond rfl (fun c13_1 => ?_) (fun c13_1 => ?_) <;> (first | (simp [*] at c13_1; done) | (try simp at c13_1)); refine WP_skip ?_; refine then_n ?_; refine WP_seq ?_; refine WP_block ?_; refine Wr ?_; refine S_q rfl rfl rfl (Q_indexS ‹_› ‹_› rfl rfl rfl (elm rfl) rfl) ?_; refine S_load rfl rfl rfl rfl rfl ?_; refine L_elA ‹_› ‹_› (ty rfl) ?_; rintro _ _ _ rfl; refine S_c rfl rfl rfl (C_alloc rfl (zer rfl) ?_); intro b13_3; refine S_w0 rfl rfl (W_all rfl rfl rfl (ty rfl) u0 (by first | rfl | assumption) (by first | rfl | assumption) (by first | rfl | assumption | exact ones_sub ‹_› _ _) ?_); refine On ?_; refine R_draw (n := 13) mixed rfl ?_; refine A_at 0 rfl rfl ?_; refine A_q (m' := 1) rfl rfl rfl (Q_fieldAddr rfl rfl (fld rfl rfl)) rfl (by decide +kernel) ?_; refine A_at 1 rfl rfl ?_; refine A_load (m' := 3) rfl rfl rfl rfl rfl rfl (by decide +kernel) ?_; refine L_fld (Rd.own m1) (ty rfl) rfl ?_; refine A_at 2 rfl rfl ?_; refine A_load (m' := 7) rfl rfl rfl rfl rfl rfl (by decide +kernel) ?_; refine L_agg (Rd.pers ‹_›) (ty rfl) (by first | rfl | assumption) ?_; refine A_at 3 rfl rfl ?_; refine A_q (m' := 15) rfl rfl rfl (Q_fieldAddr rfl rfl (fld rfl rfl)) rfl (by decide +kernel) ?_; refine A_at 4 rfl rfl ?_; refine A_load (m' := 31) rfl rfl rfl rfl rfl rfl (by decide +kernel) ?_; refine L_fld (Rd.pers ‹_›) (ty rfl) rfl ?_; refine A_at 5 rfl rfl ?_; refine A_q (m' := 63) rfl rfl rfl (Q_fieldAddr rfl rfl (fld rfl rfl)) rfl (by decide +kernel) ?_; refine A_at 6 rfl rfl ?_; refine A_load (m' := 127) rfl rfl rfl rfl rfl rfl (by decide +kernel) ?_; refine L_fld (Rd.pers ‹_›) (ty rfl) rfl ?_; refine A_at 7 rfl rfl ?_; refine A_load (m' := 255) rfl rfl rfl rfl rfl rfl (by decide +kernel) ?_; refine L_agg (Rd.own m0) (ty rfl) (by first | rfl | assumption) ?_; refine A_at 8 rfl rfl ?_; refine A_c (m' := 511) rfl rfl rfl rfl (by decide +kernel) (C_callv (value_s ‹_›) rfl rfl ⟨_, _, rfl, ⟨_, _, rfl, ⟨_, _, rfl, ⟨_, _, rfl, rfl, rfl⟩, rfl⟩, rfl⟩, rfl⟩ (cal rfl) ?_); refine A_at 9 rfl rfl ?_; refine A_c (m' := 1023) rfl rfl rfl rfl (by decide +kernel) (C_buildSlice rfl (elm rfl) (zer rfl) rfl ⟨_, _, _, rfl, rfl, rfl, rfl, rfl, rfl⟩ rfl rfl ?_); intro b13_4; refine A_at 10 rfl rfl ?_; refine A_w (m' := 2047) rfl rfl rfl rfl rfl (by decide +kernel) (W_app1 [_, _, _, _] _ ‹_› rfl rfl rfl rfl rfl rfl (elm rfl) (zer rfl) rfl rfl rfl rfl rfl (by (try simp only [lA]); omega) (by (try simp only [lA]); omega) ?_); rintro p13_5 q13_5 m13_5 o13_5; refine A_at 11 rfl rfl ?_; refine A_q (m' := 4095) rfl rfl rfl (Q_fieldAddr rfl rfl (fld rfl rfl)) rfl (by decide +kernel) ?_; refine A_at 12 rfl rfl ?_; refine A_w0 (m' := 8191) rfl rfl rfl rfl (by decide +kernel) (W_fld rfl rfl rfl (ty rfl) u1 rfl rfl rfl rfl ?_); refine A_done (by decide +kernel) ?_; refine block_n ?_; refine then_n ?_; refine R_region ?_; refine S_q rfl rfl rfl (Q_add rfl rfl rfl (by omega)) ?_; refine Sm rfl ?_; refine OPS_nil ?_))
        refine roundF_n (k + 1, fs ++ [valueOf vs v.machine x.to r], p13_5, q13_5, m13_5) (by simp only; omega) ⟨rfl, by simp only; omega, ?_, o13_5⟩ (by repeat' first | exact sR _ | exact sA _ _ | exact sN _ | apply s2 | apply s1) (by repeat' first | exact trivial | refine ⟨rfl, ?_⟩)
        simp only; rw [hfe, List.take_add_one, er]; simp
      · have hge : k = x.msg.parcel.fields.length := by omega
        subst hge
        rw [List.take_length] at hfe
        refine WP_keepM [_, _, _] M2 _ rfl fun h4 hl4 hm4 => ?_
        have hN : SL h4 4 ValC (.slice p2 fs.length c2) fs := hO2.sl hl4 ValC_mono hm4 (by omega)
        clear hO2 hm4
        (replace a11_k := a11_k.up hl4; replace a10_k := a10_k.up hl4; replace a9_k := a9_k.up hl4; replace hO := hO.up hl4; replace it5_2 := it5_2.up hl4; replace a1_k := a1_k.up hl4; replace ff0_2 := ff0_2.up hl4; replace hs := hs.up hl4; replace ha := ha.up hl4; replace hfs := hfs.up hl4; replace hm := hm.up hl4)
        have hmo : movedOf vs (v, x) = ⟨x.msg.parcel.id, x.msg.parcel.kind, x.msg.parcel.cls, fs⟩ := by rw [movedOf, hfe]
        rw [hmo] at hsn
        (focus (refine Wr ?_; refine Sc rfl rfl rfl rfl rfl rfl rfl ?_; refine On ?_; refine WP_seq ?_; refine WP_cond rfl (fun c15_1 => ?_) (fun c15_1 => ?_) <;> (first | (simp [*] at c15_1; done) | (try simp at c15_1)); refine WP_exit ?_; refine then_e ?_; refine roundF_e ?_; refine block_e ?_; refine then_n ?_; refine R_region ?_; refine S_load rfl rfl rfl rfl rfl ?_; refine L_one (Rd.own m1) (ty rfl) ?_; refine S_load rfl rfl rfl rfl rfl ?_; refine L_agg (Rd.own m0) (ty rfl) (by first | rfl | assumption) ?_; refine S_c rfl rfl rfl (C_buildSlice rfl (elm rfl) (zer rfl) rfl ⟨_, _, _, rfl, rfl, rfl, rfl, rfl, rfl⟩ rfl rfl ?_); intro b15_2; refine S_q rfl rfl rfl (Q_build rfl (by decide +kernel) (zer rfl) ⟨_, _, _, _, _, _, _, rfl, fld rfl rfl, ty rfl, rfl, rfl, rfl, rfl⟩ rfl) ?_; refine S_c rfl rfl rfl (C_buildSlice rfl (elm rfl) (zer rfl) rfl ⟨_, _, _, rfl, rfl, rfl, rfl, rfl, rfl⟩ rfl rfl ?_); intro b15_3))
        (focus (refine OPS_keepM [_] [_] _ rfl ?_; rintro h16_k l16_k k16_k; have a16_k := at_of_keep k16_k; clear k16_k; replace hN := hN.up l16_k; replace a11_k := a11_k.up l16_k; replace a10_k := a10_k.up l16_k; replace a9_k := a9_k.up l16_k; replace hO := hO.up l16_k; replace it5_2 := it5_2.up l16_k; replace a1_k := a1_k.up l16_k; replace ff0_2 := ff0_2.up l16_k; replace hs := hs.up l16_k; replace ha := ha.up l16_k; replace hfs := hfs.up l16_k; replace hm := hm.up l16_k))
        refine S_w rfl rfl rfl (W_app1 (y := [(⟨x.msg.parcel.id, x.msg.parcel.kind, x.msg.parcel.cls, fs⟩ : Nd)]) (by_ := 24) [_, _, _] _ hO rfl rfl rfl rfl rfl rfl (elm rfl) (zer rfl) rfl rfl rfl rfl ⟨_, _, rfl, slb_of_at a16_k (Flat.one rfl rfl ⟨_, _, rfl, hN⟩) (by simp)⟩ (by omega) (by omega) ?_)
        rintro p3 c3 M3 hO3
        (focus (refine S_w0 rfl rfl (W_one rfl rfl rfl (ty rfl) u1 rfl rfl rfl ?_); refine OPS_nil ?_; refine block_n ?_))
        refine bodyS_n (gs ++ [[(⟨x.msg.parcel.id, x.msg.parcel.kind, x.msg.parcel.cls, fs⟩ : Nd)]], p3, c3, M3) ?_ (by repeat' first | exact sR _ | exact sA _ _ | exact sN _ | apply s2 | apply s1)
        refine ⟨le_trans hl2 (le_trans l9_k (le_trans l10_k (le_trans l11_k (le_trans hl4 l16_k)))), ?_, hO3⟩
        simp only; rw [hsn, hgs, List.append_assoc]
    · clear hO hgl hgs M p c gs
      rintro d h2 ⟨gs, p, c, M⟩ hl1 ⟨hl2, hgs, hO⟩
      simp only at hgs hO
      (replace it5_2 := it5_2.up hl1; replace a1_k := a1_k.up hl1; replace ff0_2 := ff0_2.up hl1; replace hs := hs.up hl1)
      have hb := sm.parts
      have hgr : unionR gs = graphR vs := by rw [graphR, graphParts, hgs]
      have hgl : gs.length ≤ 35 := by
        rw [hgs, List.length_append, List.length_map]; have := movedG_len vs (flightsOf vs); omega
      rw [graphParts, ← hgs] at hb
      (focus (refine block_n ?_; refine then_n ?_; refine Wr ?_; refine S_load rfl rfl rfl rfl rfl ?_; refine L_one (Rd.own m0) (ty rfl) ?_))
      refine OPS_keepM [_, _] M [dObj d] rfl fun h3 hl3 hm3 => ?_
      have hSL : SL h3 1 (GraphC 4398046511104) (.slice p gs.length c) gs := hO.sl hl3 (GraphC_mono _) hm3 (by omega)
      refine S_c rfl rfl rfl (C_call (union_s hSL hb) rfl rfl ⟨_, _, rfl, rfl, rfl⟩ (cal rfl) ?_)
      rintro h4 _ hl4 ⟨_, rfl, pg, cg, rfl, hg⟩
      (focus (refine S_q rfl rfl rfl (Q_extract rfl rfl rfl) ?_; refine S_q rfl rfl rfl (Q_extract rfl rfl rfl) ?_; refine S_w0 rfl rfl (W_all rfl rfl rfl (ty rfl) u1 (by first | rfl | assumption) (by first | rfl | assumption) (by first | rfl | assumption | exact ones_sub ‹_› _ _) ?_); refine Sm rfl ?_; refine On ?_; refine WP_ret ?_))
      refine nretP [_, _] (List.Sublist.refl _) (.inl rfl) rfl ⟨_, _, _, rfl, Loads_agg (Rd.own m1) (ty rfl) rfl, ⟨_, _, rfl, rfl, rfl⟩, rfl⟩ ?_
      rw [← hgr]
      exact ⟨_, rfl, _, _, rfl, hg⟩
    · rintro d e h1 L1 hl1 hx _; exact hx.elim
end Go.Proofs.YtfhoecgiahpddaaGreat
/-
  CONTRACTS: observer.Roots, observer.Reachable.
-/
set_option linter.all false
namespace Go.Proofs.YtfhoecgiahpddaaGreat
open Go.Mesh Go.RowKit
set_option maxRecDepth 100000
set_option linter.unusedVariables false
set_option maxHeartbeats 4000000
attribute [local irreducible] WP OPS ANY ANYo LG LV FSpec PSpec QOP OPc OPw thenQ blockQ roundQ roundF retQ retM Rd At SLB OS cmpI orI cmpID namedB valB nodeB kindB validG valAux idxI findG zeroV viewOf vwAt idxOf recv flyB scionOf moveOf numberedOf idOf valueOf mget mput localB carriedB stubOf followF followOf flOf flightsOf flPre setL minusL compactL putI mergeN insN insAll unionR NMap Coll retN bodyS GMap Dfs refsV refsOf reachL movedOf movedG graphParts graphR isMove
/-- the roots of a flight -/
def flightIDs (vs : List View) (i : View × Flight) : List ID :=
  if i.2.msg.kind = 0 then numberedOf vs i.1.machine i.2.to i.2.msg.number :: i.2.msg.args.map (idOf vs i.1.machine i.2.to)
  else if i.2.msg.kind = 17 then [idOf vs i.1.machine i.2.to i.2.msg.ref]
  else if i.2.msg.kind = 1 then i.2.msg.parcel.mail.flatMap fun l => i.2.msg.parcel.id :: l.map (idOf vs i.1.machine i.2.to)
  else []
def mailIDs (m : MailE) : List ID := m.to :: refsV m.args
def viewIDs (v : View) : List ID := v.names ++ v.mail.flatMap mailIDs
def rawRoots (vs : List View) : List ID := vs.flatMap viewIDs ++ (flightsOf vs).flatMap (flightIDs vs)
def rootsR (vs : List View) : List ID := minusL (setL (rawRoots vs)) [(0, 0)]
theorem flightIDs_len {vs : List View} (s : Small vs) {i : View × Flight} (hi : i ∈ flightsOf vs) : (flightIDs vs i).length ≤ 28 := by
  obtain ⟨hv, hx⟩ := flightsOf_mem hi
  have h1 := s.letter _ hv _ hx
  have h2 := s.pmail _ hv _ hx
  have h3 := flatMap_le (fun l : List Ref => i.2.msg.parcel.id :: l.map (idOf vs i.1.machine i.2.to)) 7 i.2.msg.parcel.mail (fun m hm => by
    have := s.pargs _ hv _ hx m hm
    simp; omega)
  unfold flightIDs
  split
  · simp; omega
  split
  · simp
  split
  · omega
  · simp
theorem viewIDs_len {vs : List View} (s : Small vs) {v : View} (hv : v ∈ vs) : (viewIDs v).length ≤ 48 := by
  have h1 := s.names v hv
  have h2 := s.mail v hv
  have h3 := flatMap_le mailIDs 7 v.mail (fun m hm => by
    have := s.args v hv m hm
    have h4 := refsV_length m.args
    simp [mailIDs]; omega)
  simp only [viewIDs, List.length_append]; omega
theorem pre_len {vs : List View} (s : Small vs) {pre : List (View × Flight)} (h : pre <+: flightsOf vs) : (vs.flatMap viewIDs ++ pre.flatMap (flightIDs vs)).length ≤ 2000 := by
  have h1 := flatMap_le viewIDs 48 vs fun v hv => viewIDs_len s hv
  have h2 := flatMap_le (flightIDs vs) 28 pre fun i hi => flightIDs_len s (h.subset hi)
  have h3 := h.length_le
  have h4 := s.fl
  have h5 := s.len
  simp only [List.length_append]; omega
theorem raw_len {vs : List View} (s : Small vs) : (rawRoots vs).length ≤ 2000 := pre_len s (List.prefix_refl _)
theorem roots_len {vs : List View} (s : Small vs) : (rootsR vs).length ≤ 2000 := by
  have h1 := setL_length (setL (rawRoots vs))
  have h2 := setL_length (rawRoots vs)
  have h3 := raw_len s
  rw [rootsR, minusL]
  exact Nat.le_trans (List.length_filter_le _ _) (by omega)
theorem flatMap_take {α β : Type} (f : α → List β) {l : List α} {k : Nat} {x : α} (hx : l[k]? = some x) : (l.take (k + 1)).flatMap f = (l.take k).flatMap f ++ f x := by
  simp [List.take_add_one, hx]
theorem map_take {α β : Type} (f : α → β) {l : List α} {k : Nat} {x : α} (hx : l[k]? = some x) : (l.take (k + 1)).map f = (l.take k).map f ++ [f x] := by
  simp [List.take_add_one, hx]
theorem flatMap_take_len {vs : List View} (s : Small vs) (k : Nat) : ((vs.take k).flatMap viewIDs).length ≤ 240 := by
  have h1 := flatMap_le viewIDs 48 (vs.take k) fun v hv => viewIDs_len s (List.mem_of_mem_take hv)
  have h2 : (vs.take k).length ≤ 5 := by rw [List.length_take]; have := s.len; omega
  omega
attribute [local irreducible] flightIDs mailIDs viewIDs rawRoots rootsR
theorem rootsAdd_s {h : Frag} {p : Option Addr} {c : Nat} {out : List ID} {M : Hp} {b4 b3 b13 b14 : Nat} {cs us ws : List Value} {vs : List View} {mf mt : Int} {l : Value} {rs : List Ref}
    (h3 : At h b3 0 cs) (hf : FleetC h vs cs) (h13 : At h b13 0 (.int .i64 mf :: us)) (h14 : At h b14 0 (.int .i64 mt :: ws)) (hl : SL h 8 RefC l rs) (ho : OS h 35 2 IDC (.slice p out.length c) out M) (hb : out.length + rs.length ≤ 1000000) :
    FSpec Tryz.prog 38 #[l, ptr b4 0, ptr b3 0, ptr b13 0, ptr b14 0] h ((b4, cells [.slice p out.length c] 31) :: M)
      (fun h' L' _ => h' = h ∧ ∃ p' c' M', L' = (b4, cells [.slice p' (out ++ rs.map (idOf vs mf mt)).length c'] 31) :: M' ∧ OS h 35 2 IDC (.slice p' (out ++ rs.map (idOf vs mf mt)).length c') (out ++ rs.map (idOf vs mf mt)) M') := by
  obtain ⟨pl, cl, rfl⟩ := hl.slice
  obtain ⟨pf, qf, mb, ms, rfl, fv, fm, fq⟩ := hf
  have hf : FleetC h vs [.slice pf vs.length qf, .map (some mb)] := ⟨pf, qf, mb, ms, rfl, fv, fm, fq⟩
  clear fq fm fv
  rw [show (b4, cells [Value.slice p out.length c] 31) :: M = (b4, cells [Value.slice p out.length c] 31) :: (M ++ []) by rw [List.append_nil]]
  refine spec_of (vs := [.slice pl rs.length cl, ptr b4 0, ptr b3 0, ptr b13 0, ptr b14 0]) Tryz.func38 Tryz.ntmps38 rfl rfl rfl ?_
  (focus (refine Wr ?_; refine Sm rfl ?_; refine S_q rfl rfl rfl (Q_len rfl rfl rfl rfl rfl rfl) ?_; refine Sm rfl ?_; refine On ?_; refine WP_block ?_))
  (refine WP_loopF (α := Nat × List ID × Option Addr × Nat × Hp) [9, 8, 1, 2, 3, 4] (fun (s : Nat × List ID × Option Addr × Nat × Hp) => rs.length - s.1) (fun (s : Nat × List ID × Option Addr × Nat × Hp) => (b4, cells [.slice s.2.2.1 s.2.1.length s.2.2.2.1] 31) :: (s.2.2.2.2 ++ [])) (fun (s : Nat × List ID × Option Addr × Nat × Hp) => [(10, .int .i64 (s.1 : Int))]) (fun hh (s : Nat × List ID × Option Addr × Nat × Hp) => hh = h ∧ s.1 ≤ rs.length ∧ s.2.1 = out ++ (rs.take s.1).map (idOf vs mf mt) ∧ OS h 35 2 IDC (.slice s.2.2.1 s.2.1.length s.2.2.2.1) s.2.1 s.2.2.2.2) (0, out, p, c, M) ⟨_, _, rfl, ⟨_, _, rfl, ⟨_, _, rfl, ⟨_, _, rfl, ⟨_, _, rfl, ⟨_, _, rfl, rfl, rfl⟩, rfl⟩, rfl⟩, rfl⟩, rfl⟩, rfl⟩ ?_ (by repeat' first | exact sR _ | exact sA _ _ | exact sN _ | apply s2 | apply s1) (by repeat' first | exact trivial | refine ⟨rfl, ?_⟩) ?_)
  · exact ⟨rfl, Nat.zero_le _, by simp, ho⟩
  rintro h1 ⟨k, oo, p1, c1, M1⟩ _ ⟨rfl, hk, hoe, hO⟩
  simp only at hk hoe hO
  dsimp only
  have hol : oo.length = out.length + k := by rw [hoe]; simp; omega
  by_cases hlt : k < rs.length
  · obtain ⟨r, er⟩ := get_of hlt
    have hmt := map_take (idOf vs mf mt) er
    (focus (refine Wr ?_; refine Sc rfl rfl rfl rfl rfl rfl rfl ?_; refine On ?_; refine WP_seq ?_; refine WP_cond rfl (fun c2_1 => ?_) (fun c2_1 => ?_) <;> (first | (simp [*] at c2_1; done) | (try simp at c2_1)); refine WP_skip ?_; refine then_n ?_; refine WP_seq ?_; refine WP_block ?_; refine Wr ?_; refine S_q rfl rfl rfl (Q_indexS ‹_› ‹_› rfl rfl rfl (elm rfl) rfl) ?_; refine S_load rfl rfl rfl rfl rfl ?_; refine L_elA ‹_› ‹_› (ty rfl) ?_; rintro _ _ _ rfl; refine S_c rfl rfl rfl (C_alloc rfl (zer rfl) ?_); intro b2_3; refine S_w0 rfl rfl (W_all rfl rfl rfl (ty rfl) u0 (by first | rfl | assumption) (by first | rfl | assumption) (by first | rfl | assumption | exact ones_sub ‹_› _ _) ?_); refine On ?_; refine R_draw (n := 11) mixed rfl ?_; refine A_at 0 rfl rfl ?_; refine A_load (m' := 1) rfl rfl rfl rfl rfl rfl (by decide +kernel) ?_; refine L_one (Rd.own m1) (ty rfl) ?_; refine A_at 1 rfl rfl ?_; refine A_load (m' := 3) rfl rfl rfl rfl rfl rfl (by decide +kernel) ?_; refine L_agg (Rd.pers ‹_›) (ty rfl) (by first | rfl | assumption) ?_; refine A_at 2 rfl rfl ?_; refine A_q (m' := 7) rfl rfl rfl (Q_fieldAddr rfl rfl (fld rfl rfl)) rfl (by decide +kernel) ?_; refine A_at 3 rfl rfl ?_; refine A_load (m' := 15) rfl rfl rfl rfl rfl rfl (by decide +kernel) ?_; refine L_fld (Rd.pers ‹_›) (ty rfl) rfl ?_; refine A_at 4 rfl rfl ?_; refine A_q (m' := 31) rfl rfl rfl (Q_fieldAddr rfl rfl (fld rfl rfl)) rfl (by decide +kernel) ?_; refine A_at 5 rfl rfl ?_; refine A_load (m' := 63) rfl rfl rfl rfl rfl rfl (by decide +kernel) ?_; refine L_fld (Rd.pers ‹_›) (ty rfl) rfl ?_; refine A_at 6 rfl rfl ?_; refine A_load (m' := 127) rfl rfl rfl rfl rfl rfl (by decide +kernel) ?_; refine L_agg (Rd.own m0) (ty rfl) (by first | rfl | assumption) ?_; refine A_at 7 rfl rfl ?_; refine A_c (m' := 255) rfl rfl rfl rfl (by decide +kernel) (C_callv (id_s ‹_›) rfl rfl ⟨_, _, rfl, ⟨_, _, rfl, ⟨_, _, rfl, ⟨_, _, rfl, rfl, rfl⟩, rfl⟩, rfl⟩, rfl⟩ (cal rfl) ?_); refine A_at 8 rfl rfl ?_; refine A_c (m' := 511) rfl rfl rfl rfl (by decide +kernel) (C_buildSlice rfl (elm rfl) (zer rfl) rfl ⟨_, _, _, rfl, rfl, rfl, rfl, rfl, rfl⟩ rfl rfl ?_); intro b2_4; refine A_at 9 rfl rfl ?_; refine A_w (m' := 1023) rfl rfl rfl rfl rfl (by decide +kernel) (W_app1 [_, _] _ ‹_› rfl rfl rfl rfl rfl rfl (elm rfl) (zer rfl) rfl rfl rfl rfl rfl (by (try simp only [lA]); omega) (by (try simp only [lA]); omega) ?_); rintro p2_5 q2_5 m2_5 o2_5; refine A_at 10 rfl rfl ?_; refine A_w0 (m' := 2047) rfl rfl rfl rfl (by decide +kernel) (W_one rfl rfl rfl (ty rfl) u1 rfl rfl rfl ?_); refine A_done (by decide +kernel) ?_; refine block_n ?_; refine then_n ?_; refine R_region ?_; refine S_q rfl rfl rfl (Q_add rfl rfl rfl (by omega)) ?_; refine Sm rfl ?_; refine OPS_nil ?_))
    refine roundF_n (k + 1, oo ++ [idOf vs mf mt r], p2_5, q2_5, m2_5) (by simp only; omega) ⟨rfl, by simp only; omega, ?_, o2_5⟩ (by repeat' first | exact sR _ | exact sA _ _ | exact sN _ | apply s2 | apply s1) (by repeat' first | exact trivial | refine ⟨rfl, ?_⟩)
    simp only; rw [hmt, hoe, List.append_assoc]
  · have hge : k = rs.length := by omega
    subst hge
    rw [List.take_length] at hoe
    subst hoe
    (focus (refine Wr ?_; refine Sc rfl rfl rfl rfl rfl rfl rfl ?_; refine On ?_; refine WP_seq ?_; refine WP_cond rfl (fun c3_1 => ?_) (fun c3_1 => ?_) <;> (first | (simp [*] at c3_1; done) | (try simp at c3_1)); refine WP_exit ?_; refine then_e ?_; refine roundF_e ?_; refine block_e ?_))
    exact ret_q (_ :: M1) (.inr rfl) rfl rfl (by simp) ⟨rfl, p1, c1, M1, rfl, hO⟩
theorem roots_s {h : Frag} {a : Value} {vs : List View} (hs : SL h 13 (ViewC 4398046511104) a vs) (sm : Small vs) : PSpec Tryz.prog 13 #[a] h (fun h' v => ∃ p c, v = .slice p (rootsR vs).length c ∧ SL h' 2 IDC (.slice p (rootsR vs).length c) (rootsR vs)) := by
  have hlen := sm.len
  obtain ⟨pv, cv, rfl⟩ := hs.slice
  refine pspec_ofN (vs := [.slice pv vs.length cv]) Tryz.func13 Tryz.ntmps13 rfl rfl ?_
  (focus (refine Wr ?_; refine Sm rfl ?_; refine On ?_; refine Wr ?_; refine Sm rfl ?_; refine S_c rfl rfl rfl (C_call (of_s ‹_›) rfl rfl ⟨_, _, rfl, rfl, rfl⟩ (cal rfl) ?_); rintro h0_1 _ l0_1 ⟨pf0_1, qf0_1, mb0_1, rfl, ff0_1⟩; replace hs := hs.up l0_1; refine S_c rfl rfl rfl (C_alloc rfl (zer rfl) ?_); intro b0_2; refine S_w0 rfl rfl (W_all rfl rfl rfl (ty rfl) u0 (by first | rfl | assumption) (by first | rfl | assumption) (by first | rfl | assumption | exact ones_sub ‹_› _ _) ?_); refine On ?_; refine Wr ?_; refine S_c rfl rfl rfl (C_alloc rfl (zer rfl) ?_); intro b0_3; refine On ?_; refine WP_seq ?_; refine Wr ?_; refine Sm rfl ?_; refine S_q rfl rfl rfl (Q_len rfl rfl rfl rfl rfl rfl) ?_; refine Sm rfl ?_; refine On ?_; refine WP_block ?_))
  (focus (refine WP_keepM [_] [_] _ rfl ?_; rintro h1_k l1_k k1_k; have a1_k := at_of_keep k1_k; clear k1_k; replace ff0_1 := ff0_1.up l1_k; replace hs := hs.up l1_k))
  (refine WP_loopF (α := Nat × List ID × Option Addr × Nat × Hp) [22, 21, 4, 3] (fun (s : Nat × List ID × Option Addr × Nat × Hp) => vs.length - s.1) (fun (s : Nat × List ID × Option Addr × Nat × Hp) => (b0_3, cells [.slice s.2.2.1 s.2.1.length s.2.2.2.1] 31) :: (s.2.2.2.2 ++ [])) (fun (s : Nat × List ID × Option Addr × Nat × Hp) => [(23, .int .i64 (s.1 : Int))]) (fun hh (s : Nat × List ID × Option Addr × Nat × Hp) => hh = h1_k ∧ s.1 ≤ vs.length ∧ s.2.1 = (vs.take s.1).flatMap viewIDs ∧ OS h1_k 35 2 IDC (.slice s.2.2.1 s.2.1.length s.2.2.2.1) s.2.1 s.2.2.2.2) (0, [], none, 0, []) ⟨_, _, rfl, ⟨_, _, rfl, ⟨_, _, rfl, ⟨_, _, rfl, rfl, rfl⟩, rfl⟩, rfl⟩, rfl⟩ ?_ (by repeat' first | exact sR _ | exact sA _ _ | exact sN _ | apply s2 | apply s1) (by repeat' first | exact trivial | refine ⟨rfl, ?_⟩) ?_)
  · exact ⟨rfl, Nat.zero_le _, rfl, OS.nil _ _ _ _⟩
  rintro h1 ⟨k, out, p, c, M⟩ _ ⟨rfl, hk, hoe, hO⟩
  simp only at hk hoe hO
  dsimp only
  have hol : out.length ≤ 240 := by rw [hoe]; exact flatMap_take_len sm k
  by_cases hlt : k < vs.length
  · obtain ⟨v, ev⟩ := get_of hlt
    have hvm : v ∈ vs := List.mem_of_getElem? ev
    have hn6 := sm.names v hvm
    have hm6 := sm.mail v hvm
    have ha6 := sm.args v hvm
    have hvt := flatMap_take viewIDs ev
    (focus (refine Wr ?_; refine Sc rfl rfl rfl rfl rfl rfl rfl ?_; refine On ?_; refine WP_seq ?_; refine WP_cond rfl (fun c3_1 => ?_) (fun c3_1 => ?_) <;> (first | (simp [*] at c3_1; done) | (try simp at c3_1)); refine WP_skip ?_; refine then_n ?_; refine WP_seq ?_; refine WP_block ?_; refine Wr ?_; refine S_q rfl rfl rfl (Q_indexS ‹_› ‹_› rfl rfl rfl (elm rfl) rfl) ?_; refine S_load rfl rfl rfl rfl rfl ?_; refine L_elA ‹_› ‹_› (ty rfl) ?_; rintro _ _ _ ⟨xi3_2, xa3_2, po3_2, qo3_2, ps3_2, qs3_2, pc3_2, qc3_2, pn3_2, qn3_2, pm3_2, qm3_2, xw3_2, xv3_2, pf3_2, qf3_2, pr3_2, qr3_2, xe3_2, xf3_2, rfl, vo3_2, vs3_2, vc3_2, vn3_2, vm3_2, vf3_2, vr3_2⟩; refine S_c rfl rfl rfl (C_alloc rfl (zer rfl) ?_); intro b3_3; refine S_w0 rfl rfl (W_all rfl rfl rfl (ty rfl) u0 (by first | rfl | assumption) (by first | rfl | assumption) (by first | rfl | assumption | exact ones_sub ‹_› _ _) ?_); refine On ?_; refine WP_seq ?_; refine Wr ?_; refine Sf rfl rfl rfl rfl rfl (fld rfl rfl) ?_; refine S_load rfl rfl rfl rfl rfl ?_; refine L_fld (Rd.own m0) (ty rfl) rfl ?_; refine S_q rfl rfl rfl (Q_len rfl rfl rfl rfl rfl rfl) ?_; refine Sm rfl ?_; refine On ?_; refine WP_block ?_))
    (refine WP_loopM (α := Nat × List ID × Option Addr × Nat × Hp) [_]  _ [29, 28, 6, 23, 22, 21, 4, 3] (fun (s : Nat × List ID × Option Addr × Nat × Hp) => v.names.length - s.1) (fun (s : Nat × List ID × Option Addr × Nat × Hp) =>  ((b0_3, cells [.slice s.2.2.1 s.2.1.length s.2.2.2.1] 31) :: s.2.2.2.2)) (fun (s : Nat × List ID × Option Addr × Nat × Hp) => [(30, .int .i64 (s.1 : Int))]) (fun hh (s : Nat × List ID × Option Addr × Nat × Hp) => hh = h1 ∧ s.1 ≤ v.names.length ∧ s.2.1 = out ++ v.names.take s.1 ∧ OS h1 35 2 IDC (.slice s.2.2.1 s.2.1.length s.2.2.2.1) s.2.1 s.2.2.2.2) (0, out, p, c, M) rfl ⟨_, _, rfl, ⟨_, _, rfl, ⟨_, _, rfl, ⟨_, _, rfl, ⟨_, _, rfl, ⟨_, _, rfl, ⟨_, _, rfl, ⟨_, _, rfl, rfl, rfl⟩, rfl⟩, rfl⟩, rfl⟩, rfl⟩, rfl⟩, rfl⟩, rfl⟩ (by repeat' first | exact trivial | refine ⟨rfl, ?_⟩) ?_ ?_)
    · exact ⟨rfl, Nat.zero_le _, by simp, hO⟩
    clear hO M p c
    rintro h2 ⟨j, oo, p, c, M⟩ _ ⟨rfl, hj, hoo, hO⟩
    simp only at hj hoo hO
    dsimp only
    have hool : oo.length ≤ out.length + 6 := by rw [hoo, List.length_append, List.length_take]; omega
    by_cases hlt2 : j < v.names.length
    · obtain ⟨⟨n1, n2⟩, en⟩ := get_of hlt2
      (focus (refine Wr ?_; refine Sc rfl rfl rfl rfl rfl rfl rfl ?_; refine On ?_; refine WP_seq ?_; refine WP_cond rfl (fun c5_1 => ?_) (fun c5_1 => ?_) <;> (first | (simp [*] at c5_1; done) | (try simp at c5_1)); refine WP_skip ?_; refine then_n ?_; refine WP_seq ?_; refine WP_block ?_; refine Wr ?_; refine S_q rfl rfl rfl (Q_indexS ‹_› ‹_› rfl rfl rfl (elm rfl) rfl) ?_; refine S_load rfl rfl rfl rfl rfl ?_; refine L_elA ‹_› ‹_› (ty rfl) ?_; rintro _ _ _ ⟨xa5_2, rfl⟩; refine S_c rfl rfl rfl (C_alloc rfl (zer rfl) ?_); intro b5_3; refine S_w0 rfl rfl (W_all rfl rfl rfl (ty rfl) u0 (by first | rfl | assumption) (by first | rfl | assumption) (by first | rfl | assumption | exact ones_sub ‹_› _ _) ?_); refine On ?_; refine R_region ?_; refine S_load rfl rfl rfl rfl rfl ?_; refine L_one (Rd.own m2) (ty rfl) ?_; refine Sf rfl rfl rfl rfl rfl (fld rfl rfl) ?_; refine S_load rfl rfl rfl rfl rfl ?_; refine L_sub (Rd.own m0) (ty rfl) rfl ?_; refine S_c rfl rfl rfl (C_buildSlice rfl (elm rfl) (zer rfl) rfl ⟨_, _, _, rfl, rfl, rfl, rfl, rfl, rfl⟩ rfl rfl ?_); intro b5_4; refine S_w rfl rfl rfl (W_app1 [_, _, _] _ ‹_› rfl rfl rfl rfl rfl rfl (elm rfl) (zer rfl) rfl rfl rfl rfl rfl (by (try simp only [lA]); omega) (by (try simp only [lA]); omega) ?_); rintro p5_5 q5_5 m5_5 o5_5; refine S_w0 rfl rfl (W_one rfl rfl rfl (ty rfl) u2 rfl rfl rfl ?_); refine OPS_nil ?_; refine block_n ?_; refine then_n ?_; refine R_region ?_; refine S_q rfl rfl rfl (Q_add rfl rfl rfl (by omega)) ?_; refine Sm rfl ?_; refine OPS_nil ?_))
      refine roundF_n (j + 1, oo ++ [(n1, n2)], p5_5, q5_5, m5_5) (by simp only; omega) ⟨rfl, by simp only; omega, ?_, o5_5⟩ (by repeat' first | exact sR _ | exact sA _ _ | exact sN _ | apply s2 | apply s1) (by repeat' first | exact trivial | refine ⟨rfl, ?_⟩)
      simp only; rw [hoo, List.take_add_one, en]; simp
    · have hge : j = v.names.length := by omega
      subst hge
      rw [List.take_length] at hoo
      (focus (refine Wr ?_; refine Sc rfl rfl rfl rfl rfl rfl rfl ?_; refine On ?_; refine WP_seq ?_; refine WP_cond rfl (fun c6_1 => ?_) (fun c6_1 => ?_) <;> (first | (simp [*] at c6_1; done) | (try simp at c6_1)); refine WP_exit ?_; refine then_e ?_; refine roundF_e ?_; refine block_e ?_; refine then_n ?_; refine Wr ?_; refine Sf rfl rfl rfl rfl rfl (fld rfl rfl) ?_; refine S_load rfl rfl rfl rfl rfl ?_; refine L_fld (Rd.own m0) (ty rfl) rfl ?_; refine S_q rfl rfl rfl (Q_len rfl rfl rfl rfl rfl rfl) ?_; refine Sm rfl ?_; refine On ?_; refine WP_block ?_))
      (refine WP_loopM (α := Nat × List ID × Option Addr × Nat × Hp) [_]  _ [42, 41, 23, 22, 21, 4, 3] (fun (s : Nat × List ID × Option Addr × Nat × Hp) => v.mail.length - s.1) (fun (s : Nat × List ID × Option Addr × Nat × Hp) =>  ((b0_3, cells [.slice s.2.2.1 s.2.1.length s.2.2.2.1] 31) :: s.2.2.2.2)) (fun (s : Nat × List ID × Option Addr × Nat × Hp) => [(43, .int .i64 (s.1 : Int))]) (fun hh (s : Nat × List ID × Option Addr × Nat × Hp) => hh = h2 ∧ s.1 ≤ v.mail.length ∧ s.2.1 = oo ++ (v.mail.take s.1).flatMap mailIDs ∧ OS h2 35 2 IDC (.slice s.2.2.1 s.2.1.length s.2.2.2.1) s.2.1 s.2.2.2.2) (0, oo, p, c, M) rfl ⟨_, _, rfl, ⟨_, _, rfl, ⟨_, _, rfl, ⟨_, _, rfl, ⟨_, _, rfl, ⟨_, _, rfl, ⟨_, _, rfl, rfl, rfl⟩, rfl⟩, rfl⟩, rfl⟩, rfl⟩, rfl⟩, rfl⟩ (by repeat' first | exact trivial | refine ⟨rfl, ?_⟩) ?_ ?_)
      · exact ⟨rfl, Nat.zero_le _, by simp, hO⟩
      clear hO M p c
      rintro h3 ⟨i, o3, p, c, M⟩ _ ⟨rfl, hi, ho3, hO⟩
      simp only at hi ho3 hO
      dsimp only
      have ho3l : o3.length ≤ oo.length + 42 := by
        have := flatMap_le mailIDs 7 (v.mail.take i) (fun m hm => by
          have h1 := ha6 m (List.mem_of_mem_take hm)
          have h2 := refsV_length m.args
          simp [mailIDs]; omega)
        rw [List.length_take] at this
        rw [ho3, List.length_append]; omega
      by_cases hlt3 : i < v.mail.length
      · obtain ⟨⟨⟨t1, t2⟩, ag⟩, em⟩ := get_of hlt3
        have hmt := flatMap_take mailIDs em
        have hag : ag.length ≤ 6 := ha6 _ (List.mem_of_getElem? em)
        (focus (refine Wr ?_; refine Sc rfl rfl rfl rfl rfl rfl rfl ?_; refine On ?_; refine WP_seq ?_; refine WP_cond rfl (fun c8_1 => ?_) (fun c8_1 => ?_) <;> (first | (simp [*] at c8_1; done) | (try simp at c8_1)); refine WP_skip ?_; refine then_n ?_; refine WP_seq ?_; refine WP_block ?_; refine Wr ?_; refine S_q rfl rfl rfl (Q_indexS ‹_› ‹_› rfl rfl rfl (elm rfl) rfl) ?_; refine S_load rfl rfl rfl rfl rfl ?_; refine L_elA ‹_› ‹_› (ty rfl) ?_; rintro _ _ _ ⟨xa8_2, xb8_2, xm8_2, pl8_2, ql8_2, rfl, fl8_2⟩; refine S_c rfl rfl rfl (C_alloc rfl (zer rfl) ?_); intro b8_3; refine S_w0 rfl rfl (W_all rfl rfl rfl (ty rfl) u0 (by first | rfl | assumption) (by first | rfl | assumption) (by first | rfl | assumption | exact ones_sub ‹_› _ _) ?_); refine On ?_; refine Wr ?_; refine S_load rfl rfl rfl rfl rfl ?_; refine L_one (Rd.own m2) (ty rfl) ?_; refine Sf rfl rfl rfl rfl rfl (fld rfl rfl) ?_; refine S_load rfl rfl rfl rfl rfl ?_; refine L_sub (Rd.own m0) (ty rfl) rfl ?_; refine S_c rfl rfl rfl (C_buildSlice rfl (elm rfl) (zer rfl) rfl ⟨_, _, _, rfl, rfl, rfl, rfl, rfl, rfl⟩ rfl rfl ?_); intro b8_4; refine S_w rfl rfl rfl (W_app1 [_, _, _] _ ‹_› rfl rfl rfl rfl rfl rfl (elm rfl) (zer rfl) rfl rfl rfl rfl rfl (by (try simp only [lA]); omega) (by (try simp only [lA]); omega) ?_); rintro p8_5 q8_5 m8_5 o8_5; refine S_w0 rfl rfl (W_one rfl rfl rfl (ty rfl) u2 rfl rfl rfl ?_); refine On ?_; refine Wr ?_; refine Sf rfl rfl rfl rfl rfl (fld rfl rfl) ?_; refine S_load rfl rfl rfl rfl rfl ?_; refine L_fld (Rd.own m0) (ty rfl) rfl ?_; refine S_q rfl rfl rfl (Q_len rfl rfl rfl rfl rfl rfl) ?_; refine Sm rfl ?_; refine On ?_; refine WP_block ?_))
        (refine WP_loopM (α := Nat × List ID × Option Addr × Nat × Hp) [_, _]  _ [54, 53, 43, 42, 41, 23, 22, 21, 4, 3] (fun (s : Nat × List ID × Option Addr × Nat × Hp) => ag.length - s.1) (fun (s : Nat × List ID × Option Addr × Nat × Hp) =>  ((b0_3, cells [.slice s.2.2.1 s.2.1.length s.2.2.2.1] 31) :: s.2.2.2.2)) (fun (s : Nat × List ID × Option Addr × Nat × Hp) => [(55, .int .i64 (s.1 : Int))]) (fun hh (s : Nat × List ID × Option Addr × Nat × Hp) => hh = h3 ∧ s.1 ≤ ag.length ∧ s.2.1 = (o3 ++ [(t1, t2)]) ++ refsV (ag.take s.1) ∧ OS h3 35 2 IDC (.slice s.2.2.1 s.2.1.length s.2.2.2.1) s.2.1 s.2.2.2.2) (0, o3 ++ [(t1, t2)], p8_5, q8_5, m8_5) rfl ⟨_, _, rfl, ⟨_, _, rfl, ⟨_, _, rfl, ⟨_, _, rfl, ⟨_, _, rfl, ⟨_, _, rfl, ⟨_, _, rfl, ⟨_, _, rfl, ⟨_, _, rfl, ⟨_, _, rfl, rfl, rfl⟩, rfl⟩, rfl⟩, rfl⟩, rfl⟩, rfl⟩, rfl⟩, rfl⟩, rfl⟩, rfl⟩ (by repeat' first | exact trivial | refine ⟨rfl, ?_⟩) ?_ ?_)
        · exact ⟨rfl, Nat.zero_le _, by simp [refsV_nil], o8_5⟩
        clear hO M p c
        rintro h4 ⟨r, o4, p, c, M⟩ _ ⟨rfl, hr, ho4, hO⟩
        simp only at hr ho4 hO
        dsimp only
        have ho4l : o4.length ≤ o3.length + 7 := by
          have := refsV_length (ag.take r)
          rw [List.length_take] at this
          rw [ho4]; simp only [List.length_append, List.length_cons, List.length_nil]; omega
        by_cases hlt4 : r < ag.length
        · obtain ⟨⟨f1, f2, i1, i2⟩, ex⟩ := get_of hlt4
          have htk := refsV_take ex
          (focus (refine Wr ?_; refine Sc rfl rfl rfl rfl rfl rfl rfl ?_; refine On ?_; refine WP_seq ?_; refine WP_cond rfl (fun c10_1 => ?_) (fun c10_1 => ?_) <;> (first | (simp [*] at c10_1; done) | (try simp at c10_1)); refine WP_skip ?_; refine then_n ?_; refine WP_seq ?_; refine WP_block ?_; refine Wr ?_; refine S_q rfl rfl rfl (Q_indexS ‹_› ‹_› rfl rfl rfl (elm rfl) rfl) ?_; refine S_load rfl rfl rfl rfl rfl ?_; refine L_elA ‹_› ‹_› (ty rfl) ?_; rintro _ _ _ rfl; refine S_c rfl rfl rfl (C_alloc rfl (zer rfl) ?_); intro b10_3; refine S_w0 rfl rfl (W_all rfl rfl rfl (ty rfl) u0 (by first | rfl | assumption) (by first | rfl | assumption) (by first | rfl | assumption | exact ones_sub ‹_› _ _) ?_); refine On ?_; refine Wr ?_; refine Sf rfl rfl rfl rfl rfl (fld rfl rfl) ?_; refine S_load rfl rfl rfl rfl rfl ?_; refine L_fld (Rd.own m0) (ty rfl) rfl ?_; refine Sc rfl rfl rfl rfl rfl rfl rfl ?_; refine On ?_; refine WP_cond rfl (fun c10_4 => ?_) (fun c10_4 => ?_) <;> (first | (simp [*] at c10_4; done) | (try simp at c10_4)); (focus (refine R_region ?_; refine S_load rfl rfl rfl rfl rfl ?_; refine L_one (Rd.own m3) (ty rfl) ?_; refine Sf rfl rfl rfl rfl rfl (fld rfl rfl) ?_; refine S_load rfl rfl rfl rfl rfl ?_; refine L_sub (Rd.own m0) (ty rfl) rfl ?_; refine S_c rfl rfl rfl (C_buildSlice rfl (elm rfl) (zer rfl) rfl ⟨_, _, _, rfl, rfl, rfl, rfl, rfl, rfl⟩ rfl rfl ?_); intro b10_5; refine S_w rfl rfl rfl (W_app1 [_, _, _, _] _ ‹_› rfl rfl rfl rfl rfl rfl (elm rfl) (zer rfl) rfl rfl rfl rfl rfl (by (try simp only [lA]); omega) (by (try simp only [lA]); omega) ?_); rintro p10_6 q10_6 m10_6 o10_6; refine S_w0 rfl rfl (W_one rfl rfl rfl (ty rfl) u3 rfl rfl rfl ?_); refine OPS_nil ?_; refine block_n ?_; refine then_n ?_; refine R_region ?_; refine S_q rfl rfl rfl (Q_add rfl rfl rfl (by omega)) ?_; refine Sm rfl ?_; refine OPS_nil ?_)); rotate_left 1; (focus (refine WP_skip ?_; refine block_n ?_; refine then_n ?_; refine R_region ?_; refine S_q rfl rfl rfl (Q_add rfl rfl rfl (by omega)) ?_; refine Sm rfl ?_; refine OPS_nil ?_)); rotate_left 1))
          · simp only [c10_4, if_true] at htk
            refine roundF_n (r + 1, o4 ++ [(i1, i2)], p10_6, q10_6, m10_6) (by simp only; omega) ⟨rfl, by simp only; omega, ?_, o10_6⟩ (by repeat' first | exact sR _ | exact sA _ _ | exact sN _ | apply s2 | apply s1) (by repeat' first | exact trivial | refine ⟨rfl, ?_⟩)
            simp only; rw [htk, ho4]; simp only [List.append_assoc]
          · simp only [c10_4, if_false, List.append_nil] at htk
            refine roundF_n (r + 1, o4, p, c, M) (by simp only; omega) ⟨rfl, by simp only; omega, ?_, hO⟩ (by repeat' first | exact sR _ | exact sA _ _ | exact sN _ | apply s2 | apply s1) (by repeat' first | exact trivial | refine ⟨rfl, ?_⟩)
            simp only; rw [htk, ho4]
        · have hge : r = ag.length := by omega
          subst hge
          rw [List.take_length] at ho4
          (focus (refine Wr ?_; refine Sc rfl rfl rfl rfl rfl rfl rfl ?_; refine On ?_; refine WP_seq ?_; refine WP_cond rfl (fun c11_1 => ?_) (fun c11_1 => ?_) <;> (first | (simp [*] at c11_1; done) | (try simp at c11_1)); refine WP_exit ?_; refine then_e ?_; refine roundF_e ?_; refine block_e ?_; refine block_n ?_; refine then_n ?_; refine R_region ?_; refine S_q rfl rfl rfl (Q_add rfl rfl rfl (by omega)) ?_; refine Sm rfl ?_; refine OPS_nil ?_))
          refine roundF_n (i + 1, o4, p, c, M) (by simp only; omega) ⟨rfl, by simp only; omega, ?_, hO⟩ (by repeat' first | exact sR _ | exact sA _ _ | exact sN _ | apply s2 | apply s1) (by repeat' first | exact trivial | refine ⟨rfl, ?_⟩)
          simp only; rw [hmt, ho4, ho3, mailIDs]; simp only [List.append_assoc, List.cons_append, List.nil_append]
      · have hge : i = v.mail.length := by omega
        subst hge
        rw [List.take_length] at ho3
        (focus (refine Wr ?_; refine Sc rfl rfl rfl rfl rfl rfl rfl ?_; refine On ?_; refine WP_seq ?_; refine WP_cond rfl (fun c12_1 => ?_) (fun c12_1 => ?_) <;> (first | (simp [*] at c12_1; done) | (try simp at c12_1)); refine WP_exit ?_; refine then_e ?_; refine roundF_e ?_; refine block_e ?_; refine block_n ?_; refine then_n ?_; refine R_region ?_; refine S_q rfl rfl rfl (Q_add rfl rfl rfl (by omega)) ?_; refine Sm rfl ?_; refine OPS_nil ?_))
        refine roundF_n (k + 1, o3, p, c, M) (by simp only; omega) ⟨rfl, by simp only; omega, ?_, hO⟩ (by repeat' first | exact sR _ | exact sA _ _ | exact sN _ | apply s2 | apply s1) (by repeat' first | exact trivial | refine ⟨rfl, ?_⟩)
        simp only; rw [hvt, ho3, hoo, hoe, viewIDs, List.append_assoc]
  · have hge : k = vs.length := by omega
    subst hge
    rw [List.take_length] at hoe
    (focus (refine Wr ?_; refine Sc rfl rfl rfl rfl rfl rfl rfl ?_; refine On ?_; refine WP_seq ?_; refine WP_cond rfl (fun c13_1 => ?_) (fun c13_1 => ?_) <;> (first | (simp [*] at c13_1; done) | (try simp at c13_1)); refine WP_exit ?_; refine then_e ?_; refine roundF_e ?_; refine block_e ?_; refine then_n ?_; refine WP_seq ?_; refine Wr ?_; refine S_load rfl rfl rfl rfl rfl ?_; refine L_agg (Rd.pers ‹_›) (ty rfl) (by first | rfl | assumption) ?_; refine S_c rfl rfl rfl (C_call (flights_s ‹_›) rfl rfl ⟨_, _, rfl, rfl, rfl⟩ (cal rfl) ?_); rintro h13_2 _ l13_2 ⟨bi13_2, rfl, it13_2⟩; replace a1_k := a1_k.up l13_2; replace ff0_1 := ff0_1.up l13_2; replace hs := hs.up l13_2; replace hO := hO.up l13_2; refine On ?_; refine WP_block ?_))
    refine WP_rangeS [] [] (fun s : List ID × Option Addr × Nat × Hp => (b0_3, cells [.slice s.2.1 s.1.length s.2.2.1] 31) :: s.2.2.2)
      (fun pre hh s => le h13_2 hh ∧ s.1 = vs.flatMap viewIDs ++ pre.flatMap (flightIDs vs) ∧ OS hh 35 2 IDC (.slice s.2.1 s.1.length s.2.2.1) s.1 s.2.2.2) (fun _ _ _ => False) (out, p, c, M) it13_2 rfl Tryz.func77 (by decide) rfl (by rintro _ _ _ ⟨_, _, rfl, _⟩; rfl) rfl rfl ⟨le_refl _, by simp [hoe], hO⟩ ?_ ?_ ?_
    · clear hO hol hoe M p c out
      rintro l pre ⟨v, x⟩ _ h2 ⟨out, p, c, M⟩ hl1 ⟨hl2, hoe, hO⟩ hp ⟨us, ws, rfl, hu1, hu2, hu3, hw1, hw2, hw3⟩
      simp only at hoe hO hu3 hw3
      obtain ⟨hvm, hxm⟩ := flightsOf_mem (hp.subset (by simp : (v, x) ∈ pre ++ [(v, x)]))
      have hsn : (pre ++ [(v, x)]).flatMap (flightIDs vs) = pre.flatMap (flightIDs vs) ++ flightIDs vs (v, x) := by simp
      have hol : out.length ≤ 2000 := by rw [hoe]; exact pre_len sm ((List.prefix_append _ _).trans hp)
      have hl6 := sm.letter v hvm x hxm
      have hp6 := sm.pmail v hvm x hxm
      have hq6 := sm.pargs v hvm x hxm
      (replace it13_2 := it13_2.up hl1; replace a1_k := a1_k.up hl1; replace ff0_1 := ff0_1.up hl1; replace hs := hs.up hl1)
      obtain ⟨hi, xa, po, qo, qs, qt, pc, qc, pn, qn, pm, qm, xw, xv, pf, qf, pr, qr, xe, xf, rfl, -⟩ := hu3
      obtain ⟨ya, yb, yc, yd, ye, pa, qa, pg, qg, ph, qh, yw, y1, y2, y3, y4, y5, y6, y7, y8, y9, y10, y11, y12, y13, y14, y15, rfl, ha, hfs, hm⟩ := hw3
      dsimp only [parFr]
      (focus (refine Wr ?_; refine S_c rfl rfl rfl (C_alloc rfl (zer rfl) ?_); intro b15_1; refine S_w0 rfl rfl (W_all rfl rfl rfl (ty rfl) u0 (by first | rfl | assumption) (by first | rfl | assumption) (by first | rfl | assumption | exact ones_sub ‹_› _ _) ?_); refine On ?_; refine R_region ?_; refine S_c rfl rfl rfl (C_alloc rfl (zer rfl) ?_); intro b15_2; refine S_w0 rfl rfl (W_all rfl rfl rfl (ty rfl) u0 (by first | rfl | assumption) (by first | rfl | assumption) (by first | rfl | assumption | exact ones_sub ‹_› _ _) ?_); refine On ?_))
      refine ⟨rfl, ?_⟩
      (focus (refine WP_keepM [] [_] _ rfl ?_; rintro h16_k l16_k k16_k; have a16_k := at_of_keep k16_k; clear k16_k; replace hO := hO.up l16_k; replace it13_2 := it13_2.up l16_k; replace a1_k := a1_k.up l16_k; replace ff0_1 := ff0_1.up l16_k; replace hs := hs.up l16_k; replace ha := ha.up l16_k; replace hfs := hfs.up l16_k; replace hm := hm.up l16_k))
      (focus (refine WP_keepM [] [_] _ rfl ?_; rintro h17_k l17_k k17_k; have a17_k := at_of_keep k17_k; clear k17_k; replace a16_k := a16_k.up l17_k; replace hO := hO.up l17_k; replace it13_2 := it13_2.up l17_k; replace a1_k := a1_k.up l17_k; replace ff0_1 := ff0_1.up l17_k; replace hs := hs.up l17_k; replace ha := ha.up l17_k; replace hfs := hfs.up l17_k; replace hm := hm.up l17_k))
      (focus (refine WP_block ?_; refine Wr ?_; refine S_q rfl rfl rfl (Q_makeFunc rfl rfl ⟨_, _, rfl, ⟨_, _, rfl, ⟨_, _, rfl, ⟨_, _, rfl, rfl, rfl⟩, rfl⟩, rfl⟩, rfl⟩) ?_; refine Sm rfl ?_; refine On ?_; refine Wr ?_; refine Sf rfl rfl rfl rfl rfl (fld rfl rfl) ?_; refine S_load rfl rfl rfl rfl rfl ?_; refine L_sub (Rd.pers ‹_›) (ty rfl) rfl ?_; refine S_c rfl rfl rfl (C_alloc rfl (zer rfl) ?_); intro b18_1; refine S_w0 rfl rfl (W_all rfl rfl rfl (ty rfl) u0 (by first | rfl | assumption) (by first | rfl | assumption) (by first | rfl | assumption | exact ones_sub ‹_› _ _) ?_); refine On ?_; refine Wr ?_; refine Sf rfl rfl rfl rfl rfl (fld rfl rfl) ?_; refine S_load rfl rfl rfl rfl rfl ?_; refine L_fld (Rd.own m0) (ty rfl) rfl ?_; refine On ?_; refine WP_block ?_; refine Wr ?_; refine Sc rfl rfl rfl rfl rfl rfl rfl ?_; refine Sm rfl ?_; refine On ?_; refine WP_cond rfl (fun c18_2 => ?_) (fun c18_2 => ?_) <;> (first | (simp [*] at c18_2; done) | (try simp at c18_2)); (focus (refine WP_seq ?_; refine R_draw (n := 12) mixed rfl ?_; refine A_at 0 rfl rfl ?_; refine A_load (m' := 1) rfl rfl rfl rfl rfl rfl (by decide +kernel) ?_; refine L_one (Rd.own m1) (ty rfl) ?_; refine A_at 1 rfl rfl ?_; refine A_load (m' := 3) rfl rfl rfl rfl rfl rfl (by decide +kernel) ?_; refine L_agg (Rd.pers ‹_›) (ty rfl) (by first | rfl | assumption) ?_; refine A_at 2 rfl rfl ?_; refine A_q (m' := 7) rfl rfl rfl (Q_fieldAddr rfl rfl (fld rfl rfl)) rfl (by decide +kernel) ?_; refine A_at 3 rfl rfl ?_; refine A_load (m' := 15) rfl rfl rfl rfl rfl rfl (by decide +kernel) ?_; refine L_fld (Rd.pers ‹_›) (ty rfl) rfl ?_; refine A_at 4 rfl rfl ?_; refine A_q (m' := 31) rfl rfl rfl (Q_fieldAddr rfl rfl (fld rfl rfl)) rfl (by decide +kernel) ?_; refine A_at 5 rfl rfl ?_; refine A_load (m' := 63) rfl rfl rfl rfl rfl rfl (by decide +kernel) ?_; refine L_fld (Rd.pers ‹_›) (ty rfl) rfl ?_; refine A_at 6 rfl rfl ?_; refine A_q (m' := 127) rfl rfl rfl (Q_fieldAddr rfl rfl (fld rfl rfl)) rfl (by decide +kernel) ?_; refine A_at 7 rfl rfl ?_; refine A_load (m' := 255) rfl rfl rfl rfl rfl rfl (by decide +kernel) ?_; refine L_fld (Rd.own m0) (ty rfl) rfl ?_; refine A_at 8 rfl rfl ?_; refine A_c (m' := 511) rfl rfl rfl rfl (by decide +kernel) (C_callv (numbered_s ‹_›) rfl rfl ⟨_, _, rfl, ⟨_, _, rfl, ⟨_, _, rfl, ⟨_, _, rfl, rfl, rfl⟩, rfl⟩, rfl⟩, rfl⟩ (cal rfl) ?_); refine A_at 9 rfl rfl ?_; refine A_c (m' := 1023) rfl rfl rfl rfl (by decide +kernel) (C_buildSlice rfl (elm rfl) (zer rfl) rfl ⟨_, _, _, rfl, rfl, rfl, rfl, rfl, rfl⟩ rfl rfl ?_); intro b18_3; refine A_at 10 rfl rfl ?_; refine A_w (m' := 2047) rfl rfl rfl rfl rfl (by decide +kernel) (W_app1 [_, _] _ ‹_› rfl rfl rfl rfl rfl rfl (elm rfl) (zer rfl) rfl rfl rfl rfl rfl (by (try simp only [lA]); omega) (by (try simp only [lA]); omega) ?_); rintro p18_4 q18_4 m18_4 o18_4; refine A_at 11 rfl rfl ?_; refine A_w0 (m' := 4095) rfl rfl rfl rfl (by decide +kernel) (W_one rfl rfl rfl (ty rfl) u1 rfl rfl rfl ?_); refine A_done (by decide +kernel) ?_; refine then_n ?_; refine R_region ?_; refine Sm rfl ?_; refine Sf rfl rfl rfl rfl rfl (fld rfl rfl) ?_; refine Sf rfl rfl rfl rfl rfl (fld rfl rfl) ?_; refine S_load rfl rfl rfl rfl rfl ?_; refine L_fld2 (Rd.own m0) ?_; refine LV_1 (ty rfl) rfl ?_)); rotate_left 1; (focus (refine Wr ?_; refine Sc rfl rfl rfl rfl rfl rfl rfl ?_; refine Sm rfl ?_; refine On ?_; refine WP_cond rfl (fun c18_5 => ?_) (fun c18_5 => ?_) <;> (first | (simp [*] at c18_5; done) | (try simp at c18_5)); (focus (refine R_region ?_; refine Sm rfl ?_; refine Sf rfl rfl rfl rfl rfl (fld rfl rfl) ?_; refine S_load rfl rfl rfl rfl rfl ?_; refine L_sub (Rd.own m0) (ty rfl) rfl ?_; refine S_c rfl rfl rfl (C_buildSlice rfl (elm rfl) (zer rfl) rfl ⟨_, _, _, rfl, rfl, rfl, rfl, rfl, rfl⟩ rfl rfl ?_); intro b18_6)); rotate_left 1; (focus (refine Wr ?_; refine Sc rfl rfl rfl rfl rfl rfl rfl ?_; refine Sm rfl ?_; refine On ?_; refine WP_cond rfl (fun c18_7 => ?_) (fun c18_7 => ?_) <;> (first | (simp [*] at c18_7; done) | (try simp at c18_7)); (focus (refine Wr ?_; refine Sf rfl rfl rfl rfl rfl (fld rfl rfl) ?_; refine Sf rfl rfl rfl rfl rfl (fld rfl rfl) ?_; refine S_load rfl rfl rfl rfl rfl ?_; refine L_fld2 (Rd.own m0) ?_; refine LV_1 (ty rfl) rfl ?_; refine S_q rfl rfl rfl (Q_len rfl rfl rfl rfl rfl rfl) ?_; refine Sm rfl ?_; refine On ?_; refine WP_block ?_)); rotate_left 1; (focus (refine WP_skip ?_; refine block_n ?_; refine block_n ?_)); rotate_left 1)); rotate_left 2)); rotate_left 3))
      · have hfi : flightIDs vs (v, x) = numberedOf vs v.machine x.to x.msg.number :: x.msg.args.map (idOf vs v.machine x.to) := by rw [flightIDs, if_pos c18_2]
        refine S_w rfl rfl rfl (W_callC (cap := [ptr b0_3 0, ptr b0_2 0, ptr b15_1 0, ptr b15_2 0]) [_] _ (rootsAdd_s (mf := v.machine) (mt := x.to) a1_k ff0_1 a17_k a16_k ha o18_4 (by simp; omega)) rfl rfl rfl ⟨_, _, rfl, rfl, rfl⟩ (cal rfl) rfl ?_)
        rintro h3 L3 _ hl3 ⟨rfl, p3, c3, M3, rfl, hO3⟩
        (focus (refine OPS_nil ?_; refine block_n ?_; refine block_n ?_))
        refine bodyS_n (_, p3, c3, M3) ⟨le_trans hl2 (le_trans l16_k l17_k), ?_, hO3⟩ (by repeat' first | exact sR _ | exact sA _ _ | exact sN _ | apply s2 | apply s1)
        simp only; rw [hsn, hfi, hoe]; simp only [List.append_assoc, List.cons_append, List.nil_append]
      · have hfi : flightIDs vs (v, x) = [idOf vs v.machine x.to x.msg.ref] := by rw [flightIDs, if_neg c18_2, if_pos c18_5]
        (focus (refine OPS_keepM [] [_] _ rfl ?_; rintro h20_k l20_k k20_k; have a20_k := at_of_keep k20_k; clear k20_k; replace a17_k := a17_k.up l20_k; replace a16_k := a16_k.up l20_k; replace hO := hO.up l20_k; replace it13_2 := it13_2.up l20_k; replace a1_k := a1_k.up l20_k; replace ff0_1 := ff0_1.up l20_k; replace hs := hs.up l20_k; replace ha := ha.up l20_k; replace hfs := hfs.up l20_k; replace hm := hm.up l20_k))
        refine S_w rfl rfl rfl (W_callC (vs := [.slice (some ⟨b18_6, 0, none⟩) 1 1]) (cap := [ptr b0_3 0, ptr b0_2 0, ptr b15_1 0, ptr b15_2 0]) [_] _ (rootsAdd_s (l := .slice (some ⟨b18_6, 0, none⟩) 1 1) (mf := v.machine) (mt := x.to) (rs := [x.msg.ref]) a1_k ff0_1 a17_k a16_k (slb_of_at a20_k (Flat.one rfl rfl rfl) (by simp)) hO (by simp; omega)) rfl rfl rfl ⟨_, _, rfl, rfl, rfl⟩ (cal rfl) rfl ?_)
        rintro h3 L3 _ hl3 ⟨rfl, p3, c3, M3, rfl, hO3⟩
        (focus (refine OPS_nil ?_; refine block_n ?_; refine block_n ?_))
        refine bodyS_n (_, p3, c3, M3) ⟨le_trans hl2 (le_trans l16_k (le_trans l17_k l20_k)), ?_, hO3⟩ (by repeat' first | exact sR _ | exact sA _ _ | exact sN _ | apply s2 | apply s1)
        simp only; rw [hsn, hfi, hoe]; simp only [List.append_assoc, List.map_cons, List.map_nil]
      · have hfi : flightIDs vs (v, x) = x.msg.parcel.mail.flatMap fun l => x.msg.parcel.id :: l.map (idOf vs v.machine x.to) := by rw [flightIDs, if_neg c18_2, if_neg c18_5, if_pos c18_7]
        (refine WP_loopM (α := Nat × List ID × Option Addr × Nat × Hp) [_]  _ [109, 108, 16, 15, 4] (fun (s : Nat × List ID × Option Addr × Nat × Hp) => x.msg.parcel.mail.length - s.1) (fun (s : Nat × List ID × Option Addr × Nat × Hp) =>  ((b0_3, cells [.slice s.2.2.1 s.2.1.length s.2.2.2.1] 31) :: s.2.2.2.2)) (fun (s : Nat × List ID × Option Addr × Nat × Hp) => [(110, .int .i64 (s.1 : Int))]) (fun hh (s : Nat × List ID × Option Addr × Nat × Hp) => hh = h17_k ∧ s.1 ≤ x.msg.parcel.mail.length ∧ s.2.1 = out ++ (x.msg.parcel.mail.take s.1).flatMap (fun l => x.msg.parcel.id :: l.map (idOf vs v.machine x.to)) ∧ OS h17_k 35 2 IDC (.slice s.2.2.1 s.2.1.length s.2.2.2.1) s.2.1 s.2.2.2.2) (0, out, p, c, M) rfl ⟨_, _, rfl, ⟨_, _, rfl, ⟨_, _, rfl, ⟨_, _, rfl, ⟨_, _, rfl, rfl, rfl⟩, rfl⟩, rfl⟩, rfl⟩, rfl⟩ (by repeat' first | exact trivial | refine ⟨rfl, ?_⟩) ?_ ?_)
        · exact ⟨rfl, Nat.zero_le _, by simp, hO⟩
        clear hO
        rintro h3 ⟨j, oo, p, c, M⟩ _ ⟨hh3, hj, hoo, hO⟩
        simp only at hj hoo hO
        dsimp only
        subst hh3
        have hool : oo.length ≤ out.length + 28 := by
          have := flatMap_le (fun l : List Ref => x.msg.parcel.id :: l.map (idOf vs v.machine x.to)) 7 (x.msg.parcel.mail.take j) (fun m hm => by
            have := hq6 m (List.mem_of_mem_take hm)
            simp; omega)
          rw [List.length_take] at this
          rw [hoo, List.length_append]; omega
        by_cases hlt2 : j < x.msg.parcel.mail.length
        · obtain ⟨lt, el⟩ := get_of hlt2
          have hlt6 := hq6 _ (List.mem_of_getElem? el)
          have hlm := flatMap_take (fun l : List Ref => x.msg.parcel.id :: l.map (idOf vs v.machine x.to)) el
          (focus (refine Wr ?_; refine Sc rfl rfl rfl rfl rfl rfl rfl ?_; refine On ?_; refine WP_seq ?_; refine WP_cond rfl (fun c23_1 => ?_) (fun c23_1 => ?_) <;> (first | (simp [*] at c23_1; done) | (try simp at c23_1)); refine WP_skip ?_; refine then_n ?_; refine WP_seq ?_; refine WP_block ?_; refine Wr ?_; refine S_q rfl rfl rfl (Q_indexS ‹_› ‹_› rfl rfl rfl (elm rfl) rfl) ?_; refine S_load rfl rfl rfl rfl rfl ?_; refine L_elA ‹_› ‹_› (ty rfl) ?_; rintro _ _ _ ⟨xa23_2, xb23_2, xm23_2, pl23_2, ql23_2, rfl, fl23_2⟩; refine S_c rfl rfl rfl (C_alloc rfl (zer rfl) ?_); intro b23_3; refine S_w0 rfl rfl (W_all rfl rfl rfl (ty rfl) u0 (by first | rfl | assumption) (by first | rfl | assumption) (by first | rfl | assumption | exact ones_sub ‹_› _ _) ?_); refine On ?_; refine Wr ?_; refine S_load rfl rfl rfl rfl rfl ?_; refine L_one (Rd.own m2) (ty rfl) ?_; refine Sf rfl rfl rfl rfl rfl (fld rfl rfl) ?_; refine Sf rfl rfl rfl rfl rfl (fld rfl rfl) ?_; refine S_load rfl rfl rfl rfl rfl ?_; refine L_fld2 (Rd.own m1) ?_; refine LV_a (ty rfl) rfl ?_; refine S_c rfl rfl rfl (C_buildSlice rfl (elm rfl) (zer rfl) rfl ⟨_, _, _, rfl, rfl, rfl, rfl, rfl, rfl⟩ rfl rfl ?_); intro b23_4; refine S_w rfl rfl rfl (W_app1 [_, _, _] _ ‹_› rfl rfl rfl rfl rfl rfl (elm rfl) (zer rfl) rfl rfl rfl rfl rfl (by (try simp only [lA]); omega) (by (try simp only [lA]); omega) ?_); rintro p23_5 q23_5 m23_5 o23_5; refine S_w0 rfl rfl (W_one rfl rfl rfl (ty rfl) u2 rfl rfl rfl ?_); refine On ?_; refine R_region ?_; refine Sm rfl ?_; refine Sf rfl rfl rfl rfl rfl (fld rfl rfl) ?_; refine S_load rfl rfl rfl rfl rfl ?_; refine L_fld (Rd.own m0) (ty rfl) rfl ?_))
          refine S_w rfl rfl rfl (W_callC (cap := [ptr b0_3 0, ptr b0_2 0, ptr b15_1 0, ptr b15_2 0]) [_, _] _ (rootsAdd_s (mf := v.machine) (mt := x.to) a1_k ff0_1 a17_k a16_k fl23_2 o23_5 (by simp; omega)) rfl rfl rfl ⟨_, _, rfl, rfl, rfl⟩ (cal rfl) rfl ?_)
          rintro h4 L4 _ hl4 ⟨rfl, p3, c3, M3, rfl, hO3⟩
          (focus (refine OPS_nil ?_; refine block_n ?_; refine then_n ?_; refine R_region ?_; refine S_q rfl rfl rfl (Q_add rfl rfl rfl (by omega)) ?_; refine Sm rfl ?_; refine OPS_nil ?_))
          refine roundF_n (j + 1, _, p3, c3, M3) (by simp only; omega) ⟨rfl, by simp only; omega, ?_, hO3⟩ (by repeat' first | exact sR _ | exact sA _ _ | exact sN _ | apply s2 | apply s1) (by repeat' first | exact trivial | refine ⟨rfl, ?_⟩)
          simp only; rw [hlm, hoo]; simp only [List.append_assoc, List.cons_append, List.nil_append]
        · have hge : j = x.msg.parcel.mail.length := by omega
          subst hge
          rw [List.take_length, ← hfi] at hoo
          (focus (refine Wr ?_; refine Sc rfl rfl rfl rfl rfl rfl rfl ?_; refine On ?_; refine WP_seq ?_; refine WP_cond rfl (fun c25_1 => ?_) (fun c25_1 => ?_) <;> (first | (simp [*] at c25_1; done) | (try simp at c25_1)); refine WP_exit ?_; refine then_e ?_; refine roundF_e ?_; refine block_e ?_; refine block_n ?_; refine block_n ?_))
          refine bodyS_n (oo, p, c, M) ⟨le_trans hl2 (le_trans l16_k l17_k), ?_, hO⟩ (by repeat' first | exact sR _ | exact sA _ _ | exact sN _ | apply s2 | apply s1)
          simp only; rw [hsn, hoo, hoe, List.append_assoc]
      · have hfi : flightIDs vs (v, x) = [] := by rw [flightIDs, if_neg c18_2, if_neg c18_5, if_neg c18_7]
        refine bodyS_n (out, p, c, M) ⟨le_trans hl2 (le_trans l16_k l17_k), ?_, hO⟩ (by repeat' first | exact sR _ | exact sA _ _ | exact sN _ | apply s2 | apply s1)
        simp only; rw [hsn, hfi, hoe, List.append_nil]
    · clear hO hol hoe M p c out
      rintro d h2 ⟨out, p, c, M⟩ hl1 ⟨hl2, hoe, hO⟩
      simp only at hoe hO
      (replace it13_2 := it13_2.up hl1; replace a1_k := a1_k.up hl1; replace ff0_1 := ff0_1.up hl1; replace hs := hs.up hl1)
      have hraw : out = rawRoots vs := by rw [rawRoots, hoe]
      have hol : out.length ≤ 2000 := by rw [hraw]; exact raw_len sm
      have hrl := roots_len sm
      (focus (refine block_n ?_; refine then_n ?_; refine Wr ?_; refine S_load rfl rfl rfl rfl rfl ?_; refine L_one (Rd.own m0) (ty rfl) ?_))
      refine OPS_keepM [_] M [dObj d] rfl fun h3 hl3 hm3 => ?_
      have hSL : SL h3 2 IDC (.slice p out.length c) out := hO.sl hl3 IDC_mono hm3 (by omega)
      clear hO
      have hsl := setL_length out
      (focus (refine S_w rfl rfl rfl (W_callF [] _ (set_s ‹_›) rfl rfl ⟨_, _, rfl, rfl, rfl⟩ (cal rfl) rfl ?_); rintro h28_1 m28_1 _ l28_1 ⟨p28_1, q28_1, rfl, o28_1⟩; replace hSL := hSL.up l28_1; refine S_q rfl rfl rfl (Q_build rfl (by decide +kernel) (zer rfl) rfl rfl) ?_; refine S_c rfl rfl rfl (C_buildSlice rfl (elm rfl) (zer rfl) rfl ⟨_, _, _, rfl, rfl, rfl, rfl, rfl, rfl⟩ rfl rfl ?_); intro b28_2))
      (focus (refine OPS_keepM [] [_] _ rfl ?_; rintro h29_k l29_k k29_k; have a29_k := at_of_keep k29_k; clear k29_k; replace o28_1 := o28_1.up l29_k; replace hSL := hSL.up l29_k))
      refine OPS_keepM [] m28_1 _ rfl fun h4 hl4 hm4 => ?_
      have hS2 : SL h4 2 IDC (.slice p28_1 (setL out).length q28_1) (setL out) := o28_1.sl hl4 IDC_mono hm4 (by omega)
      have hS3 : SL h4 2 IDC (.slice (some ⟨b28_2, 0, none⟩) 1 1) [(0, 0)] := slb_of_at (a29_k.up hl4) (Flat.one rfl rfl rfl) (by simp)
      clear hSL
      (focus (refine S_w rfl rfl rfl (W_callF [] _ (minus_s ‹_› ‹_›) rfl rfl ⟨_, _, rfl, ⟨_, _, rfl, rfl, rfl⟩, rfl⟩ (cal rfl) rfl ?_); rintro h30_1 m30_1 _ l30_1 ⟨p30_1, q30_1, rfl, o30_1⟩; replace hS2 := hS2.up l30_1; replace hS3 := hS3.up l30_1; refine Sm rfl ?_; refine On ?_; refine WP_ret ?_))
      rw [rootsR, ← hraw] at hrl
      refine nretK [] m30_1 [(b0_3, cells [Value.slice p out.length c] 31)] (by simp) (.inl rfl) rfl ⟨_, _, rfl, rfl, rfl⟩ fun h5 hl5 hm5 => ?_
      rw [rootsR, ← hraw]
      exact ⟨_, _, rfl, o30_1.sl hl5 IDC_mono hm5 (by omega)⟩
    · rintro d e h1 L1 hl1 hx _; exact hx.elim
end Go.Proofs.YtfhoecgiahpddaaGreat
/-
  CONTRACTS: observer.Reachable, observer.Garbage, observer.Home.
-/
set_option linter.all false
namespace Go.Proofs.YtfhoecgiahpddaaGreat
open Go.Mesh Go.RowKit
set_option maxRecDepth 100000
set_option linter.unusedVariables false
set_option maxHeartbeats 4000000
attribute [local irreducible] WP OPS ANY ANYo LG LV FSpec PSpec QOP OPc OPw thenQ blockQ roundQ roundF retQ retM Rd At SLB OS cmpI orI cmpID namedB valB nodeB kindB validG valAux idxI findG zeroV viewOf vwAt idxOf recv flyB scionOf moveOf numberedOf idOf valueOf mget mput localB carriedB stubOf followF followOf flOf flightsOf flPre setL minusL compactL putI mergeN insN insAll unionR NMap Coll retN bodyS GMap Dfs refsV refsOf reachL movedOf movedG graphParts graphR isMove flightIDs mailIDs viewIDs rawRoots rootsR
theorem mergeN_or {o n m : Nd} (h : mergeN o n = some m) : m = o ∨ m = n := by
  unfold mergeN at h
  grind
theorem insN_mem {l l' : List Nd} {n : Nd} (hs : SN l) (h : insN l n = some l') : SN l' ∧ l'.length ≤ l.length + 1 ∧ ∀ z, z ∈ l' → z = n ∨ z ∈ l := by
  have k := insN_spec (n := n) hs
  cases hf : findG l n.id with
  | none =>
    rw [hf] at k
    obtain ⟨l2, e1, e2, e3, e4, _⟩ := k
    rw [h] at e1; cases e1
    exact ⟨e2, by omega, e4⟩
  | some o =>
    rw [hf] at k
    cases hm : mergeN o n with
    | none => simp only [hm] at k; rw [h] at k; cases k
    | some m =>
      simp only [hm] at k
      obtain ⟨l2, e1, e2, e3, e4, _⟩ := k
      rw [h] at e1; cases e1
      refine ⟨e2, by omega, fun z hz => ?_⟩
      rcases e4 z hz with rfl | hz
      · rcases mergeN_or hm with rfl | rfl
        · exact .inr (findG_some hf).1
        · exact .inl rfl
      · exact .inr hz
theorem insAll_mem : ∀ {r acc l' : List Nd}, SN acc → insAll acc r = some l' → SN l' ∧ l'.length ≤ acc.length + r.length ∧ ∀ z, z ∈ l' → z ∈ acc ∨ z ∈ r
  | [], acc, l', hs, h => by
    unfold insAll at h
    cases h
    exact ⟨hs, by simp, fun z hz => .inl hz⟩
  | n :: r, acc, l', hs, h => by
    unfold insAll at h
    cases hi : insN acc n with
    | none => rw [hi] at h; cases h
    | some a =>
      rw [hi] at h
      obtain ⟨h1, h2, h3⟩ := insN_mem hs hi
      obtain ⟨k1, k2, k3⟩ := insAll_mem h1 h
      refine ⟨k1, by simp only [List.length_cons]; omega, fun z hz => ?_⟩
      rcases k3 z hz with hz | hz
      · rcases h3 z hz with rfl | hz
        · exact .inr (by simp)
        · exact .inl hz
      · exact .inr (by simp [hz])
theorem unionR_mem (l : List (List Nd)) : SN (unionR l).1 ∧ (unionR l).1.length ≤ l.flatten.length ∧ ∀ z, z ∈ (unionR l).1 → z ∈ l.flatten := by
  unfold unionR
  split
  · cases hi : insAll [] l.flatten with
    | none => exact ⟨by simp [resU, SN], by simp [resU], by simp [resU]⟩
    | some a =>
      obtain ⟨k1, k2, k3⟩ := insAll_mem List.Pairwise.nil hi
      refine ⟨k1, by simpa [resU] using k2, fun z hz => ?_⟩
      rcases k3 z hz with h | h
      · simp at h
      · exact h
  · exact ⟨by simp [SN], by simp, by simp⟩
theorem Small.graph {vs : List View} (s : Small vs) : SN (graphR vs).1 ∧ (graphR vs).1.length ≤ 1000000 ∧ ∀ n, n ∈ (graphR vs).1 → n.fields.length ≤ 1000 := by
  obtain ⟨h1, h2, h3⟩ := unionR_mem (graphParts vs)
  rw [graphR]
  refine ⟨h1, Nat.le_trans h2 s.parts, fun n hn => ?_⟩
  have := h3 n hn
  rw [graphParts, List.flatten_append, List.mem_append] at this
  rcases this with h | h
  · simp only [List.mem_flatten, List.mem_map] at h
    obtain ⟨_, ⟨v, hv, rfl⟩, hn⟩ := h
    have := s.fields v hv n hn; omega
  · simp only [movedG, List.mem_flatten, List.mem_map, List.mem_filter] at h
    obtain ⟨_, ⟨i, ⟨hi, _⟩, rfl⟩, hn⟩ := h
    obtain ⟨hv, hx⟩ := flightsOf_mem hi
    have := s.moved _ hv _ hx
    simp only [List.mem_singleton] at hn
    subst hn
    simp only [movedOf, List.length_map]; omega
/-- what the fleet reaches -/
noncomputable def reachR (vs : List View) : List ID := if (graphR vs).2 = 0 then reachL (graphR vs).1 (rootsR vs) else []
theorem Small.reach {vs : List View} (s : Small vs) : (reachR vs).length ≤ 1000000 := by
  unfold reachR
  split
  · exact Nat.le_trans (reachL_length _ _) s.graph.2.1
  · simp
attribute [local irreducible] reachR
theorem reachable_s {h : Frag} {a : Value} {vs : List View} (hs : SL h 13 (ViewC 4398046511104) a vs) (sm : Small vs) : PSpec Tryz.prog 12 #[a] h (fun h' v => ∃ p c, v = .slice p (reachR vs).length c ∧ SL h' 2 IDC (.slice p (reachR vs).length c) (reachR vs)) := by
  obtain ⟨_, hgl, hgf⟩ := sm.graph
  have hrl := roots_len sm
  have hrr := sm.reach
  refine pspec_of (vs := [a]) Tryz.func12 Tryz.ntmps12 rfl rfl ?_
  (focus (refine Wr ?_; refine Sm rfl ?_; refine On ?_; refine Wr ?_; refine Sm rfl ?_; refine S_c rfl rfl rfl (C_call (graph_s ‹_› ‹_›) rfl rfl ⟨_, _, rfl, rfl, rfl⟩ (cal rfl) ?_); rintro h0_1 _ l0_1 ⟨_, rfl, pg0_1, qg0_1, rfl, fg0_1⟩; replace hs := hs.up l0_1; refine Sm rfl ?_; refine S_q rfl rfl rfl (Q_extract rfl rfl rfl) ?_; refine S_q rfl rfl rfl (Q_extract rfl rfl rfl) ?_; refine S_c rfl rfl rfl (C_alloc rfl (zer rfl) ?_); intro b0_2; refine S_w0 rfl rfl (W_all rfl rfl rfl (ty rfl) u0 (by first | rfl | assumption) (by first | rfl | assumption) (by first | rfl | assumption | exact ones_sub ‹_› _ _) ?_); refine Sm rfl ?_; refine On ?_; refine WP_seq ?_; refine Wr ?_; refine Sm rfl ?_; refine Sc rfl rfl rfl rfl rfl rfl rfl ?_; refine On ?_; refine WP_cond rfl (fun c0_3 => ?_) (fun c0_3 => ?_) <;> (first | (simp [*] at c0_3; done) | (try simp at c0_3)); (focus (refine Wr ?_; refine Sm rfl ?_; refine On ?_; refine WP_ret ?_; refine then_r ?_)); rotate_left 1; (focus (refine WP_skip ?_; refine then_n ?_; refine WP_seq ?_; refine R_draw (n := 5) mixed rfl ?_; refine A_at 0 rfl rfl ?_; refine A_load (m' := 1) rfl rfl rfl rfl rfl rfl (by decide +kernel) ?_; refine L_agg (Rd.own m0) (ty rfl) (by first | rfl | assumption) ?_; refine A_at 1 rfl rfl ?_; refine A_q (m' := 3) rfl rfl rfl (Q_move rfl rfl) rfl (by decide +kernel) ?_; refine A_at 2 rfl rfl ?_; refine A_c (m' := 7) rfl rfl rfl rfl (by decide +kernel) (C_call (roots_s ‹_› ‹_›) rfl rfl ⟨_, _, rfl, rfl, rfl⟩ (cal rfl) ?_); rintro h0_4 _ l0_4 ⟨p0_4, q0_4, rfl, f0_4⟩; replace fg0_1 := fg0_1.up l0_4; replace hs := hs.up l0_4; refine A_at 3 rfl rfl ?_; refine A_c (m' := 15) rfl rfl rfl rfl (by decide +kernel) (C_callF (reach_s ⟨_, _, rfl, by assumption⟩ ‹_› (by omega) (by omega) ‹_›) rfl rfl ⟨_, _, rfl, ⟨_, _, rfl, rfl, rfl⟩, rfl⟩ (cal rfl) ?_); rintro h0_5 m0_5 _ l0_5 ⟨p0_5, q0_5, rfl, o0_5⟩; replace f0_4 := f0_4.up l0_5; replace fg0_1 := fg0_1.up l0_5; replace hs := hs.up l0_5; refine A_at 4 rfl rfl ?_; refine A_q (m' := 31) rfl rfl rfl (Q_assign rfl rfl) rfl (by decide +kernel) ?_; refine A_done (by decide +kernel) ?_; refine then_n ?_; refine WP_ret ?_)); rotate_left 1))
  · refine pret (.inl rfl) rfl ⟨_, _, rfl, rfl, rfl⟩ ?_
    rw [reachR, if_neg c0_3]
    exact ⟨_, _, rfl, SLB.nil _ _ _ _ _ _⟩
  · have hre : reachR vs = reachL (graphR vs).1 (rootsR vs) := by rw [reachR, if_pos c0_3]
    rw [hre] at hrr ⊢
    refine pretKM [] m0_5 _ rfl (.inl rfl) rfl ⟨_, _, rfl, rfl, rfl⟩ fun h' hl' hm => ?_
    exact ⟨_, _, rfl, o0_5.sl hl' IDC_mono hm (by omega)⟩
/-- how many are not reached -/
noncomputable def deadN (live : List ID) (l : List ID) : Nat := (l.filter fun x => !decide (x ∈ live)).length
def objsL (l : List Nd) : List ID := (l.filter fun n => decide (n.kind ≠ 3)).map (·.id)
def viewObjs (v : View) : List ID := objsL v.objects
noncomputable def garbageOf (live : List ID) (v : View) : Nat := deadN live (viewObjs v) + deadN live (v.stubs.map (·.id)) + deadN live (v.scions.map (·.id))
noncomputable def garbageR (vs : List View) : Nat := (vs.map (garbageOf (reachR vs))).sum
theorem deadN_nil (live : List ID) : deadN live [] = 0 := rfl
theorem deadN_snoc (live l : List ID) (x : ID) : deadN live (l ++ [x]) = deadN live l + (if x ∈ live then 0 else 1) := by
  rw [deadN, deadN, List.filter_append, List.length_append]
  by_cases h : x ∈ live <;> simp [h]
theorem deadN_le (live l : List ID) : deadN live l ≤ l.length := by rw [deadN]; exact List.length_filter_le _ _
theorem viewObjs_le (v : View) : (viewObjs v).length ≤ v.objects.length := by rw [viewObjs, objsL, List.length_map]; exact List.length_filter_le _ _
theorem garbageOf_le {vs : List View} (s : Small vs) (live : List ID) {v : View} (hv : v ∈ vs) : garbageOf live v ≤ 36 := by
  have h1 := deadN_le live (viewObjs v)
  have h2 := deadN_le live (v.stubs.map (·.id))
  have h3 := deadN_le live (v.scions.map (·.id))
  have h4 := viewObjs_le v
  have h5 := s.objs v hv
  have h6 := s.stubs v hv
  have h7 := s.scions v hv
  rw [List.length_map] at h2 h3
  rw [garbageOf]; omega
theorem sum_le (f : View → Nat) (k : Nat) : ∀ l : List View, (∀ v, v ∈ l → f v ≤ k) → (l.map f).sum ≤ l.length * k
  | [], _ => by simp
  | v :: l, h => by
    have h1 := h v (by simp)
    have h2 := sum_le f k l fun w hw => h w (by simp [hw])
    simp only [List.map_cons, List.sum_cons, List.length_cons, Nat.add_mul, Nat.one_mul]; omega
theorem sum_take (f : View → Nat) {l : List View} {k : Nat} {v : View} (hv : l[k]? = some v) : ((l.take (k + 1)).map f).sum = ((l.take k).map f).sum + f v := by
  rw [List.take_add_one, hv]; simp
theorem objsL_take {l : List Nd} {j : Nat} {n : Nd} (hn : l[j]? = some n) : objsL (l.take (j + 1)) = objsL (l.take j) ++ (if n.kind = 3 then [] else [n.id]) := by
  rw [objsL, objsL, List.take_add_one, hn]
  by_cases h : n.kind = 3 <;> simp [h]
theorem mapid_take {α : Type} (f : α → ID) {l : List α} {j : Nat} {n : α} (hn : l[j]? = some n) : (l.take (j + 1)).map f = (l.take j).map f ++ [f n] := by
  rw [List.take_add_one, hn]; simp
theorem deadN_take_le (live l : List ID) (k : Nat) (h : l.length ≤ k) : deadN live l ≤ k := Nat.le_trans (deadN_le live l) h
theorem objsL_le (l : List Nd) : (objsL l).length ≤ l.length := by rw [objsL, List.length_map]; exact List.length_filter_le _ _
theorem viewObjs_def (v : View) : viewObjs v = objsL v.objects := rfl
theorem garbageOf_def (live : List ID) (v : View) : garbageOf live v = deadN live (viewObjs v) + deadN live (v.stubs.map (·.id)) + deadN live (v.scions.map (·.id)) := rfl
theorem objsL_nil : objsL [] = [] := rfl
attribute [local irreducible] deadN viewObjs garbageOf garbageR objsL
theorem garbage1_s {h : Frag} {a : Value} {live : List ID} {x : ID} {b3 b4 n : Nat} (h3 : At h b3 0 [a]) (hl : SL h 2 IDC a live) (hn : n ≤ 1000000) : FSpec Tryz.prog 70 #[.agg (idc x).toArray, ptr b3 0, ptr b4 0] h [(b4, cells [.int .i64 (n : Int)] 3)]
    (fun h' L' _ => h' = h ∧ L' = [(b4, cells [.int .i64 ((n + (if x ∈ live then 0 else 1) : Nat) : Int)] 3)]) := by
  obtain ⟨x1, x2⟩ := x
  refine spec_of (vs := [.agg (idc (x1, x2)).toArray, ptr b3 0, ptr b4 0]) Tryz.func70 Tryz.ntmps70 rfl rfl rfl ?_
  (focus (refine Wr ?_; refine S_c rfl rfl rfl (C_box rfl rfl ?_); intro b0_1; refine On ?_; refine Wr ?_; refine S_load rfl rfl rfl rfl rfl ?_; refine L_one (Rd.pers ‹_›) (ty rfl) ?_; refine S_load rfl rfl rfl rfl rfl ?_; refine L_agg (Rd.own m0) (ty rfl) (by first | rfl | assumption) ?_; refine S_c rfl rfl rfl (C_callv (has_s (x := (_, _)) ‹_›) rfl rfl ⟨_, _, rfl, ⟨_, _, rfl, rfl, rfl⟩, rfl⟩ (cal rfl) ?_); refine S_q rfl rfl rfl (Q_not rfl rfl) ?_; refine On ?_; refine WP_cond rfl (fun c0_2 => ?_) (fun c0_2 => ?_) <;> (first | (simp [*] at c0_2; done) | (try simp at c0_2)); (focus (refine R_region ?_; refine S_load rfl rfl rfl rfl rfl ?_; refine L_one (Rd.own m1) (ty rfl) ?_; refine S_q rfl rfl rfl (Q_add rfl rfl rfl (by omega)) ?_; refine S_w0 rfl rfl (W_one rfl rfl rfl (ty rfl) u1 rfl rfl rfl ?_); refine OPS_nil ?_)); rotate_left 1; (focus (refine WP_skip ?_)); rotate_left 1))
  · refine ret_q [(b4, cells [.int .i64 ((n : Int) + 1)] 3)] (.inr rfl) rfl rfl (by repeat' first | exact sR _ | exact sA _ _ | exact sN _ | apply s2 | apply s1) ⟨rfl, ?_⟩
    rw [if_neg c0_2]; simp
  · refine ret_q [(b4, cells [.int .i64 (n : Int)] 3)] (.inr rfl) rfl rfl (by repeat' first | exact sR _ | exact sA _ _ | exact sN _ | apply s2 | apply s1) ⟨rfl, ?_⟩
    rw [if_pos c0_2]; simp
theorem garbage_s {h : Frag} {a : Value} {vs : List View} (hs : SL h 13 (ViewC 4398046511104) a vs) (sm : Small vs) : PSpec Tryz.prog 27 #[a] h (fun _ v => v = .int .i64 ((garbageR vs : Nat) : Int)) := by
  have hlen := sm.len
  obtain ⟨pv, cv, rfl⟩ := hs.slice
  refine pspec_of (vs := [.slice pv vs.length cv]) Tryz.func27 Tryz.ntmps27 rfl rfl ?_
  (focus (refine Wr ?_; refine Sm rfl ?_; refine On ?_; refine Wr ?_; refine Sm rfl ?_; refine S_c rfl rfl rfl (C_call (reachable_s ‹_› ‹_›) rfl rfl ⟨_, _, rfl, rfl, rfl⟩ (cal rfl) ?_); rintro h0_1 _ l0_1 ⟨p0_1, q0_1, rfl, f0_1⟩; replace hs := hs.up l0_1; refine S_c rfl rfl rfl (C_alloc rfl (zer rfl) ?_); intro b0_2; refine S_w0 rfl rfl (W_one rfl rfl rfl (ty rfl) u0 rfl rfl rfl ?_); refine On ?_; refine Wr ?_; refine S_c rfl rfl rfl (C_alloc rfl (zer rfl) ?_); intro b0_3; refine S_w0 rfl rfl (W_one rfl rfl rfl (ty rfl) u0 rfl rfl rfl ?_); refine On ?_; refine Wr ?_; refine S_q rfl rfl rfl (Q_makeFunc rfl rfl ⟨_, _, rfl, ⟨_, _, rfl, rfl, rfl⟩, rfl⟩) ?_; refine Sm rfl ?_; refine On ?_; refine WP_seq ?_; refine Wr ?_; refine Sm rfl ?_; refine S_q rfl rfl rfl (Q_len rfl rfl rfl rfl rfl rfl) ?_; refine Sm rfl ?_; refine On ?_; refine WP_block ?_))
  (focus (refine WP_keepM [_] [_] _ rfl ?_; rintro h1_k l1_k k1_k; have a1_k := at_of_keep k1_k; clear k1_k; replace f0_1 := f0_1.up l1_k; replace hs := hs.up l1_k))
  (refine WP_loopF (α := Nat × Nat) [18, 17, 5, 4] (fun (s : Nat × Nat) => vs.length - s.1) (fun (s : Nat × Nat) => [(b0_3, cells [.int .i64 (s.2 : Int)] 3)]) (fun (s : Nat × Nat) => [(19, .int .i64 (s.1 : Int))]) (fun hh (s : Nat × Nat) => hh = h1_k ∧ s.1 ≤ vs.length ∧ s.2 = ((vs.take s.1).map (garbageOf (reachR vs))).sum) (0, 0) ⟨_, _, rfl, ⟨_, _, rfl, ⟨_, _, rfl, ⟨_, _, rfl, rfl, rfl⟩, rfl⟩, rfl⟩, rfl⟩ ?_ (by repeat' first | exact sR _ | exact sA _ _ | exact sN _ | apply s2 | apply s1) (by repeat' first | exact trivial | refine ⟨rfl, ?_⟩) ?_)
  · exact ⟨rfl, Nat.zero_le _, rfl⟩
  rintro h1 ⟨k, n⟩ _ ⟨rfl, hk, hn⟩
  simp only at hk hn
  dsimp only
  have hnl : n ≤ 200 := by
    have := sum_le (garbageOf (reachR vs)) 36 (vs.take k) fun v hv => garbageOf_le sm _ (List.mem_of_mem_take hv)
    rw [List.length_take] at this
    rw [hn]; omega
  by_cases hlt : k < vs.length
  · obtain ⟨v, ev⟩ := get_of hlt
    have hvm : v ∈ vs := List.mem_of_getElem? ev
    have ho := sm.objs v hvm
    have hst := sm.stubs v hvm
    have hsc := sm.scions v hvm
    have hsum := sum_take (garbageOf (reachR vs)) ev
    (focus (refine Wr ?_; refine Sc rfl rfl rfl rfl rfl rfl rfl ?_; refine On ?_; refine WP_seq ?_; refine WP_cond rfl (fun c3_1 => ?_) (fun c3_1 => ?_) <;> (first | (simp [*] at c3_1; done) | (try simp at c3_1)); refine WP_skip ?_; refine then_n ?_; refine WP_seq ?_; refine WP_block ?_; refine Wr ?_; refine S_q rfl rfl rfl (Q_indexS ‹_› ‹_› rfl rfl rfl (elm rfl) rfl) ?_; refine S_load rfl rfl rfl rfl rfl ?_; refine L_elA ‹_› ‹_› (ty rfl) ?_; rintro _ _ _ ⟨xi3_2, xa3_2, po3_2, qo3_2, ps3_2, qs3_2, pc3_2, qc3_2, pn3_2, qn3_2, pm3_2, qm3_2, xw3_2, xv3_2, pf3_2, qf3_2, pr3_2, qr3_2, xe3_2, xf3_2, rfl, vo3_2, vs3_2, vc3_2, vn3_2, vm3_2, vf3_2, vr3_2⟩; refine S_c rfl rfl rfl (C_alloc rfl (zer rfl) ?_); intro b3_3; refine S_w0 rfl rfl (W_all rfl rfl rfl (ty rfl) u0 (by first | rfl | assumption) (by first | rfl | assumption) (by first | rfl | assumption | exact ones_sub ‹_› _ _) ?_); refine On ?_; refine WP_seq ?_; refine Wr ?_; refine Sf rfl rfl rfl rfl rfl (fld rfl rfl) ?_; refine Sf rfl rfl rfl rfl rfl (fld rfl rfl) ?_; refine S_load rfl rfl rfl rfl rfl ?_; refine L_fld2 (Rd.own m0) ?_; refine LV_1 (ty rfl) rfl ?_; refine S_q rfl rfl rfl (Q_len rfl rfl rfl rfl rfl rfl) ?_; refine Sm rfl ?_; refine On ?_; refine WP_block ?_))
    (refine WP_loopM (α := Nat × Nat) [_]  _ [26, 25, 7, 19, 18, 17, 5, 4] (fun (s : Nat × Nat) => v.objects.length - s.1) (fun (s : Nat × Nat) =>  [(b0_3, cells [.int .i64 (s.2 : Int)] 3)]) (fun (s : Nat × Nat) => [(27, .int .i64 (s.1 : Int))]) (fun hh (s : Nat × Nat) => hh = h1 ∧ s.1 ≤ v.objects.length ∧ s.2 = n + deadN (reachR vs) (objsL (v.objects.take s.1))) (0, n) rfl ⟨_, _, rfl, ⟨_, _, rfl, ⟨_, _, rfl, ⟨_, _, rfl, ⟨_, _, rfl, ⟨_, _, rfl, ⟨_, _, rfl, ⟨_, _, rfl, rfl, rfl⟩, rfl⟩, rfl⟩, rfl⟩, rfl⟩, rfl⟩, rfl⟩, rfl⟩ (by repeat' first | exact trivial | refine ⟨rfl, ?_⟩) ?_ ?_)
    · exact ⟨rfl, Nat.zero_le _, by simp [objsL_nil, deadN_nil]⟩
    rintro h2 ⟨j, n2⟩ _ ⟨rfl, hj, hn2⟩
    simp only at hj hn2
    dsimp only
    have hb2 := deadN_take_le (reachR vs) (objsL (v.objects.take j)) 12 (Nat.le_trans (objsL_le _) (by rw [List.length_take]; omega))
    by_cases hlt2 : j < v.objects.length
    · obtain ⟨x, ex⟩ := get_of hlt2
      have htk := objsL_take ex
      (focus (refine Wr ?_; refine Sc rfl rfl rfl rfl rfl rfl rfl ?_; refine On ?_; refine WP_seq ?_; refine WP_cond rfl (fun c5_1 => ?_) (fun c5_1 => ?_) <;> (first | (simp [*] at c5_1; done) | (try simp at c5_1)); refine WP_skip ?_; refine then_n ?_; refine WP_seq ?_; refine WP_block ?_; refine Wr ?_; refine S_q rfl rfl rfl (Q_indexS ‹_› ‹_› rfl rfl rfl (elm rfl) rfl) ?_; refine S_load rfl rfl rfl rfl rfl ?_; refine L_elA ‹_› ‹_› (ty rfl) ?_; rintro _ _ _ ⟨pn5_2, qn5_2, rfl, fn5_2⟩; refine S_c rfl rfl rfl (C_alloc rfl (zer rfl) ?_); intro b5_3; refine S_w0 rfl rfl (W_all rfl rfl rfl (ty rfl) u0 (by first | rfl | assumption) (by first | rfl | assumption) (by first | rfl | assumption | exact ones_sub ‹_› _ _) ?_); refine On ?_; refine Wr ?_; refine Sf rfl rfl rfl rfl rfl (fld rfl rfl) ?_; refine S_load rfl rfl rfl rfl rfl ?_; refine L_fld (Rd.own m0) (ty rfl) rfl ?_; refine Sc rfl rfl rfl rfl rfl rfl rfl ?_; refine On ?_; refine WP_cond rfl (fun c5_4 => ?_) (fun c5_4 => ?_) <;> (first | (simp [*] at c5_4; done) | (try simp at c5_4)); (focus (refine R_region ?_; refine Sm rfl ?_; refine Sf rfl rfl rfl rfl rfl (fld rfl rfl) ?_; refine S_load rfl rfl rfl rfl rfl ?_; refine L_sub (Rd.own m0) (ty rfl) rfl ?_)); rotate_left 1; (focus (refine WP_skip ?_; refine block_n ?_; refine then_n ?_; refine R_region ?_; refine S_q rfl rfl rfl (Q_add rfl rfl rfl (by omega)) ?_; refine Sm rfl ?_; refine OPS_nil ?_)); rotate_left 1))
      · refine S_w rfl rfl rfl (W_callC (vs := [.agg (idc x.id).toArray]) (cap := [ptr b0_2 0, ptr b0_3 0]) [_, _] _ (garbage1_s a1_k f0_1 (by omega)) rfl rfl rfl ⟨_, _, rfl, rfl, rfl⟩ (cal rfl) rfl ?_)
        rintro hq Lq _ hlq ⟨rfl, rfl⟩
        (focus (refine OPS_nil ?_; refine block_n ?_; refine then_n ?_; refine R_region ?_; refine S_q rfl rfl rfl (Q_add rfl rfl rfl (by omega)) ?_; refine Sm rfl ?_; refine OPS_nil ?_))
        refine roundF_n (j + 1, _) (by simp only; omega) ⟨rfl, by simp only; omega, ?_⟩ (by repeat' first | exact sR _ | exact sA _ _ | exact sN _ | apply s2 | apply s1) (by repeat' first | exact trivial | refine ⟨rfl, ?_⟩)
        simp only; rw [htk, if_neg c5_4, deadN_snoc, hn2]; omega
      · refine roundF_n (j + 1, n2) (by simp only; omega) ⟨rfl, by simp only; omega, ?_⟩ (by repeat' first | exact sR _ | exact sA _ _ | exact sN _ | apply s2 | apply s1) (by repeat' first | exact trivial | refine ⟨rfl, ?_⟩)
        simp only; rw [htk, if_pos c5_4, List.append_nil, hn2]
    have hge : j = v.objects.length := by omega
    subst hge
    rw [List.take_length, ← viewObjs_def] at hn2
    rw [List.take_length, ← viewObjs_def] at hb2
    (focus (refine Wr ?_; refine Sc rfl rfl rfl rfl rfl rfl rfl ?_; refine On ?_; refine WP_seq ?_; refine WP_cond rfl (fun c7_1 => ?_) (fun c7_1 => ?_) <;> (first | (simp [*] at c7_1; done) | (try simp at c7_1)); refine WP_exit ?_; refine then_e ?_; refine roundF_e ?_; refine block_e ?_; refine then_n ?_; refine WP_seq ?_; refine Wr ?_; refine Sf rfl rfl rfl rfl rfl (fld rfl rfl) ?_; refine S_load rfl rfl rfl rfl rfl ?_; refine L_fld (Rd.own m0) (ty rfl) rfl ?_; refine S_q rfl rfl rfl (Q_len rfl rfl rfl rfl rfl rfl) ?_; refine Sm rfl ?_; refine On ?_; refine WP_block ?_))
    (refine WP_loopM (α := Nat × Nat) [_]  _ [41, 40, 7, 19, 18, 17, 5, 4] (fun (s : Nat × Nat) => v.stubs.length - s.1) (fun (s : Nat × Nat) =>  [(b0_3, cells [.int .i64 (s.2 : Int)] 3)]) (fun (s : Nat × Nat) => [(42, .int .i64 (s.1 : Int))]) (fun hh (s : Nat × Nat) => hh = h2 ∧ s.1 ≤ v.stubs.length ∧ s.2 = n2 + deadN (reachR vs) ((v.stubs.take s.1).map (·.id))) (0, n2) rfl ⟨_, _, rfl, ⟨_, _, rfl, ⟨_, _, rfl, ⟨_, _, rfl, ⟨_, _, rfl, ⟨_, _, rfl, ⟨_, _, rfl, ⟨_, _, rfl, rfl, rfl⟩, rfl⟩, rfl⟩, rfl⟩, rfl⟩, rfl⟩, rfl⟩, rfl⟩ (by repeat' first | exact trivial | refine ⟨rfl, ?_⟩) ?_ ?_)
    · exact ⟨rfl, Nat.zero_le _, by simp [deadN_nil]⟩
    rintro h3 ⟨j, n3⟩ _ ⟨rfl, hj, hn3⟩
    simp only at hj hn3
    dsimp only
    have hb3 := deadN_take_le (reachR vs) ((v.stubs.take j).map (·.id)) 12 (by rw [List.length_map, List.length_take]; omega)
    by_cases hlt3 : j < v.stubs.length
    · obtain ⟨x, ex⟩ := get_of hlt3
      have htk := mapid_take (·.id) ex
      (focus (refine Wr ?_; refine Sc rfl rfl rfl rfl rfl rfl rfl ?_; refine On ?_; refine WP_seq ?_; refine WP_cond rfl (fun c9_1 => ?_) (fun c9_1 => ?_) <;> (first | (simp [*] at c9_1; done) | (try simp at c9_1)); refine WP_skip ?_; refine then_n ?_; refine WP_seq ?_; refine WP_block ?_; refine Wr ?_; refine S_q rfl rfl rfl (Q_indexS ‹_› ‹_› rfl rfl rfl (elm rfl) rfl) ?_; refine S_load rfl rfl rfl rfl rfl ?_; refine L_elA ‹_› ‹_› (ty rfl) ?_; rintro _ _ _ ⟨xa9_2, xb9_2, xc9_2, xd9_2, xe9_2, xf9_2, rfl⟩; refine S_c rfl rfl rfl (C_alloc rfl (zer rfl) ?_); intro b9_3; refine S_w0 rfl rfl (W_all rfl rfl rfl (ty rfl) u0 (by first | rfl | assumption) (by first | rfl | assumption) (by first | rfl | assumption | exact ones_sub ‹_› _ _) ?_); refine On ?_; refine R_region ?_; refine Sm rfl ?_; refine Sf rfl rfl rfl rfl rfl (fld rfl rfl) ?_; refine S_load rfl rfl rfl rfl rfl ?_; refine L_sub (Rd.own m0) (ty rfl) rfl ?_))
      refine S_w rfl rfl rfl (W_callC (vs := [.agg (idc x.id).toArray]) (cap := [ptr b0_2 0, ptr b0_3 0]) [_, _] _ (garbage1_s a1_k f0_1 (by omega)) rfl rfl rfl ⟨_, _, rfl, rfl, rfl⟩ (cal rfl) rfl ?_)
      rintro hq Lq _ hlq ⟨rfl, rfl⟩
      (focus (refine OPS_nil ?_; refine block_n ?_; refine then_n ?_; refine R_region ?_; refine S_q rfl rfl rfl (Q_add rfl rfl rfl (by omega)) ?_; refine Sm rfl ?_; refine OPS_nil ?_))
      refine roundF_n (j + 1, _) (by simp only; omega) ⟨rfl, by simp only; omega, ?_⟩ (by repeat' first | exact sR _ | exact sA _ _ | exact sN _ | apply s2 | apply s1) (by repeat' first | exact trivial | refine ⟨rfl, ?_⟩)
      simp only; rw [htk, deadN_snoc, hn3]; omega
    have hge : j = v.stubs.length := by omega
    subst hge
    rw [List.take_length] at hn3 hb3
    (focus (refine Wr ?_; refine Sc rfl rfl rfl rfl rfl rfl rfl ?_; refine On ?_; refine WP_seq ?_; refine WP_cond rfl (fun c11_1 => ?_) (fun c11_1 => ?_) <;> (first | (simp [*] at c11_1; done) | (try simp at c11_1)); refine WP_exit ?_; refine then_e ?_; refine roundF_e ?_; refine block_e ?_; refine then_n ?_; refine Wr ?_; refine Sf rfl rfl rfl rfl rfl (fld rfl rfl) ?_; refine S_load rfl rfl rfl rfl rfl ?_; refine L_fld (Rd.own m0) (ty rfl) rfl ?_; refine S_q rfl rfl rfl (Q_len rfl rfl rfl rfl rfl rfl) ?_; refine Sm rfl ?_; refine On ?_; refine WP_block ?_))
    (refine WP_loopM (α := Nat × Nat) [_]  _ [53, 52, 19, 18, 17, 5, 4] (fun (s : Nat × Nat) => v.scions.length - s.1) (fun (s : Nat × Nat) =>  [(b0_3, cells [.int .i64 (s.2 : Int)] 3)]) (fun (s : Nat × Nat) => [(54, .int .i64 (s.1 : Int))]) (fun hh (s : Nat × Nat) => hh = h3 ∧ s.1 ≤ v.scions.length ∧ s.2 = n3 + deadN (reachR vs) ((v.scions.take s.1).map (·.id))) (0, n3) rfl ⟨_, _, rfl, ⟨_, _, rfl, ⟨_, _, rfl, ⟨_, _, rfl, ⟨_, _, rfl, ⟨_, _, rfl, ⟨_, _, rfl, rfl, rfl⟩, rfl⟩, rfl⟩, rfl⟩, rfl⟩, rfl⟩, rfl⟩ (by repeat' first | exact trivial | refine ⟨rfl, ?_⟩) ?_ ?_)
    · exact ⟨rfl, Nat.zero_le _, by simp [deadN_nil]⟩
    rintro h4 ⟨j, n4⟩ _ ⟨rfl, hj, hn4⟩
    simp only at hj hn4
    dsimp only
    have hb4 := deadN_take_le (reachR vs) ((v.scions.take j).map (·.id)) 12 (by rw [List.length_map, List.length_take]; omega)
    by_cases hlt4 : j < v.scions.length
    · obtain ⟨x, ex⟩ := get_of hlt4
      have htk := mapid_take (·.id) ex
      (focus (refine Wr ?_; refine Sc rfl rfl rfl rfl rfl rfl rfl ?_; refine On ?_; refine WP_seq ?_; refine WP_cond rfl (fun c13_1 => ?_) (fun c13_1 => ?_) <;> (first | (simp [*] at c13_1; done) | (try simp at c13_1)); refine WP_skip ?_; refine then_n ?_; refine WP_seq ?_; refine WP_block ?_; refine Wr ?_; refine S_q rfl rfl rfl (Q_indexS ‹_› ‹_› rfl rfl rfl (elm rfl) rfl) ?_; refine S_load rfl rfl rfl rfl rfl ?_; refine L_elA ‹_› ‹_› (ty rfl) ?_; rintro _ _ _ ⟨xa13_2, xb13_2, xc13_2, xd13_2, xe13_2, xf13_2, xg13_2, xh13_2, rfl⟩; refine S_c rfl rfl rfl (C_alloc rfl (zer rfl) ?_); intro b13_3; refine S_w0 rfl rfl (W_all rfl rfl rfl (ty rfl) u0 (by first | rfl | assumption) (by first | rfl | assumption) (by first | rfl | assumption | exact ones_sub ‹_› _ _) ?_); refine On ?_; refine R_region ?_; refine Sm rfl ?_; refine Sf rfl rfl rfl rfl rfl (fld rfl rfl) ?_; refine S_load rfl rfl rfl rfl rfl ?_; refine L_sub (Rd.own m0) (ty rfl) rfl ?_))
      refine S_w rfl rfl rfl (W_callC (vs := [.agg (idc x.id).toArray]) (cap := [ptr b0_2 0, ptr b0_3 0]) [_, _] _ (garbage1_s a1_k f0_1 (by omega)) rfl rfl rfl ⟨_, _, rfl, rfl, rfl⟩ (cal rfl) rfl ?_)
      rintro hq Lq _ hlq ⟨rfl, rfl⟩
      (focus (refine OPS_nil ?_; refine block_n ?_; refine then_n ?_; refine R_region ?_; refine S_q rfl rfl rfl (Q_add rfl rfl rfl (by omega)) ?_; refine Sm rfl ?_; refine OPS_nil ?_))
      refine roundF_n (j + 1, _) (by simp only; omega) ⟨rfl, by simp only; omega, ?_⟩ (by repeat' first | exact sR _ | exact sA _ _ | exact sN _ | apply s2 | apply s1) (by repeat' first | exact trivial | refine ⟨rfl, ?_⟩)
      simp only; rw [htk, deadN_snoc, hn4]; omega
    have hge : j = v.scions.length := by omega
    subst hge
    rw [List.take_length] at hn4 hb4
    (focus (refine Wr ?_; refine Sc rfl rfl rfl rfl rfl rfl rfl ?_; refine On ?_; refine WP_seq ?_; refine WP_cond rfl (fun c15_1 => ?_) (fun c15_1 => ?_) <;> (first | (simp [*] at c15_1; done) | (try simp at c15_1)); refine WP_exit ?_; refine then_e ?_; refine roundF_e ?_; refine block_e ?_; refine block_n ?_; refine then_n ?_; refine R_region ?_; refine S_q rfl rfl rfl (Q_add rfl rfl rfl (by omega)) ?_; refine Sm rfl ?_; refine OPS_nil ?_))
    refine roundF_n (k + 1, n4) (by simp only; omega) ⟨rfl, by simp only; omega, ?_⟩ (by repeat' first | exact sR _ | exact sA _ _ | exact sN _ | apply s2 | apply s1) (by repeat' first | exact trivial | refine ⟨rfl, ?_⟩)
    simp only; rw [hsum, ← hn, hn4, hn3, hn2, garbageOf_def]; omega
  · have hge : k = vs.length := by omega
    subst hge
    rw [List.take_length] at hn
    (focus (refine Wr ?_; refine Sc rfl rfl rfl rfl rfl rfl rfl ?_; refine On ?_; refine WP_seq ?_; refine WP_cond rfl (fun c16_1 => ?_) (fun c16_1 => ?_) <;> (first | (simp [*] at c16_1; done) | (try simp at c16_1)); refine WP_exit ?_; refine then_e ?_; refine roundF_e ?_; refine block_e ?_; refine then_n ?_; refine Wr ?_; refine S_load rfl rfl rfl rfl rfl ?_; refine L_one (Rd.own m0) (ty rfl) ?_; refine Sm rfl ?_; refine On ?_; refine WP_ret ?_))
    refine pret (.inl rfl) rfl ⟨_, _, rfl, rfl, rfl⟩ ?_
    simp only [resOf]; rw [hn, garbageR]
end Go.Proofs.YtfhoecgiahpddaaGreat
/-
  CONTRACTS: observer.Agrees.
-/
set_option linter.all false
namespace Go.Proofs.YtfhoecgiahpddaaGreat
open Go.Mesh Go.RowKit
set_option maxRecDepth 100000
set_option linter.unusedVariables false
set_option maxHeartbeats 4000000
attribute [local irreducible] WP OPS ANY ANYo LG LV FSpec PSpec QOP OPc OPw thenQ blockQ roundQ roundF retQ retM Rd At SLB OS cmpI orI cmpID namedB valB nodeB kindB validG valAux idxI findG zeroV viewOf vwAt idxOf recv flyB scionOf moveOf numberedOf idOf valueOf mget mput localB carriedB msgB sizesB smallV fewB stubOf followF followOf flOf flightsOf flPre plainV plainN plainTo disagree setL minusL compactL putI mergeN insN insAll unionR NMap Coll retN bodyS GMap Dfs refsV refsOf reachL movedOf movedG graphParts graphR isMove flightIDs mailIDs viewIDs rawRoots rootsR reachR deadN viewObjs garbageOf garbageR objsL
/-- whether a fleet agrees with a graph and its reached identities -/
noncomputable def agreesB (vs : List View) (g : List Nd) (ids : List ID) : Bool := decide ((graphR vs).2 = 0) && (decide (reachR vs = setL ids) && !(reachR vs).any (disagree (graphR vs).1 g (reachR vs)))
theorem agreesB_err {vs : List View} {g : List Nd} {ids : List ID} (h : ¬ (graphR vs).2 = 0) : agreesB vs g ids = false := by rw [agreesB, decide_eq_false h]; rfl
theorem agreesB_ne {vs : List View} {g : List Nd} {ids : List ID} (h : ¬ reachR vs = setL ids) : agreesB vs g ids = false := by rw [agreesB, decide_eq_false h, Bool.false_and, Bool.and_false]
theorem agreesB_eq {vs : List View} {g : List Nd} {ids : List ID} (h1 : (graphR vs).2 = 0) (h : reachR vs = setL ids) : agreesB vs g ids = !(reachR vs).any (disagree (graphR vs).1 g (reachR vs)) := by rw [agreesB, decide_eq_true h1, decide_eq_true h]; rfl
attribute [local irreducible] agreesB
theorem setM_s {h : Frag} {a : Value} {xs : List ID} (hx : SL h 2 IDC a xs) : PSpec Tryz.prog 42 #[a] h (fun h' v => ∃ p c, v = .slice p (setL xs).length c ∧ SL h' 2 IDC (.slice p (setL xs).length c) (setL xs)) := by
  have hxl := hx.le
  have hsl := setL_length xs
  obtain ⟨p, cap, rfl⟩ := hx.slice
  refine pspec_of (vs := [.slice p xs.length cap]) Tryz.func42 Tryz.ntmps42 rfl rfl ?_
  (focus (refine Wr ?_; refine Sm rfl ?_; refine On ?_; refine Wr ?_; refine Sm rfl ?_; refine S_w rfl rfl rfl (W_callF [] _ (cloneID_s ‹_›) rfl rfl ⟨_, _, rfl, rfl, rfl⟩ (cal rfl) rfl ?_); rintro h0_1 m0_1 _ l0_1 ⟨p0_1, q0_1, rfl, o0_1⟩; replace hx := hx.up l0_1; refine Sm rfl ?_; refine On ?_; refine Wr ?_; refine Sm rfl ?_; refine S_w rfl rfl rfl (W_callF [] _ (sortID_s ‹_› (by omega) (cal rfl) (fun _ _ => compareID_s _ _ _)) rfl rfl ⟨_, _, rfl, ⟨_, _, rfl, rfl, rfl⟩, rfl⟩ (cal rfl) rfl ?_); rintro h0_2 m0_2 _ l0_2 ⟨e0_2, rfl, ys0_2, hp0_2, hn0_2, hs0_2, o0_2⟩; replace o0_1 := o0_1.up l0_2; replace hx := hx.up l0_2; replace o0_2 := o0_2.up l0_2; refine On ?_; refine Wr ?_; refine Sm rfl ?_; refine S_w rfl rfl rfl (W_callF [] _ (compact_s ‹_› (by omega)) rfl rfl ⟨_, _, rfl, rfl, rfl⟩ (cal rfl) rfl ?_); rintro h0_3 m0_3 _ l0_3 ⟨e0_3, p0_3, q0_3, rfl, o0_3⟩; replace o0_1 := o0_1.up l0_3; replace hx := hx.up l0_3; replace o0_2 := o0_2.up l0_3; refine Sm rfl ?_; refine On ?_; refine WP_ret ?_))
  rw [compact_set hp0_2 hs0_2] at o0_3
  rw [compact_set hp0_2 hs0_2]
  refine pretKM [] m0_3 _ rfl (.inl rfl) rfl ⟨_, _, rfl, rfl, rfl⟩ fun h' hl' hm' => ?_
  exact ⟨_, _, rfl, o0_3.sl hl' IDC_mono hm' (by omega)⟩
theorem agrees_s {h : Frag} {a b : Value} {vs : List View} {us : List Value} {g : List Nd} {ids : List ID} (hs : SL h 13 (ViewC 4398046511104) a vs) (sm : Small vs) (hg : GraphC 4398046511104 h g us) (hi : SL h 2 IDC b ids) (hib : ids.length ≤ 1000000) : PSpec Tryz.prog 29 #[a, .agg us.toArray, b] h (fun _ v => v = .bool (agreesB vs g ids)) := by
  obtain ⟨pv, cv, rfl⟩ := hs.slice
  obtain ⟨pg, cg, rfl, hf⟩ := hg
  obtain ⟨pi, ci, rfl⟩ := hi.slice
  have hrr := sm.reach
  refine pspec_of (vs := [.slice pv vs.length cv, .agg [Value.slice pg g.length cg].toArray, .slice pi ids.length ci]) Tryz.func29 Tryz.ntmps29 rfl rfl ?_
  (focus (refine Wr ?_; refine S_c rfl rfl rfl (C_box rfl rfl ?_); intro b0_1; refine Sm rfl ?_; refine On ?_; refine Wr ?_; refine Sm rfl ?_; refine S_c rfl rfl rfl (C_call (graph_s ‹_› ‹_›) rfl rfl ⟨_, _, rfl, rfl, rfl⟩ (cal rfl) ?_); rintro h0_2 _ l0_2 ⟨_, rfl, pg0_2, qg0_2, rfl, fg0_2⟩; replace hs := hs.up l0_2; replace hf := hf.up l0_2; replace hi := hi.up l0_2; refine Sm rfl ?_; refine S_q rfl rfl rfl (Q_extract rfl rfl rfl) ?_; refine S_q rfl rfl rfl (Q_extract rfl rfl rfl) ?_; refine S_c rfl rfl rfl (C_alloc rfl (zer rfl) ?_); intro b0_3; refine S_w0 rfl rfl (W_all rfl rfl rfl (ty rfl) u0 (by first | rfl | assumption) (by first | rfl | assumption) (by first | rfl | assumption | exact ones_sub ‹_› _ _) ?_); refine Sm rfl ?_; refine On ?_; refine Wr ?_; refine Sm rfl ?_; refine S_c rfl rfl rfl (C_call (reachable_s ‹_› ‹_›) rfl rfl ⟨_, _, rfl, rfl, rfl⟩ (cal rfl) ?_); rintro h0_4 _ l0_4 ⟨p0_4, q0_4, rfl, f0_4⟩; replace fg0_2 := fg0_2.up l0_4; replace hs := hs.up l0_4; replace hf := hf.up l0_4; replace hi := hi.up l0_4; refine S_c rfl rfl rfl (C_alloc rfl (zer rfl) ?_); intro b0_5; refine S_w0 rfl rfl (W_one rfl rfl rfl (ty rfl) u0 rfl rfl rfl ?_); refine On ?_; refine WP_seq ?_))
  (focus (refine WP_keepM [] [_] _ rfl ?_; rintro h1_k l1_k k1_k; have a1_k := at_of_keep k1_k; clear k1_k; replace f0_4 := f0_4.up l1_k; replace fg0_2 := fg0_2.up l1_k; replace hs := hs.up l1_k; replace hf := hf.up l1_k; replace hi := hi.up l1_k))
  (focus (refine WP_keepM [] [_] _ rfl ?_; rintro h2_k l2_k k2_k; have a2_k := at_of_keep k2_k; clear k2_k; replace a1_k := a1_k.up l2_k; replace f0_4 := f0_4.up l2_k; replace fg0_2 := fg0_2.up l2_k; replace hs := hs.up l2_k; replace hf := hf.up l2_k; replace hi := hi.up l2_k))
  (focus (refine WP_keepM [] [_] _ rfl ?_; rintro h3_k l3_k k3_k; have a3_k := at_of_keep k3_k; clear k3_k; replace a2_k := a2_k.up l3_k; replace a1_k := a1_k.up l3_k; replace f0_4 := f0_4.up l3_k; replace fg0_2 := fg0_2.up l3_k; replace hs := hs.up l3_k; replace hf := hf.up l3_k; replace hi := hi.up l3_k))
  by_cases he : (graphR vs).2 = 0
  · (focus (refine WP_seq ?_; refine R_draw (n := 9) mixed rfl ?_; refine A_at 0 rfl rfl ?_; refine A_q (m' := 1) rfl rfl rfl (Q_move rfl rfl) rfl (by decide +kernel) ?_; refine A_at 1 rfl rfl ?_; refine A_q (m' := 3) rfl rfl rfl (Q_cmp rfl rfl rfl rfl) rfl (by decide +kernel) ?_; refine A_at 2 rfl rfl ?_; refine A_q (m' := 7) rfl rfl rfl (Q_move rfl rfl) rfl (by decide +kernel) ?_; refine A_at 3 rfl rfl ?_; refine A_gsplit rfl rfl rfl rfl (fun c4_1 => ?_) (fun c4_1 => ?_) <;> (first | (simp [*] at c4_1; done) | (try simp at c4_1)); refine A_at 3 rfl rfl ?_; refine A_gload (m' := 15) rfl rfl rfl rfl rfl rfl rfl rfl rfl (by decide +kernel) ?_; refine L_one (Rd.pers ‹_›) (ty rfl) ?_; refine A_at 4 rfl rfl ?_; refine A_gq (m' := 31) rfl rfl rfl rfl rfl rfl (Q_move rfl rfl) rfl (by decide +kernel) ?_; refine A_at 5 rfl rfl ?_; refine A_gc (m' := 63) rfl rfl rfl rfl rfl rfl rfl (by decide +kernel) (C_call (setM_s ‹_›) rfl rfl ⟨_, _, rfl, rfl, rfl⟩ (cal rfl) ?_); rintro h4_2 _ l4_2 ⟨p4_2, q4_2, rfl, f4_2⟩; replace a3_k := a3_k.up l4_2; replace a2_k := a2_k.up l4_2; replace a1_k := a1_k.up l4_2; replace f0_4 := f0_4.up l4_2; replace fg0_2 := fg0_2.up l4_2; replace hs := hs.up l4_2; replace hf := hf.up l4_2; replace hi := hi.up l4_2; refine A_at 6 rfl rfl ?_; refine A_gc (m' := 127) rfl rfl rfl rfl rfl rfl rfl (by decide +kernel) (C_callv (eqIDs_s ‹_› ‹_›) rfl rfl ⟨_, _, rfl, ⟨_, _, rfl, rfl, rfl⟩, rfl⟩ (cal rfl) ?_); refine A_at 7 rfl rfl ?_; refine A_gq (m' := 255) rfl rfl rfl rfl rfl rfl (Q_not rfl rfl) rfl (by decide +kernel) ?_; refine A_at 8 rfl rfl ?_; refine A_q (m' := 511) rfl rfl rfl (Q_pick_f rfl rfl rfl) rfl (by decide +kernel) ?_; refine A_done (by decide +kernel) ?_; refine then_n ?_; refine WP_cond rfl (fun c4_3 => ?_) (fun c4_3 => ?_) <;> (first | (simp [*] at c4_3; done) | (try simp at c4_3)); (focus (refine Wr ?_; refine Sm rfl ?_; refine On ?_; refine WP_ret ?_; refine then_r ?_)); rotate_left 1; (focus (refine WP_skip ?_; refine then_n ?_; refine Wr ?_; refine S_load rfl rfl rfl rfl rfl ?_; refine L_one (Rd.pers ‹_›) (ty rfl) ?_; refine S_q rfl rfl rfl (Q_makeFunc rfl rfl ⟨_, _, rfl, ⟨_, _, rfl, ⟨_, _, rfl, rfl, rfl⟩, rfl⟩, rfl⟩) ?_)); rotate_left 1))
    · refine pret (.inl rfl) rfl ⟨_, _, rfl, rfl, rfl⟩ ?_
      simp only [resOf]; rw [agreesB_ne c4_3]
    · have hfn : ∀ (x : ID) (us : List Value), us.length = 2 → ones us = true → IDC h4_2 x us → PSpec Tryz.prog 73 ([Value.agg us.toArray] ++ [ptr b0_3 0, ptr b0_1 0, ptr b0_5 0]).toArray h4_2 (fun _ v => v = .bool (disagree (graphR vs).1 g (reachR vs) x)) := fun x us _ _ hx => by
        subst hx; exact agrees1_s a2_k ⟨_, _, rfl, fg0_2⟩ a3_k ⟨_, _, rfl, hf⟩ a1_k f0_4
      refine S_c rfl rfl rfl (C_callv (hasIDf_s (cap := [ptr b0_3 0, ptr b0_1 0, ptr b0_5 0]) f0_4 (cal rfl) hfn) rfl rfl ⟨_, _, rfl, ⟨_, _, rfl, rfl, rfl⟩, rfl⟩ (cal rfl) ?_)
      (focus (refine S_q rfl rfl rfl (Q_not rfl rfl) ?_; refine Sm rfl ?_; refine On ?_; refine WP_ret ?_))
      refine pret (.inl rfl) rfl ⟨_, _, rfl, rfl, rfl⟩ ?_
      simp only [resOf]; rw [agreesB_eq he c4_3]
  · (focus (refine WP_seq ?_; refine R_draw (n := 9) mixed rfl ?_; refine A_at 0 rfl rfl ?_; refine A_q (m' := 1) rfl rfl rfl (Q_move rfl rfl) rfl (by decide +kernel) ?_; refine A_at 1 rfl rfl ?_; refine A_q (m' := 3) rfl rfl rfl (Q_cmp rfl rfl rfl rfl) rfl (by decide +kernel) ?_; refine A_at 2 rfl rfl ?_; refine A_q (m' := 7) rfl rfl rfl (Q_move rfl rfl) rfl (by decide +kernel) ?_; refine A_at 3 rfl rfl ?_; refine A_gsplit rfl rfl rfl rfl (fun c6_1 => ?_) (fun c6_1 => ?_) <;> (first | (simp [*] at c6_1; done) | (try simp at c6_1)); refine A_at 3 rfl rfl ?_; refine A_gn (m' := 15) rfl rfl rfl rfl rfl rfl rfl (by decide +kernel) ?_; refine A_at 4 rfl rfl ?_; refine A_gn (m' := 31) rfl rfl rfl rfl rfl rfl rfl (by decide +kernel) ?_; refine A_at 5 rfl rfl ?_; refine A_gn (m' := 63) rfl rfl rfl rfl rfl rfl rfl (by decide +kernel) ?_; refine A_at 6 rfl rfl ?_; refine A_gn (m' := 127) rfl rfl rfl rfl rfl rfl rfl (by decide +kernel) ?_; refine A_at 7 rfl rfl ?_; refine A_gn (m' := 255) rfl rfl rfl rfl rfl rfl rfl (by decide +kernel) ?_; refine A_at 8 rfl rfl ?_; refine A_q (m' := 511) rfl rfl rfl (Q_pick_t rfl rfl rfl) rfl (by decide +kernel) ?_; refine A_done (by decide +kernel) ?_; refine then_n ?_; refine cond_t rfl ?_; refine Wr ?_; refine Sm rfl ?_; refine On ?_; refine WP_ret ?_; refine then_r ?_))
    refine pret (.inl rfl) rfl ⟨_, _, rfl, rfl, rfl⟩ ?_
    simp only [resOf]; rw [agreesB_err he]
end Go.Proofs.YtfhoecgiahpddaaGreat
/-
  PLAIN: a fleet agrees with itself, and with nothing near.
-/
set_option linter.all false
namespace Go.Proofs.YtfhoecgiahpddaaGreat
open Go.Mesh Go.RowKit
set_option maxRecDepth 100000
set_option linter.unusedVariables false
set_option maxHeartbeats 4000000
attribute [local irreducible] WP OPS ANY ANYo LG LV FSpec PSpec QOP OPc OPw thenQ blockQ roundQ roundF retQ retM Rd At SLB OS cmpI orI cmpID namedB valB nodeB kindB validG valAux idxI findG zeroV viewOf vwAt idxOf recv flyB scionOf moveOf numberedOf idOf valueOf mget mput localB carriedB msgB sizesB smallV fewB stubOf followF followOf flOf flightsOf flPre plainV plainN plainTo disagree setL minusL compactL putI mergeN insN insAll unionR NMap Coll retN bodyS GMap Dfs refsV refsOf reachL movedOf movedG graphParts graphR isMove flightIDs mailIDs viewIDs rawRoots rootsR reachR deadN viewObjs garbageOf garbageR objsL agreesB
theorem disagree_own {own : List Nd} {live : List ID} {id : ID} (h : ∃ n, findG own id = some n) : disagree own own live id = false := by
  obtain ⟨n, hn⟩ := h
  rw [disagree_some hn hn]; simp
theorem reachR_found {vs : List View} (he : (graphR vs).2 = 0) {id : ID} (h : id ∈ reachR vs) : ∃ n, findG (graphR vs).1 id = some n := by
  rw [reachR, if_pos he, mem_reachL] at h
  exact h.has
theorem SI_reachR (vs : List View) : SI (reachR vs) := by
  rw [reachR]; split
  · exact SI_reachL _ _
  · exact List.Pairwise.nil
theorem setL_SI {l : List ID} (h : SI l) : setL l = l := SI_unique (SI_setL l) h fun z => mem_setL
theorem agreesB_own {vs : List View} (he : (graphR vs).2 = 0) : agreesB vs (graphR vs).1 (reachR vs) = true := by
  rw [agreesB_eq he (setL_SI (SI_reachR vs)).symm, Bool.not_eq_true', List.any_eq_false]
  intro id hid
  rw [disagree_own (reachR_found he hid)]; simp
theorem agreesB_less {vs : List View} {g : List Nd} {k : Nat} (hk : k < (reachR vs).length) : agreesB vs g ((reachR vs).take k ++ (reachR vs).drop (k + 1)) = false := by
  refine agreesB_ne fun e => ?_
  have h1 := congrArg List.length e
  have h2 := setL_length ((reachR vs).take k ++ (reachR vs).drop (k + 1))
  rw [List.length_append, List.length_take, List.length_drop] at h2
  omega
/-- another first field -/
def bump : List Val → List Val
  | [] => []
  | x :: r => (if x.1 = 1 then (0, 0, (0, 0)) else (1, 1099511627776, (0, 0))) :: r
def chB (id : ID) (n : Nd) : Bool := decide (n.id = id) && (decide (0 < n.fields.length) && decide (n.kind ≠ 2))
def chg (id : ID) (n : Nd) : Nd := if chB id n then ⟨n.id, n.kind, n.cls, bump n.fields⟩ else n
theorem chg_id (id : ID) (n : Nd) : (chg id n).id = n.id := by rw [chg]; split <;> rfl
theorem findG_map {f : Nd → Nd} (hf : ∀ n, (f n).id = n.id) (id : ID) : ∀ l : List Nd, findG (l.map f) id = (findG l id).map f
  | [] => by simp [findG]
  | y :: l => by
    rw [List.map_cons, findG_cons, findG_cons, hf, findG_map hf id l]
    split <;> rfl
theorem bump_ne {l : List Val} (h : 0 < l.length) : bump l ≠ l := by
  cases l with
  | nil => simp at h
  | cons x r =>
    rw [bump]
    intro e
    have e1 := (List.cons.inj e).1
    split at e1
    · rename_i hx; rw [← e1] at hx; simp at hx
    · rename_i hx; rw [← e1] at hx; simp at hx
theorem plainV_other {kd : Int} {live : List ID} {x : Val} (h : kd ≠ 2) : plainV kd live x = x := by rw [plainV, if_neg fun e => h e.1]
theorem plainN_other {live : List ID} {n : Nd} (h : n.kind ≠ 2) : plainN live n = n := by
  obtain ⟨i, kd, cl, fs⟩ := n
  simp only at h
  rw [plainN_def]
  congr 1
  have : plainV kd live = id := by funext x; exact plainV_other h
  rw [this, List.map_id]
theorem agreesB_chg {vs : List View} {id : ID} {ids : List ID} (he : (graphR vs).2 = 0) (hs : SN (graphR vs).1) (hid : id ∈ reachR vs) (hc : (graphR vs).1.any (chB id) = true) : agreesB vs ((graphR vs).1.map (chg id)) ids = false := by
  by_cases hr : reachR vs = setL ids
  · rw [agreesB_eq he hr, Bool.not_eq_false', List.any_eq_true]
    refine ⟨id, hid, ?_⟩
    obtain ⟨n, hn, hb⟩ := List.any_eq_true.1 hc
    have hb' := hb
    rw [chB, Bool.and_eq_true, Bool.and_eq_true, decide_eq_true_eq, decide_eq_true_eq, decide_eq_true_eq] at hb
    obtain ⟨h1, h2, h3⟩ := hb
    have h4 := findG_mem hs hn
    rw [h1] at h4
    have h5 : findG ((graphR vs).1.map (chg id)) id = some (chg id n) := by rw [findG_map (chg_id id), h4]; rfl
    have h6 : chg id n = ⟨n.id, n.kind, n.cls, bump n.fields⟩ := by rw [chg, if_pos hb']
    rw [disagree_some h4 h5, plainN_other h3, plainN_other (by rw [h6]; exact h3), h6, Bool.not_eq_true', decide_eq_false_iff_not]
    intro e
    exact bump_ne h2 (congrArg Nd.fields e).symm
  · exact agreesB_ne hr
theorem chg_yes {i1 i2 : Int} {id : ID} {kd cl : Int} {x : Val} {r : List Val} (h1 : (i1, i2) = id) (h2 : kd ≠ 2) : chg id ⟨(i1, i2), kd, cl, x :: r⟩ = ⟨(i1, i2), kd, cl, (if x.1 = 1 then (0, 0, (0, 0)) else (1, 1099511627776, (0, 0))) :: r⟩ := by
  rw [chg, if_pos (by simp [chB, h1, h2])]; rfl
theorem chB_yes {i : ID} {kd cl : Int} {x : Val} {r : List Val} (h2 : kd ≠ 2) : chB i ⟨i, kd, cl, x :: r⟩ = true := by simp [chB, h2]
theorem chB_no {id : ID} {n : Nd} (h : ¬ (n.id = id ∧ 0 < n.fields.length ∧ n.kind ≠ 2)) : chB id n = false := by
  rw [← Bool.not_eq_true]; intro e
  rw [chB, Bool.and_eq_true, Bool.and_eq_true, decide_eq_true_eq, decide_eq_true_eq, decide_eq_true_eq] at e
  exact h e
theorem chg_no {id : ID} {n : Nd} (h : chB id n = false) : chg id n = n := by rw [chg, if_neg (by rw [h]; simp)]
theorem any_take' {α : Type} (p : α → Bool) {l : List α} {k : Nat} {x : α} (hx : l[k]? = some x) : (l.take (k + 1)).any p = ((l.take k).any p || p x) := by
  rw [List.take_add_one, hx]; simp
attribute [local irreducible] bump chB chg
end Go.Proofs.YtfhoecgiahpddaaGreat
/-
  CONTRACTS: slices.Grow and slices.Concat at identities.
-/
set_option linter.all false
namespace Go.Proofs.YtfhoecgiahpddaaGreat
open Go.Mesh Go.RowKit
set_option maxRecDepth 100000
set_option linter.unusedVariables false
set_option maxHeartbeats 4000000
attribute [local irreducible] WP OPS ANY ANYo LG LV FSpec PSpec QOP OPc OPw thenQ blockQ roundQ roundF retQ retM Rd At SLB OS cmpI orI cmpID namedB valB nodeB kindB validG valAux idxI findG zeroV viewOf vwAt idxOf recv flyB scionOf moveOf numberedOf idOf valueOf mget mput localB carriedB stubOf followF followOf flOf flightsOf flPre setL minusL compactL putI mergeN insN insAll unionR NMap Coll retN bodyS GMap Dfs refsV refsOf reachL movedOf movedG graphParts graphR isMove flightIDs mailIDs viewIDs rawRoots rootsR reachR deadN viewObjs garbageOf garbageR objsL
def IDsC (B : Nat) : CR (List ID) := fun h l vs => ∃ p c, vs = [.slice p l.length c] ∧ SLB B h 2 IDC (.slice p l.length c) l
instance (B : Nat) : CM (IDsC B) := ⟨fun _ _ _ _ hl ⟨p, c, e, s⟩ => ⟨p, c, e, s.mono hl IDC_mono⟩⟩
theorem flat_take {α : Type} {ls : List (List α)} {k : Nat} {l : List α} (hl : ls[k]? = some l) : (ls.take (k + 1)).flatten = (ls.take k).flatten ++ l := by
  rw [List.take_add_one, hl]; simp
theorem flat_take_le {α : Type} (ls : List (List α)) (k : Nat) : (ls.take k).flatten.length ≤ ls.flatten.length := by
  conv => rhs; rw [← List.take_append_drop k ls, List.flatten_append, List.length_append]
  omega
theorem grow_s {h : Frag} {n : Nat} (hn : n ≤ 4398046511104) : FSpec Tryz.prog 107 #[.slice none 0 0, .int .i64 (n : Int)] h [] (fun h' L' v => h' = h ∧ ∃ p c, v = .slice p ([] : List ID).length c ∧ OS h 35 2 IDC (.slice p ([] : List ID).length c) [] L') := by
  refine spec_of (vs := [.slice none 0 0, .int .i64 (n : Int)]) Tryz.func107 Tryz.ntmps107 rfl rfl rfl ?_
  (focus (refine Wr ?_; refine Sm rfl ?_; refine On ?_; refine WP_seq ?_; refine Wr ?_; refine Sm rfl ?_; refine Sc rfl rfl rfl rfl rfl rfl rfl ?_; refine On ?_; refine cond_f rfl ?_; refine WP_skip ?_; refine then_n ?_; refine WP_seq ?_; refine Wr ?_; refine Sm rfl ?_; refine Sm rfl ?_; refine S_q rfl rfl rfl (Q_cap rfl rfl rfl rfl rfl rfl) ?_; refine Sm rfl ?_; refine S_q rfl rfl rfl (Q_len rfl rfl rfl rfl rfl rfl) ?_; refine S_q rfl rfl rfl (Q_sub rfl rfl rfl (by omega)) ?_; refine S_q rfl rfl rfl (Q_sub rfl rfl rfl (by omega)) ?_; refine Sm rfl ?_; refine On ?_; refine Wr ?_; refine Sm rfl ?_; refine Sc rfl rfl rfl rfl rfl rfl rfl ?_; refine On ?_; refine WP_cond rfl (fun c0_1 => ?_) (fun c0_1 => ?_) <;> (first | (simp [*] at c0_1; done) | (try simp at c0_1)); (focus (refine R_region ?_; refine Sm rfl ?_; refine Sm rfl ?_; refine S_q rfl rfl rfl (Q_cap rfl rfl rfl rfl rfl rfl) ?_; refine S_q rfl rfl rfl (Q_slice0 rfl rfl (elm rfl) rfl rfl) ?_; refine Sm rfl ?_)); rotate_left 1; (focus (refine WP_skip ?_; refine then_n ?_; refine Wr ?_; refine Sm rfl ?_; refine Sm rfl ?_; refine On ?_; refine WP_ret ?_)); rotate_left 1))
  · refine S_c rfl rfl rfl (C_appZ n rfl rfl rfl rfl rfl rfl (by simp) (elm rfl) (zer rfl) rfl (by rfl) (by omega) (by decide) (by omega) (by omega) ?_)
    rintro b cap rest hc hl
    (focus (refine Sm rfl ?_; refine S_q rfl rfl rfl (Q_len rfl rfl rfl rfl rfl rfl) ?_; refine S_q rfl rfl rfl (Q_slice rfl rfl (elm rfl) rfl ⟨_, rfl⟩ (by omega) (by omega) (by omega)) ?_; refine Sm rfl ?_; refine On ?_; refine Wr ?_; refine Sm rfl ?_; refine Sm rfl ?_; refine On ?_; refine WP_ret ?_))
    exact ret_q [(b, cells rest 35)] (.inl rfl) rfl ⟨_, _, rfl, rfl, rfl⟩ (by repeat' first | exact sR _ | exact sA _ _ | exact sN _ | apply s2 | apply s1) ⟨rfl, some ⟨b, 0, none⟩, cap, rfl, OS.make (xs := []) (rest := rest) rfl (Nat.zero_le _) (by simpa [flatI] using hl)⟩
  · subst c0_1
    exact ret_q [] (.inl rfl) rfl ⟨_, _, rfl, rfl, rfl⟩ (by repeat' first | exact sR _ | exact sA _ _ | exact sN _ | apply s2 | apply s1) ⟨rfl, _, _, rfl, OS.nil _ _ _ _⟩
theorem concat_s {h : Frag} {a : Value} {ls : List (List ID)} (hs : SL h 1 (IDsC 4398046511104) a ls) (hb : ls.flatten.length ≤ 4000000) : FSpec Tryz.prog 64 #[a] h [] (fun h' L' v => h' = h ∧ ∃ p c, v = .slice p ls.flatten.length c ∧ OS h 35 2 IDC (.slice p ls.flatten.length c) ls.flatten L') := by
  have hl := hs.le
  obtain ⟨pv, cv, rfl⟩ := hs.slice
  refine spec_of (vs := [.slice pv ls.length cv]) Tryz.func64 Tryz.ntmps64 rfl rfl rfl ?_
  (focus (refine Wr ?_; refine Sm rfl ?_; refine On ?_; refine Wr ?_; refine Sm rfl ?_; refine On ?_; refine WP_seq ?_; refine Wr ?_; refine Sm rfl ?_; refine S_q rfl rfl rfl (Q_len rfl rfl rfl rfl rfl rfl) ?_; refine Sm rfl ?_; refine On ?_; refine WP_block ?_))
  (refine WP_loopC (α := Nat) [10, 9, 0] (fun (k : Nat) => ls.length - k) (fun (k : Nat) => [(11, .int .i64 (k : Int)), (3, .int .i64 (((ls.take k).flatten.length : Nat) : Int))]) (fun hh (k : Nat) => hh = h ∧ k ≤ ls.length) 0 ⟨_, _, rfl, ⟨_, _, rfl, ⟨_, _, rfl, rfl, rfl⟩, rfl⟩, rfl⟩ (by repeat' first | exact trivial | refine ⟨rfl, ?_⟩) ?_ ?_)
  · exact ⟨rfl, Nat.zero_le _⟩
  rintro h1 k _ ⟨rfl, hk⟩
  have hle := flat_take_le ls k
  by_cases hlt : k < ls.length
  · obtain ⟨l, el⟩ := get_of hlt
    have htk := flat_take el
    have hle2 := flat_take_le ls (k + 1)
    rw [htk, List.length_append] at hle2
    (focus (refine Wr ?_; refine Sc rfl rfl rfl rfl rfl rfl rfl ?_; refine On ?_; refine WP_seq ?_; refine WP_cond rfl (fun c2_1 => ?_) (fun c2_1 => ?_) <;> (first | (simp [*] at c2_1; done) | (try simp at c2_1)); refine WP_skip ?_; refine then_n ?_; refine WP_seq ?_; refine WP_block ?_; refine Wr ?_; refine S_q rfl rfl rfl (Q_indexS ‹_› ‹_› rfl rfl rfl (elm rfl) rfl) ?_; refine S_load rfl rfl rfl rfl rfl ?_; refine L_el1 ‹_› ‹_› (ty rfl) ?_; rintro _ ⟨pi2_2, qi2_2, ⟨⟩, fi2_2⟩; refine Sm rfl ?_; refine On ?_; refine Wr ?_; refine Sm rfl ?_; refine Sm rfl ?_; refine S_q rfl rfl rfl (Q_len rfl rfl rfl rfl rfl rfl) ?_; refine S_q rfl rfl rfl (Q_add rfl rfl rfl (by omega)) ?_; refine Sm rfl ?_; refine On ?_; refine Wr ?_; refine Sm rfl ?_; refine Sc rfl rfl rfl rfl rfl rfl rfl ?_; refine On ?_; refine cond_f rfl ?_; refine WP_skip ?_; refine block_n ?_; refine then_n ?_; refine R_region ?_; refine S_q rfl rfl rfl (Q_add rfl rfl rfl (by omega)) ?_; refine Sm rfl ?_; refine OPS_nil ?_))
    refine roundF_n (k + 1) (by omega) ⟨rfl, by omega⟩ (by repeat' first | exact sR _ | exact sA _ _ | exact sN _ | apply s2 | apply s1) ?_
    rw [htk, List.length_append, Int.natCast_add]
    exact (by repeat' first | exact trivial | refine ⟨rfl, ?_⟩)
  have hge : k = ls.length := by omega
  subst hge
  rw [List.take_length]
  (focus (refine Wr ?_; refine Sc rfl rfl rfl rfl rfl rfl rfl ?_; refine On ?_; refine WP_seq ?_; refine WP_cond rfl (fun c3_1 => ?_) (fun c3_1 => ?_) <;> (first | (simp [*] at c3_1; done) | (try simp at c3_1)); refine WP_exit ?_; refine then_e ?_; refine roundF_e ?_; refine block_e ?_; refine then_n ?_; refine Wr ?_; refine Sm rfl ?_; refine S_c rfl rfl rfl (C_callF (grow_s (by omega)) rfl rfl ⟨_, _, rfl, ⟨_, _, rfl, rfl, rfl⟩, rfl⟩ (cal rfl) ?_); rintro h3_2 m3_2 _ l3_2 ⟨e3_2, p3_2, q3_2, rfl, o3_2⟩; replace hs := hs.up l3_2; replace o3_2 := o3_2.up l3_2; refine Sm rfl ?_; refine On ?_; refine WP_seq ?_; refine Wr ?_; refine Sm rfl ?_; refine S_q rfl rfl rfl (Q_len rfl rfl rfl rfl rfl rfl) ?_; refine Sm rfl ?_; refine On ?_; refine WP_block ?_))
  subst e3_2
  clear hle
  (refine WP_loopF (α := Nat × List ID × Option Addr × Nat × Hp) [26, 25] (fun (s : Nat × List ID × Option Addr × Nat × Hp) => ls.length - s.1) (fun (s : Nat × List ID × Option Addr × Nat × Hp) => s.2.2.2.2 ++ []) (fun (s : Nat × List ID × Option Addr × Nat × Hp) => [(27, .int .i64 (s.1 : Int)), (6, .slice s.2.2.1 s.2.1.length s.2.2.2.1)]) (fun hh (s : Nat × List ID × Option Addr × Nat × Hp) => hh = h3_2 ∧ s.1 ≤ ls.length ∧ s.2.1 = (ls.take s.1).flatten ∧ OS h3_2 35 2 IDC (.slice s.2.2.1 s.2.1.length s.2.2.2.1) s.2.1 s.2.2.2.2) (0, [], p3_2, q3_2, m3_2) ⟨_, _, rfl, ⟨_, _, rfl, rfl, rfl⟩, rfl⟩ ?_ (by repeat' first | exact sR _ | exact sA _ _ | exact sN _ | apply s2 | apply s1) (by repeat' first | exact trivial | refine ⟨rfl, ?_⟩) ?_)
  · exact ⟨rfl, Nat.zero_le _, rfl, o3_2⟩
  clear o3_2
  rintro h2 ⟨k, out, p, c, M⟩ _ ⟨rfl, hk, ho, hO⟩
  simp only at hk ho hO
  dsimp only
  have hle := flat_take_le ls k
  rw [← ho] at hle
  by_cases hlt : k < ls.length
  · obtain ⟨l, el⟩ := get_of hlt
    have htk := flat_take el
    have hle2 := flat_take_le ls (k + 1)
    rw [htk, ← ho, List.length_append] at hle2
    (focus (refine Wr ?_; refine Sc rfl rfl rfl rfl rfl rfl rfl ?_; refine On ?_; refine WP_seq ?_; refine WP_cond rfl (fun c5_1 => ?_) (fun c5_1 => ?_) <;> (first | (simp [*] at c5_1; done) | (try simp at c5_1)); refine WP_skip ?_; refine then_n ?_; refine WP_seq ?_; refine WP_block ?_; refine Wr ?_; refine S_q rfl rfl rfl (Q_indexS ‹_› ‹_› rfl rfl rfl (elm rfl) rfl) ?_; refine S_load rfl rfl rfl rfl rfl ?_; refine L_el1 ‹_› ‹_› (ty rfl) ?_; rintro _ ⟨pi5_2, qi5_2, ⟨⟩, fi5_2⟩; refine Sm rfl ?_; refine On ?_; refine R_region ?_; refine Sm rfl ?_; refine Sm rfl ?_; refine S_w rfl rfl rfl (W_appS [] _ ‹_› ‹_› rfl rfl rfl rfl rfl rfl (elm rfl) (zer rfl) rfl rfl (by (try simp only [lA]); omega) (by (try simp only [lA]); omega) ?_); rintro p5_3 q5_3 m5_3 o5_3; refine Sm rfl ?_; refine OPS_nil ?_; refine block_n ?_; refine then_n ?_; refine R_region ?_; refine S_q rfl rfl rfl (Q_add rfl rfl rfl (by omega)) ?_; refine Sm rfl ?_; refine OPS_nil ?_))
    refine roundF_n (k + 1, out ++ l, p5_3, q5_3, m5_3) (by simp only; omega) ⟨rfl, by simp only; omega, ?_, o5_3⟩ (by repeat' first | exact sR _ | exact sA _ _ | exact sN _ | apply s2 | apply s1) (by repeat' first | exact trivial | refine ⟨rfl, ?_⟩)
    simp only; rw [htk, ho]
  have hge : k = ls.length := by omega
  subst hge
  rw [List.take_length] at ho
  subst ho
  (focus (refine Wr ?_; refine Sc rfl rfl rfl rfl rfl rfl rfl ?_; refine On ?_; refine WP_seq ?_; refine WP_cond rfl (fun c6_1 => ?_) (fun c6_1 => ?_) <;> (first | (simp [*] at c6_1; done) | (try simp at c6_1)); refine WP_exit ?_; refine then_e ?_; refine roundF_e ?_; refine block_e ?_; refine then_n ?_; refine Wr ?_; refine Sm rfl ?_; refine Sm rfl ?_; refine On ?_; refine WP_ret ?_))
  exact ret_q M (.inl rfl) rfl ⟨_, _, rfl, rfl, rfl⟩ (by repeat' first | exact sR _ | exact sA _ _ | exact sN _ | apply s2 | apply s1) ⟨rfl, p, c, rfl, hO⟩
end Go.Proofs.YtfhoecgiahpddaaGreat
/-
  CONTRACTS: observer.Safe.
-/
set_option linter.all false
namespace Go.Proofs.YtfhoecgiahpddaaGreat
open Go.Mesh Go.RowKit
set_option maxRecDepth 100000
set_option linter.unusedVariables false
set_option maxHeartbeats 4000000
attribute [local irreducible] WP OPS ANY ANYo LG LV FSpec PSpec QOP OPc OPw thenQ blockQ roundQ roundF retQ retM Rd At SLB OS cmpI orI cmpID namedB valB nodeB kindB validG valAux idxI findG zeroV viewOf vwAt idxOf recv flyB scionOf moveOf numberedOf idOf valueOf mget mput localB carriedB stubOf followF followOf flOf flightsOf flPre setL minusL compactL putI mergeN insN insAll unionR NMap Coll retN bodyS GMap Dfs refsV refsOf reachL movedOf movedG graphParts graphR isMove flightIDs mailIDs viewIDs rawRoots rootsR reachR deadN viewObjs garbageOf garbageR objsL
def thereB (g : List Nd) (id : ID) : Bool := match findG g id with | some n => decide (n.kind ≠ 3) | none => false
def oddB (g : List Nd) (v : Val) : Bool := decide (v.1 = 2) && !thereB g v.2.2
def badNode (g : List Nd) (n : Nd) : Bool := decide (n.kind ≠ 2) && n.fields.any (oddB g)
def lostF (vs : List View) (i : View × Flight) : Bool := decide (i.2.msg.kind = 0) && decide (numberedOf vs i.1.machine i.2.to i.2.msg.number = (0, 0))
def badStub (vs : List View) (live : List ID) (v : View) (s : StubE) : Bool := !s.weak && (!s.dead && (decide (s.id ∈ live) && decide ((followOf vs v.machine s.id).2 ≠ 0)))
def safe4 (vs : List View) (live : List ID) : Int := if vs.any (fun v => v.stubs.any (badStub vs live v)) then 11 else 0
def safe3 (vs : List View) (live : List ID) : Int := if (flightsOf vs).any (lostF vs) then 6 else safe4 vs live
def safe2 (vs : List View) (g : List Nd) (live : List ID) : Int := if live.any (fun id => badNode g ((findG g id).getD zeroN)) then 6 else safe3 vs live
def safe1 (vs : List View) (g : List Nd) (live roots : List ID) : Int := if (live ++ roots).any (fun id => !thereB g id) then 6 else safe2 vs g live
noncomputable def safeR (vs : List View) : Int := if (graphR vs).2 = 0 then safe1 vs (graphR vs).1 (reachL (graphR vs).1 (rootsR vs)) (rootsR vs) else (graphR vs).2
theorem badNode_weak {g : List Nd} {n : Nd} (h : n.kind = 2) : badNode g n = false := by simp [badNode, h]
theorem badNode_any {g : List Nd} {n : Nd} (h : ¬ n.kind = 2) : badNode g n = n.fields.any (oddB g) := by simp [badNode, h]
theorem lostF_other {vs : List View} {i : View × Flight} (h : ¬ i.2.msg.kind = 0) : lostF vs i = false := by simp [lostF, h]
theorem lostF_zero {vs : List View} {i : View × Flight} (h : i.2.msg.kind = 0) : lostF vs i = decide (numberedOf vs i.1.machine i.2.to i.2.msg.number = (0, 0)) := by simp [lostF, h]
theorem badStub_def (vs : List View) (live : List ID) (v : View) (s : StubE) : badStub vs live v s = (!s.weak && (!s.dead && (decide (s.id ∈ live) && decide ((followOf vs v.machine s.id).2 ≠ 0)))) := rfl
attribute [local irreducible] thereB oddB badNode lostF badStub safe1 safe2 safe3 safe4 safeR
theorem there_s {h : Frag} {g : List Nd} {us : List Value} {b : Nat} {id : ID} (hb : At h b 0 us) (hg : GraphC 4398046511104 h g us) : PSpec Tryz.prog 63 ([Value.agg (idc id).toArray] ++ [ptr b 0]).toArray h (fun _ v => v = .bool (thereB g id)) := by
  obtain ⟨p, c, rfl, hf⟩ := hg
  obtain ⟨i1, i2⟩ := id
  refine pspec_of (vs := [.agg (idc (i1, i2)).toArray, ptr b 0]) Tryz.func63 Tryz.ntmps63 rfl rfl ?_
  (focus (refine Wr ?_; refine S_c rfl rfl rfl (C_box rfl rfl ?_); intro b0_1; refine Sm rfl ?_; refine On ?_; refine Wr ?_; refine S_load rfl rfl rfl rfl rfl ?_; refine L_agg (Rd.pers ‹_›) (ty rfl) (by first | rfl | assumption) ?_; refine S_load rfl rfl rfl rfl rfl ?_; refine L_agg (Rd.own m0) (ty rfl) (by first | rfl | assumption) ?_; refine S_c rfl rfl rfl (C_call (find_s ⟨_, _, rfl, by assumption⟩) rfl rfl ⟨_, _, rfl, ⟨_, _, rfl, rfl, rfl⟩, rfl⟩ (cal rfl) ?_); rintro h0_2 _ l0_2 ⟨vf0_2, rfl, pn0_2, qn0_2, rfl, fn0_2⟩; replace hf := hf.up l0_2; replace hb := hb.up l0_2; refine Sm rfl ?_; refine S_q rfl rfl rfl (Q_extract rfl rfl rfl) ?_; refine S_q rfl rfl rfl (Q_extract rfl rfl rfl) ?_; refine S_c rfl rfl rfl (C_alloc rfl (zer rfl) ?_); intro b0_3; refine S_w0 rfl rfl (W_all rfl rfl rfl (ty rfl) u0 (by first | rfl | assumption) (by first | rfl | assumption) (by first | rfl | assumption | exact ones_sub ‹_› _ _) ?_); refine Sm rfl ?_; refine On ?_; refine Wr ?_; refine Sm rfl ?_; refine Sm rfl ?_; refine S_gsplit rfl rfl rfl rfl (fun c0_4 => ?_) (fun c0_4 => ?_) <;> (first | (simp [*] at c0_4; done) | (try simp at c0_4)); (focus (refine S_gq rfl rfl rfl rfl rfl rfl (Q_fieldAddr rfl rfl (fld rfl rfl)) ?_; refine S_gload rfl rfl rfl rfl rfl rfl rfl rfl ?_; refine L_fld (Rd.own m0) (ty rfl) rfl ?_; refine S_gq rfl rfl rfl rfl rfl rfl (Q_cmp rfl rfl rfl rfl) ?_; refine S_q rfl rfl rfl (Q_pick_t rfl rfl rfl) ?_; refine Sm rfl ?_; refine On ?_; refine WP_ret ?_)); rotate_left 1; (focus (refine Sn rfl ?_; refine Sn rfl ?_; refine Sn rfl ?_; refine S_q rfl rfl rfl (Q_pick_f rfl rfl rfl) ?_; refine Sm rfl ?_; refine On ?_; refine WP_ret ?_)); rotate_left 1))
  all_goals refine pret (.inl rfl) rfl ⟨_, _, rfl, rfl, rfl⟩ ?_
  all_goals (rw [thereB]; cases hx : findG g (i1, i2) <;> simp_all [resOf]; try rfl)
theorem odd_s {h : Frag} {g : List Nd} {us : List Value} {b b8 : Nat} {v : Val} (h8 : At h b8 0 [.func (.func 63) #[] #[ptr b 0]]) (hb : At h b 0 us) (hg : GraphC 4398046511104 h g us) : PSpec Tryz.prog 65 ([Value.agg (vlc v).toArray] ++ [ptr b8 0]).toArray h (fun _ u => u = .bool (oddB g v)) := by
  obtain ⟨v1, v2, v3, v4⟩ := v
  have hfn := fun id : ID => there_s (id := id) hb hg
  have hcal : callOk Tryz.prog 63 = true := cal rfl
  refine pspec_of (vs := [.agg (vlc (v1, v2, v3, v4)).toArray, ptr b8 0]) Tryz.func65 Tryz.ntmps65 rfl rfl ?_
  (focus (refine Wr ?_; refine S_c rfl rfl rfl (C_box rfl rfl ?_); intro b0_1; refine Sm rfl ?_; refine On ?_; refine Wr ?_; refine Sf rfl rfl rfl rfl rfl (fld rfl rfl) ?_; refine S_load rfl rfl rfl rfl rfl ?_; refine L_fld (Rd.own m0) (ty rfl) rfl ?_; refine Sc rfl rfl rfl rfl rfl rfl rfl ?_; refine Sm rfl ?_; refine S_gsplit rfl rfl rfl rfl (fun c0_2 => ?_) (fun c0_2 => ?_) <;> (first | (simp [*] at c0_2; done) | (try simp at c0_2)); (focus (refine S_gload rfl rfl rfl rfl rfl rfl rfl rfl ?_; refine L_one (Rd.pers ‹_›) (ty rfl) ?_; refine S_gq rfl rfl rfl rfl rfl rfl (Q_fieldAddr rfl rfl (fld rfl rfl)) ?_; refine S_gload rfl rfl rfl rfl rfl rfl rfl rfl ?_; refine L_sub (Rd.own m0) (ty rfl) rfl ?_; refine S_gc rfl rfl rfl rfl rfl rfl (C_callCv (hfn _) rfl rfl rfl ⟨_, _, rfl, rfl, rfl⟩ hcal ?_); refine S_gq rfl rfl rfl rfl rfl rfl (Q_not rfl rfl) ?_; refine S_q rfl rfl rfl (Q_pick_t rfl rfl rfl) ?_; refine Sm rfl ?_; refine On ?_; refine WP_ret ?_)); rotate_left 1; (focus (refine Sn rfl ?_; refine Sn rfl ?_; refine Sn rfl ?_; refine Sn rfl ?_; refine Sn rfl ?_; refine S_q rfl rfl rfl (Q_pick_f rfl rfl rfl) ?_; refine Sm rfl ?_; refine On ?_; refine WP_ret ?_)); rotate_left 1))
  all_goals refine pret (.inl rfl) rfl ⟨_, _, rfl, rfl, rfl⟩ ?_
  all_goals (simp_all [resOf, oddB]; try rfl)
theorem safe_s {h : Frag} {a : Value} {vs : List View} (hs : SL h 13 (ViewC 4398046511104) a vs) (sm : Small vs) : PSpec Tryz.prog 25 #[a] h (fun _ v => v = .int .i64 (safeR vs)) := by
  have hlen := sm.len
  obtain ⟨_, hgl, hgf⟩ := sm.graph
  have hrl := roots_len sm
  obtain ⟨pv, cv, rfl⟩ := hs.slice
  refine pspec_ofN (vs := [.slice pv vs.length cv]) Tryz.func25 Tryz.ntmps25 rfl rfl ?_
  (focus (refine Wr ?_; refine S_c rfl rfl rfl (C_alloc rfl (zer rfl) ?_); intro b0_1; refine On ?_; refine Wr ?_; refine Sm rfl ?_; refine S_c rfl rfl rfl (C_call (graph_s ‹_› ‹_›) rfl rfl ⟨_, _, rfl, rfl, rfl⟩ (cal rfl) ?_); rintro h0_2 _ l0_2 ⟨_, rfl, pg0_2, qg0_2, rfl, fg0_2⟩; replace hs := hs.up l0_2; refine Sm rfl ?_; refine S_q rfl rfl rfl (Q_extract rfl rfl rfl) ?_; refine S_q rfl rfl rfl (Q_extract rfl rfl rfl) ?_; refine S_c rfl rfl rfl (C_alloc rfl (zer rfl) ?_); intro b0_3; refine S_w0 rfl rfl (W_all rfl rfl rfl (ty rfl) u0 (by first | rfl | assumption) (by first | rfl | assumption) (by first | rfl | assumption | exact ones_sub ‹_› _ _) ?_); refine Sm rfl ?_; refine On ?_; refine WP_seq ?_; refine Wr ?_; refine Sm rfl ?_; refine Sc rfl rfl rfl rfl rfl rfl rfl ?_; refine On ?_; refine WP_cond rfl (fun c0_4 => ?_) (fun c0_4 => ?_) <;> (first | (simp [*] at c0_4; done) | (try simp at c0_4)); (focus (refine Wr ?_; refine Sm rfl ?_; refine S_w0 rfl rfl (W_one rfl rfl rfl (ty rfl) u1 rfl rfl rfl ?_); refine On ?_; refine WP_ret ?_; refine then_r ?_)); rotate_left 1; (focus (refine WP_skip ?_; refine then_n ?_; refine Wr ?_; refine Sm rfl ?_; refine S_c rfl rfl rfl (C_call (of_s ‹_›) rfl rfl ⟨_, _, rfl, rfl, rfl⟩ (cal rfl) ?_); rintro h0_5 _ l0_5 ⟨pf0_5, qf0_5, mb0_5, rfl, ff0_5⟩; replace fg0_2 := fg0_2.up l0_5; replace hs := hs.up l0_5; refine Sm rfl ?_; refine S_c rfl rfl rfl (C_call (roots_s ‹_› ‹_›) rfl rfl ⟨_, _, rfl, rfl, rfl⟩ (cal rfl) ?_); rintro h0_6 _ l0_6 ⟨p0_6, q0_6, rfl, f0_6⟩; replace ff0_5 := ff0_5.up l0_6; replace fg0_2 := fg0_2.up l0_6; replace hs := hs.up l0_6; refine S_c rfl rfl rfl (C_alloc rfl (zer rfl) ?_); intro b0_7; refine S_w0 rfl rfl (W_all rfl rfl rfl (ty rfl) u0 (by first | rfl | assumption) (by first | rfl | assumption) (by first | rfl | assumption | exact ones_sub ‹_› _ _) ?_); refine Sm rfl ?_; refine On ?_; refine Wr ?_; refine S_load rfl rfl rfl rfl rfl ?_; refine L_agg (Rd.own m1) (ty rfl) (by first | rfl | assumption) ?_; refine Sm rfl ?_; refine S_c rfl rfl rfl (C_callF (reach_s ⟨_, _, rfl, by assumption⟩ ‹_› (by omega) (by omega) ‹_›) rfl rfl ⟨_, _, rfl, ⟨_, _, rfl, rfl, rfl⟩, rfl⟩ (cal rfl) ?_); rintro h0_8 m0_8 _ l0_8 ⟨p0_8, q0_8, rfl, o0_8⟩; replace f0_6 := f0_6.up l0_8; replace ff0_5 := ff0_5.up l0_8; replace fg0_2 := fg0_2.up l0_8; replace hs := hs.up l0_8; refine Sm rfl ?_; refine On ?_; refine Wr ?_; refine S_q rfl rfl rfl (Q_makeFunc rfl rfl ⟨_, _, rfl, rfl, rfl⟩) ?_; refine S_c rfl rfl rfl (C_alloc rfl (zer rfl) ?_); intro b0_9; refine S_w0 rfl rfl (W_one rfl rfl rfl (ty rfl) u0 rfl rfl rfl ?_); refine On ?_; refine WP_seq ?_; refine Wr ?_; refine Sm rfl ?_; refine Sm rfl ?_; refine S_c rfl rfl rfl (C_buildSlice rfl (elm rfl) (zer rfl) rfl ⟨_, _, _, rfl, rfl, rfl, rfl, ⟨_, _, _, rfl, rfl, rfl, rfl, rfl, rfl⟩, rfl⟩ rfl rfl ?_); intro b0_10)); rotate_left 1))
  · refine nretP [_, _] (List.Sublist.refl _) (.inl rfl) rfl ⟨_, _, _, rfl, Loads_one (Rd.own m1) (ty rfl), rfl, rfl⟩ ?_
    simp only [resOf]; rw [safeR, if_neg c0_4]; rfl
  have hsafe : safeR vs = safe1 vs (graphR vs).1 (reachL (graphR vs).1 (rootsR vs)) (rootsR vs) := by rw [safeR, if_pos c0_4]
  have hlv : (reachL (graphR vs).1 (rootsR vs)).length ≤ 1000000 := Nat.le_trans (reachL_length _ _) hgl
  rw [hsafe]
  generalize hlive : reachL (graphR vs).1 (rootsR vs) = live at *
  generalize hroots : rootsR vs = roots at *
  generalize hgr : (graphR vs).1 = g at *
  (focus (refine OPS_keepM [] [_] _ rfl ?_; rintro h1_k l1_k k1_k; have a1_k := at_of_keep k1_k; clear k1_k; replace ff0_5 := ff0_5.up l1_k; replace hs := hs.up l1_k; replace o0_8 := o0_8.up l1_k; replace f0_6 := f0_6.up l1_k; replace fg0_2 := fg0_2.up l1_k))
  (focus (refine OPS_keepM [] [_] _ rfl ?_; rintro h2_k l2_k k2_k; have a2_k := at_of_keep k2_k; clear k2_k; replace a1_k := a1_k.up l2_k; replace ff0_5 := ff0_5.up l2_k; replace hs := hs.up l2_k; replace o0_8 := o0_8.up l2_k; replace f0_6 := f0_6.up l2_k; replace fg0_2 := fg0_2.up l2_k))
  refine OPS_keepM [] m0_8 _ rfl fun h4 hl4 hm4 => ?_
  have hL : SL h4 2 IDC (.slice p0_8 live.length q0_8) live := o0_8.sl hl4 IDC_mono hm4 (by omega)
  clear o0_8 hm4
  (replace a2_k := a2_k.up hl4; replace a1_k := a1_k.up hl4; replace ff0_5 := ff0_5.up hl4; replace hs := hs.up hl4; replace f0_6 := f0_6.up hl4; replace fg0_2 := fg0_2.up hl4)
  (focus (refine OPS_keepM [] [_] _ rfl ?_; rintro h4_k l4_k k4_k; have a4_k := at_of_keep k4_k; clear k4_k; replace hL := hL.up l4_k; replace a2_k := a2_k.up l4_k; replace a1_k := a1_k.up l4_k; replace ff0_5 := ff0_5.up l4_k; replace hs := hs.up l4_k; replace f0_6 := f0_6.up l4_k; replace fg0_2 := fg0_2.up l4_k))
  (focus (refine OPS_keepM [] [_] _ rfl ?_; rintro h5_k l5_k k5_k; have a5_k := at_of_keep k5_k; clear k5_k; replace a4_k := a4_k.up l5_k; replace hL := hL.up l5_k; replace a2_k := a2_k.up l5_k; replace a1_k := a1_k.up l5_k; replace ff0_5 := ff0_5.up l5_k; replace hs := hs.up l5_k; replace f0_6 := f0_6.up l5_k; replace fg0_2 := fg0_2.up l5_k))
  refine S_c rfl rfl rfl (C_callF (concat_s (ls := [live, roots]) (slb_of_at a1_k (Flat.append (Flat.one rfl rfl ⟨_, _, rfl, hL⟩) (Flat.one rfl rfl ⟨_, _, rfl, f0_6⟩)) (by simp)) (by simp; omega)) rfl rfl ⟨_, _, rfl, rfl, rfl⟩ (cal rfl) ?_)
  rintro _ M _ hl5 ⟨rfl, pa, qa, rfl, hO⟩
  have hcat : [live, roots].flatten = live ++ roots := by simp
  rw [hcat] at hO ⊢
  have hal : (live ++ roots).length ≤ 2000000 := by rw [List.length_append]; omega
  have hs1 : safe1 vs g live roots = if (live ++ roots).any (fun id => !thereB g id) then 6 else safe2 vs g live := by rw [safe1]
  rw [hs1]
  generalize live ++ roots = all at *
  (focus (refine S_q rfl rfl rfl (Q_len rfl rfl rfl rfl rfl rfl) ?_; refine Sm rfl ?_; refine On ?_; refine WP_block ?_))
  refine WP_keepM [] M _ rfl fun h6 hl6 hm6 => ?_
  have hA : SL h6 2 IDC (.slice pa all.length qa) all := hO.sl hl6 IDC_mono hm6 (by omega)
  clear hO hm6 hs1 hcat hsafe
  (replace a5_k := a5_k.up hl6; replace a4_k := a4_k.up hl6; replace hL := hL.up hl6; replace a2_k := a2_k.up hl6; replace a1_k := a1_k.up hl6; replace ff0_5 := ff0_5.up hl6; replace hs := hs.up hl6; replace f0_6 := f0_6.up hl6; replace fg0_2 := fg0_2.up hl6)
  clear a1_k
  have hfn := fun id : ID => there_s (id := id) a5_k ⟨_, _, rfl, fg0_2⟩
  have hcal : callOk Tryz.prog 63 = true := cal rfl
  (refine WP_loopC (α := Nat) [44, 43, 8, 7, 5, 3, 2, 0] (fun (k : Nat) => all.length - k) (fun (k : Nat) => [(45, .int .i64 (k : Int))]) (fun hh (k : Nat) => hh = h6 ∧ k ≤ all.length ∧ (all.drop k).any (fun id => !thereB g id) = all.any (fun id => !thereB g id)) 0 ⟨_, _, rfl, ⟨_, _, rfl, ⟨_, _, rfl, ⟨_, _, rfl, ⟨_, _, rfl, ⟨_, _, rfl, ⟨_, _, rfl, ⟨_, _, rfl, rfl, rfl⟩, rfl⟩, rfl⟩, rfl⟩, rfl⟩, rfl⟩, rfl⟩, rfl⟩ (by repeat' first | exact trivial | refine ⟨rfl, ?_⟩) ?_ ?_)
  · exact ⟨rfl, Nat.zero_le _, rfl⟩
  rintro h7 k _ ⟨rfl, hk, ht⟩
  by_cases hlt : k < all.length
  · obtain ⟨⟨i1, i2⟩, ei⟩ := get_of hlt
    have hod := any_drop (p := fun id => !thereB g id) ei
    rw [ht] at hod
    (focus (refine Wr ?_; refine Sc rfl rfl rfl rfl rfl rfl rfl ?_; refine On ?_; refine WP_seq ?_; refine WP_cond rfl (fun c9_1 => ?_) (fun c9_1 => ?_) <;> (first | (simp [*] at c9_1; done) | (try simp at c9_1)); refine WP_skip ?_; refine then_n ?_; refine WP_seq ?_; refine WP_block ?_; refine Wr ?_; refine S_q rfl rfl rfl (Q_indexS ‹_› ‹_› rfl rfl rfl (elm rfl) rfl) ?_; refine S_load rfl rfl rfl rfl rfl ?_; refine L_elA ‹_› ‹_› (ty rfl) ?_; rintro _ _ _ rfl; refine S_c rfl rfl rfl (C_alloc rfl (zer rfl) ?_); intro b9_3; refine S_w0 rfl rfl (W_all rfl rfl rfl (ty rfl) u0 (by first | rfl | assumption) (by first | rfl | assumption) (by first | rfl | assumption | exact ones_sub ‹_› _ _) ?_); refine On ?_; refine Wr ?_; refine S_load rfl rfl rfl rfl rfl ?_; refine L_one (Rd.pers ‹_›) (ty rfl) ?_; refine S_load rfl rfl rfl rfl rfl ?_; refine L_agg (Rd.own m0) (ty rfl) (by first | rfl | assumption) ?_; refine S_c rfl rfl rfl (C_callCv (hfn _) rfl rfl rfl ⟨_, _, rfl, rfl, rfl⟩ hcal ?_); refine S_q rfl rfl rfl (Q_not rfl rfl) ?_; refine On ?_; refine WP_cond rfl (fun c9_4 => ?_) (fun c9_4 => ?_) <;> (first | (simp [*] at c9_4; done) | (try simp at c9_4)); (focus (refine Wr ?_; refine S_w0 rfl rfl (W_one rfl rfl rfl (ty rfl) u1 rfl rfl rfl ?_); refine On ?_; refine WP_ret ?_; refine block_r ?_; refine then_r ?_; refine roundF_r ?_; refine block_r ?_; refine then_r ?_)); rotate_left 1; (focus (refine WP_skip ?_; refine block_n ?_; refine then_n ?_; refine R_region ?_; refine S_q rfl rfl rfl (Q_add rfl rfl rfl (by omega)) ?_; refine Sm rfl ?_; refine OPS_nil ?_)); rotate_left 1))
    · refine nretP [_, _] (List.Sublist.refl _) (.inl rfl) rfl ⟨_, _, _, rfl, Loads_one (Rd.own m1) (ty rfl), rfl, rfl⟩ ?_
      simp only [resOf]; rw [hod, c9_4]; rfl
    · refine roundF_n (k + 1) (by omega) ⟨rfl, by omega, ?_⟩ (by repeat' first | exact sR _ | exact sA _ _ | exact sN _ | apply s2 | apply s1) (by repeat' first | exact trivial | refine ⟨rfl, ?_⟩)
      rw [hod, c9_4]; rfl
  have hge : k = all.length := by omega
  subst hge
  rw [List.drop_length] at ht
  rw [← ht, List.any_nil]
  clear hfn hcal hA ht
  have hs2 : safe2 vs g live = if live.any (fun id => badNode g ((findG g id).getD zeroN)) then 6 else safe3 vs live := by rw [safe2]
  rw [if_neg (by simp), hs2]
  clear hs2
  (focus (refine Wr ?_; refine Sc rfl rfl rfl rfl rfl rfl rfl ?_; refine On ?_; refine WP_seq ?_; refine WP_cond rfl (fun c10_1 => ?_) (fun c10_1 => ?_) <;> (first | (simp [*] at c10_1; done) | (try simp at c10_1)); refine WP_exit ?_; refine then_e ?_; refine roundF_e ?_; refine block_e ?_; refine then_n ?_; refine WP_seq ?_; refine Wr ?_; refine Sm rfl ?_; refine S_q rfl rfl rfl (Q_len rfl rfl rfl rfl rfl rfl) ?_; refine Sm rfl ?_; refine On ?_; refine WP_block ?_))
  (refine WP_loopC (α := Nat) [55, 54, 8, 7, 5, 3, 2, 0] (fun (k : Nat) => live.length - k) (fun (k : Nat) => [(56, .int .i64 (k : Int))]) (fun hh (k : Nat) => le h7 hh ∧ k ≤ live.length ∧ (live.drop k).any (fun id => badNode g ((findG g id).getD zeroN)) = live.any (fun id => badNode g ((findG g id).getD zeroN))) 0 ⟨_, _, rfl, ⟨_, _, rfl, ⟨_, _, rfl, ⟨_, _, rfl, ⟨_, _, rfl, ⟨_, _, rfl, ⟨_, _, rfl, ⟨_, _, rfl, rfl, rfl⟩, rfl⟩, rfl⟩, rfl⟩, rfl⟩, rfl⟩, rfl⟩, rfl⟩ (by repeat' first | exact trivial | refine ⟨rfl, ?_⟩) ?_ ?_)
  · exact ⟨le_refl _, Nat.zero_le _, rfl⟩
  rintro h8 k _ ⟨hl7, hk, ht⟩
  (replace a5_k := a5_k.up hl7; replace a4_k := a4_k.up hl7; replace hL := hL.up hl7; replace a2_k := a2_k.up hl7; replace ff0_5 := ff0_5.up hl7; replace hs := hs.up hl7; replace f0_6 := f0_6.up hl7; replace fg0_2 := fg0_2.up hl7)
  by_cases hlt : k < live.length
  · obtain ⟨⟨i1, i2⟩, ei⟩ := get_of hlt
    have hod := any_drop (p := fun id => badNode g ((findG g id).getD zeroN)) ei
    rw [ht] at hod
    (focus (refine Wr ?_; refine Sc rfl rfl rfl rfl rfl rfl rfl ?_; refine On ?_; refine WP_seq ?_; refine WP_cond rfl (fun c13_1 => ?_) (fun c13_1 => ?_) <;> (first | (simp [*] at c13_1; done) | (try simp at c13_1)); refine WP_skip ?_; refine then_n ?_; refine WP_seq ?_; refine WP_block ?_; refine Wr ?_; refine S_q rfl rfl rfl (Q_indexS ‹_› ‹_› rfl rfl rfl (elm rfl) rfl) ?_; refine S_load rfl rfl rfl rfl rfl ?_; refine L_elA ‹_› ‹_› (ty rfl) ?_; rintro _ _ _ rfl; refine S_c rfl rfl rfl (C_alloc rfl (zer rfl) ?_); intro b13_3; refine S_w0 rfl rfl (W_all rfl rfl rfl (ty rfl) u0 (by first | rfl | assumption) (by first | rfl | assumption) (by first | rfl | assumption | exact ones_sub ‹_› _ _) ?_); refine On ?_; refine Wr ?_; refine S_load rfl rfl rfl rfl rfl ?_; refine L_agg (Rd.pers ‹_›) (ty rfl) (by first | rfl | assumption) ?_; refine S_load rfl rfl rfl rfl rfl ?_; refine L_agg (Rd.own m0) (ty rfl) (by first | rfl | assumption) ?_; refine S_c rfl rfl rfl (C_call (find_s ⟨_, _, rfl, by assumption⟩) rfl rfl ⟨_, _, rfl, ⟨_, _, rfl, rfl, rfl⟩, rfl⟩ (cal rfl) ?_); rintro h13_4 _ l13_4 ⟨vf13_4, rfl, pn13_4, qn13_4, rfl, fn13_4⟩; replace a5_k := a5_k.up l13_4; replace a4_k := a4_k.up l13_4; replace hL := hL.up l13_4; replace a2_k := a2_k.up l13_4; replace ff0_5 := ff0_5.up l13_4; replace hs := hs.up l13_4; replace f0_6 := f0_6.up l13_4; replace fg0_2 := fg0_2.up l13_4; refine Sm rfl ?_; refine S_q rfl rfl rfl (Q_extract rfl rfl rfl) ?_; refine S_q rfl rfl rfl (Q_extract rfl rfl rfl) ?_; refine S_c rfl rfl rfl (C_alloc rfl (zer rfl) ?_); intro b13_5; refine S_w0 rfl rfl (W_all rfl rfl rfl (ty rfl) u0 (by first | rfl | assumption) (by first | rfl | assumption) (by first | rfl | assumption | exact ones_sub ‹_› _ _) ?_); refine Sm rfl ?_; refine On ?_; refine Wr ?_; refine S_q rfl rfl rfl (Q_makeFunc rfl rfl ⟨_, _, rfl, rfl, rfl⟩) ?_; refine Sm rfl ?_; refine On ?_; refine Wr ?_; refine Sf rfl rfl rfl rfl rfl (fld rfl rfl) ?_; refine S_load rfl rfl rfl rfl rfl ?_; refine L_fld (Rd.own m0) (ty rfl) rfl ?_; refine Sc rfl rfl rfl rfl rfl rfl rfl ?_; refine Sm rfl ?_; refine S_gsplit rfl rfl rfl rfl (fun c13_6 => ?_) (fun c13_6 => ?_) <;> (first | (simp [*] at c13_6; done) | (try simp at c13_6)); (focus (refine S_gq rfl rfl rfl rfl rfl rfl (Q_fieldAddr rfl rfl (fld rfl rfl)) ?_; refine S_gload rfl rfl rfl rfl rfl rfl rfl rfl ?_; refine L_fld (Rd.own m0) (ty rfl) rfl ?_; refine S_gq rfl rfl rfl rfl rfl rfl (Q_move rfl rfl) ?_)); rotate_left 1; (focus (refine Sn rfl ?_; refine Sn rfl ?_; refine Sn rfl ?_; refine Sn rfl ?_; refine S_q rfl rfl rfl (Q_pick_f rfl rfl rfl) ?_; refine On ?_; refine cond_f rfl ?_; refine WP_skip ?_; refine block_n ?_; refine then_n ?_; refine R_region ?_; refine S_q rfl rfl rfl (Q_add rfl rfl rfl (by omega)) ?_; refine Sm rfl ?_; refine OPS_nil ?_)); rotate_left 1))
    · refine S_gc rfl rfl rfl rfl rfl rfl (C_callv (hasVal_s (cap := [ptr b0_9 0]) (p := oddB g) fn13_4 (cal rfl) (fun v vs _ _ e => by cases e; exact odd_s a2_k a5_k ⟨_, _, rfl, fg0_2⟩)) rfl rfl ⟨_, _, rfl, ⟨_, _, rfl, rfl, rfl⟩, rfl⟩ (cal rfl) ?_)
      rw [badNode_any c13_6] at hod
      generalize ((findG g (i1, i2)).getD zeroN).fields.any (oddB g) = bb at *
      (focus (refine S_q rfl rfl rfl (Q_pick_t rfl rfl rfl) ?_; refine On ?_; refine WP_cond rfl (fun c14_1 => ?_) (fun c14_1 => ?_) <;> (first | (simp [*] at c14_1; done) | (try simp at c14_1)); (focus (refine Wr ?_; refine S_w0 rfl rfl (W_one rfl rfl rfl (ty rfl) u2 rfl rfl rfl ?_); refine On ?_; refine WP_ret ?_; refine block_r ?_; refine then_r ?_; refine roundF_r ?_; refine block_r ?_; refine then_r ?_)); rotate_left 1; (focus (refine WP_skip ?_; refine block_n ?_; refine then_n ?_; refine R_region ?_; refine S_q rfl rfl rfl (Q_add rfl rfl rfl (by omega)) ?_; refine Sm rfl ?_; refine OPS_nil ?_)); rotate_left 1))
      · refine nretP [_, _, _] (List.Sublist.refl _) (.inl rfl) rfl ⟨_, _, _, rfl, Loads_one (Rd.own m2) (ty rfl), rfl, rfl⟩ ?_
        simp only [resOf]; rw [hod, c14_1]; rfl
      · refine roundF_n (k + 1) (by omega) ⟨le_trans hl7 l13_4, by omega, ?_⟩ (by repeat' first | exact sR _ | exact sA _ _ | exact sN _ | apply s2 | apply s1) (by repeat' first | exact trivial | refine ⟨rfl, ?_⟩)
        rw [hod, c14_1]; rfl
    · refine roundF_n (k + 1) (by omega) ⟨le_trans hl7 l13_4, by omega, ?_⟩ (by repeat' first | exact sR _ | exact sA _ _ | exact sN _ | apply s2 | apply s1) (by repeat' first | exact trivial | refine ⟨rfl, ?_⟩)
      rw [hod, badNode_weak c13_6]; rfl
  have hge : k = live.length := by omega
  subst hge
  rw [List.drop_length] at ht
  rw [← ht, List.any_nil]
  clear ht
  have hs3 : safe3 vs live = if (flightsOf vs).any (lostF vs) then 6 else safe4 vs live := by rw [safe3]
  rw [if_neg (by simp), hs3]
  clear hs3
  (focus (refine Wr ?_; refine Sc rfl rfl rfl rfl rfl rfl rfl ?_; refine On ?_; refine WP_seq ?_; refine WP_cond rfl (fun c15_1 => ?_) (fun c15_1 => ?_) <;> (first | (simp [*] at c15_1; done) | (try simp at c15_1)); refine WP_exit ?_; refine then_e ?_; refine roundF_e ?_; refine block_e ?_; refine then_n ?_; refine WP_seq ?_; refine Wr ?_; refine S_load rfl rfl rfl rfl rfl ?_; refine L_agg (Rd.pers ‹_›) (ty rfl) (by first | rfl | assumption) ?_; refine S_c rfl rfl rfl (C_call (flights_s ‹_›) rfl rfl ⟨_, _, rfl, rfl, rfl⟩ (cal rfl) ?_); rintro h15_2 _ l15_2 ⟨bi15_2, rfl, it15_2⟩; replace a5_k := a5_k.up l15_2; replace a4_k := a4_k.up l15_2; replace hL := hL.up l15_2; replace a2_k := a2_k.up l15_2; replace ff0_5 := ff0_5.up l15_2; replace hs := hs.up l15_2; replace f0_6 := f0_6.up l15_2; replace fg0_2 := fg0_2.up l15_2; refine On ?_; refine WP_block ?_))
  refine WP_rangeS [] [] (fun _ : Unit => [(b0_1, cells [.int .i64 0] 28)]) (fun pre hh _ => le h15_2 hh ∧ pre.any (lostF vs) = false)
    (fun e hh L => e = .ret ∧ List.Sublist [(b0_1, cells [.int .i64 6] 28)] L ∧ (flightsOf vs).any (lostF vs) = true) () it15_2 rfl Tryz.func77 (by decide) rfl (by rintro _ _ _ ⟨_, _, rfl, _⟩; rfl) rfl rfl ⟨le_refl _, rfl⟩ ?_ ?_ ?_
  · rintro l pre ⟨v, x⟩ _ h2 _ hl1 ⟨hl2, hpre⟩ hp ⟨us, ws, rfl, hu1, hu2, hu3, hw1, hw2, hw3⟩
    simp only at hu3 hw3
    have hsn : (pre ++ [(v, x)]).any (lostF vs) = (pre.any (lostF vs) || lostF vs (v, x)) := by simp
    have hin : (v, x) ∈ flightsOf vs := hp.subset (by simp)
    (replace it15_2 := it15_2.up hl1; replace a5_k := a5_k.up hl1; replace a4_k := a4_k.up hl1; replace hL := hL.up hl1; replace a2_k := a2_k.up hl1; replace ff0_5 := ff0_5.up hl1; replace hs := hs.up hl1; replace f0_6 := f0_6.up hl1; replace fg0_2 := fg0_2.up hl1)
    obtain ⟨hi, xa, po, qo, qs, qt, pc, qc, pn, qn, pm, qm, xw, xv, pf, qf, pr, qr, xe, xf, rfl, -⟩ := hu3
    obtain ⟨ya, yb, yc, yd, ye, pa, qa, pg, qg, ph, qh, yw, y1, y2, y3, y4, y5, y6, y7, y8, y9, y10, y11, y12, y13, y14, y15, rfl, ha, hfs, hm⟩ := hw3
    dsimp only [parFr]
    (focus (refine Wr ?_; refine S_c rfl rfl rfl (C_alloc rfl (zer rfl) ?_); intro b17_1; refine S_w0 rfl rfl (W_all rfl rfl rfl (ty rfl) u0 (by first | rfl | assumption) (by first | rfl | assumption) (by first | rfl | assumption | exact ones_sub ‹_› _ _) ?_); refine On ?_; refine R_region ?_; refine S_c rfl rfl rfl (C_alloc rfl (zer rfl) ?_); intro b17_2; refine S_w0 rfl rfl (W_all rfl rfl rfl (ty rfl) u0 (by first | rfl | assumption) (by first | rfl | assumption) (by first | rfl | assumption | exact ones_sub ‹_› _ _) ?_); refine On ?_))
    refine ⟨rfl, ?_⟩
    (focus (refine WP_block ?_; refine Wr ?_; refine Sf rfl rfl rfl rfl rfl (fld rfl rfl) ?_; refine Sf rfl rfl rfl rfl rfl (fld rfl rfl) ?_; refine S_load rfl rfl rfl rfl rfl ?_; refine L_fld2 (Rd.own m0) ?_; refine LV_1 (ty rfl) rfl ?_; refine Sc rfl rfl rfl rfl rfl rfl rfl ?_; refine Sm rfl ?_; refine S_gsplit rfl rfl rfl rfl (fun c18_1 => ?_) (fun c18_1 => ?_) <;> (first | (simp [*] at c18_1; done) | (try simp at c18_1)); (focus (refine S_gload rfl rfl rfl rfl rfl rfl rfl rfl ?_; refine L_agg (Rd.pers ‹_›) (ty rfl) (by first | rfl | assumption) ?_; refine S_gq rfl rfl rfl rfl rfl rfl (Q_fieldAddr rfl rfl (fld rfl rfl)) ?_; refine S_gload rfl rfl rfl rfl rfl rfl rfl rfl ?_; refine L_fld (Rd.own m1) (ty rfl) rfl ?_; refine S_gq rfl rfl rfl rfl rfl rfl (Q_fieldAddr rfl rfl (fld rfl rfl)) ?_; refine S_gload rfl rfl rfl rfl rfl rfl rfl rfl ?_; refine L_fld (Rd.own m0) (ty rfl) rfl ?_; refine S_gq rfl rfl rfl rfl rfl rfl (Q_fieldAddr rfl rfl (fld rfl rfl)) ?_; refine S_gq rfl rfl rfl rfl rfl rfl (Q_fieldAddr rfl rfl (fld rfl rfl)) ?_; refine S_gload rfl rfl rfl rfl rfl rfl rfl rfl ?_; refine L_fld2 (Rd.own m0) ?_; refine LV_1 (ty rfl) rfl ?_; refine S_gc rfl rfl rfl rfl rfl rfl (C_callv (numbered_s ‹_›) rfl rfl ⟨_, _, rfl, ⟨_, _, rfl, ⟨_, _, rfl, ⟨_, _, rfl, rfl, rfl⟩, rfl⟩, rfl⟩, rfl⟩ (cal rfl) ?_); refine S_gq rfl rfl rfl rfl rfl rfl (Q_build rfl (by decide +kernel) (zer rfl) rfl rfl) ?_; refine S_gq rfl rfl rfl rfl rfl rfl (Q_eqI eqID rfl rfl rfl rfl rfl) ?_; refine S_q rfl rfl rfl (Q_pick_t rfl rfl rfl) ?_; refine On ?_; refine WP_cond rfl (fun c18_2 => ?_) (fun c18_2 => ?_) <;> (first | (simp [*] at c18_2; done) | (try simp at c18_2)); (focus (refine Wr ?_; refine S_w0 rfl rfl (W_one rfl rfl rfl (ty rfl) u2 rfl rfl rfl ?_); refine On ?_; refine WP_ret ?_; refine block_r ?_)); rotate_left 1; (focus (refine WP_skip ?_; refine block_n ?_)); rotate_left 1)); rotate_left 2; (focus (refine Sn rfl ?_; refine Sn rfl ?_; refine Sn rfl ?_; refine Sn rfl ?_; refine Sn rfl ?_; refine Sn rfl ?_; refine Sn rfl ?_; refine Sn rfl ?_; refine Sn rfl ?_; refine Sn rfl ?_; refine Sn rfl ?_; refine S_q rfl rfl rfl (Q_pick_f rfl rfl rfl) ?_; refine On ?_; refine cond_f rfl ?_; refine WP_skip ?_; refine block_n ?_)); rotate_left 1))
    · refine bodyS_r ⟨rfl, (by repeat' first | exact sR _ | exact sA _ _ | exact sN _ | apply s2 | apply s1), List.any_eq_true.2 ⟨_, hin, ?_⟩⟩
      rw [lostF_zero c18_1]
      exact decide_eq_true (Prod.ext c18_2.1 c18_2.2)
    · refine bodyS_n () ⟨hl2, ?_⟩ (by repeat' first | exact sR _ | exact sA _ _ | exact sN _ | apply s2 | apply s1)
      rw [hsn, hpre, lostF_zero c18_1]
      exact decide_eq_false fun e => c18_2 (congrArg Prod.fst e) (congrArg Prod.snd e)
    · refine bodyS_n () ⟨hl2, ?_⟩ (by repeat' first | exact sR _ | exact sA _ _ | exact sN _ | apply s2 | apply s1)
      rw [hsn, hpre, lostF_other c18_1]; rfl
  · rintro d h2 _ hl1 ⟨hl2, hpre⟩
    (replace it15_2 := it15_2.up hl1; replace a5_k := a5_k.up hl1; replace a4_k := a4_k.up hl1; replace hL := hL.up hl1; replace a2_k := a2_k.up hl1; replace ff0_5 := ff0_5.up hl1; replace hs := hs.up hl1; replace f0_6 := f0_6.up hl1; replace fg0_2 := fg0_2.up hl1)
    rw [if_neg (by rw [hpre]; simp)]
    have hs4 : safe4 vs live = if vs.any (fun v => v.stubs.any (badStub vs live v)) then 11 else 0 := by rw [safe4]
    rw [hs4]
    clear hs4
    (focus (refine block_n ?_; refine then_n ?_; refine WP_seq ?_; refine Wr ?_; refine Sm rfl ?_; refine S_q rfl rfl rfl (Q_len rfl rfl rfl rfl rfl rfl) ?_; refine Sm rfl ?_; refine On ?_; refine WP_block ?_))
    (refine WP_loopC (α := Nat) [99, 98, 7, 2, 0] (fun (k : Nat) => vs.length - k) (fun (k : Nat) => [(100, .int .i64 (k : Int))]) (fun hh (k : Nat) => le h2 hh ∧ k ≤ vs.length ∧ (vs.drop k).any (fun v => v.stubs.any (badStub vs live v)) = vs.any (fun v => v.stubs.any (badStub vs live v))) 0 ⟨_, _, rfl, ⟨_, _, rfl, ⟨_, _, rfl, ⟨_, _, rfl, ⟨_, _, rfl, rfl, rfl⟩, rfl⟩, rfl⟩, rfl⟩, rfl⟩ (by repeat' first | exact trivial | refine ⟨rfl, ?_⟩) ?_ ?_)
    · exact ⟨le_refl _, Nat.zero_le _, rfl⟩
    rintro h3 k _ ⟨hl3, hk, ht⟩
    (replace it15_2 := it15_2.up hl3; replace a5_k := a5_k.up hl3; replace a4_k := a4_k.up hl3; replace hL := hL.up hl3; replace a2_k := a2_k.up hl3; replace ff0_5 := ff0_5.up hl3; replace hs := hs.up hl3; replace f0_6 := f0_6.up hl3; replace fg0_2 := fg0_2.up hl3)
    by_cases hlt : k < vs.length
    · obtain ⟨v, ev⟩ := get_of hlt
      have hod := any_drop (p := fun v => v.stubs.any (badStub vs live v)) ev
      rw [ht] at hod
      have hst := sm.stubs v (List.mem_of_getElem? ev)
      (focus (refine Wr ?_; refine Sc rfl rfl rfl rfl rfl rfl rfl ?_; refine On ?_; refine WP_seq ?_; refine WP_cond rfl (fun c23_1 => ?_) (fun c23_1 => ?_) <;> (first | (simp [*] at c23_1; done) | (try simp at c23_1)); refine WP_skip ?_; refine then_n ?_; refine WP_seq ?_; refine WP_block ?_; refine Wr ?_; refine S_q rfl rfl rfl (Q_indexS ‹_› ‹_› rfl rfl rfl (elm rfl) rfl) ?_; refine S_load rfl rfl rfl rfl rfl ?_; refine L_elA ‹_› ‹_› (ty rfl) ?_; rintro _ _ _ ⟨xi23_2, xa23_2, po23_2, qo23_2, ps23_2, qs23_2, pc23_2, qc23_2, pn23_2, qn23_2, pm23_2, qm23_2, xw23_2, xv23_2, pf23_2, qf23_2, pr23_2, qr23_2, xe23_2, xf23_2, rfl, vo23_2, vs23_2, vc23_2, vn23_2, vm23_2, vf23_2, vr23_2⟩; refine S_c rfl rfl rfl (C_alloc rfl (zer rfl) ?_); intro b23_3; refine S_w0 rfl rfl (W_all rfl rfl rfl (ty rfl) u0 (by first | rfl | assumption) (by first | rfl | assumption) (by first | rfl | assumption | exact ones_sub ‹_› _ _) ?_); refine On ?_; refine Wr ?_; refine Sf rfl rfl rfl rfl rfl (fld rfl rfl) ?_; refine S_load rfl rfl rfl rfl rfl ?_; refine L_fld (Rd.own m0) (ty rfl) rfl ?_; refine S_q rfl rfl rfl (Q_len rfl rfl rfl rfl rfl rfl) ?_; refine Sm rfl ?_; refine On ?_; refine WP_block ?_))
      (refine WP_loopC (α := Nat) [106, 105, 19, 100, 99, 98, 7, 2, 0] (fun (j : Nat) => v.stubs.length - j) (fun (j : Nat) => [(107, .int .i64 (j : Int))]) (fun hh (j : Nat) => le h3 hh ∧ j ≤ v.stubs.length ∧ (v.stubs.drop j).any (badStub vs live v) = v.stubs.any (badStub vs live v)) 0 ⟨_, _, rfl, ⟨_, _, rfl, ⟨_, _, rfl, ⟨_, _, rfl, ⟨_, _, rfl, ⟨_, _, rfl, ⟨_, _, rfl, ⟨_, _, rfl, ⟨_, _, rfl, rfl, rfl⟩, rfl⟩, rfl⟩, rfl⟩, rfl⟩, rfl⟩, rfl⟩, rfl⟩, rfl⟩ (by repeat' first | exact trivial | refine ⟨rfl, ?_⟩) ?_ ?_)
      · exact ⟨le_refl _, Nat.zero_le _, rfl⟩
      rintro h4 j _ ⟨hl4, hj, ht2⟩
      (replace it15_2 := it15_2.up hl4; replace a5_k := a5_k.up hl4; replace a4_k := a4_k.up hl4; replace hL := hL.up hl4; replace a2_k := a2_k.up hl4; replace ff0_5 := ff0_5.up hl4; replace hs := hs.up hl4; replace f0_6 := f0_6.up hl4; replace fg0_2 := fg0_2.up hl4; replace vo23_2 := vo23_2.up hl4; replace vs23_2 := vs23_2.up hl4; replace vc23_2 := vc23_2.up hl4; replace vn23_2 := vn23_2.up hl4; replace vm23_2 := vm23_2.up hl4; replace vf23_2 := vf23_2.up hl4; replace vr23_2 := vr23_2.up hl4)
      by_cases hlt2 : j < v.stubs.length
      · obtain ⟨x, ex⟩ := get_of hlt2
        have hod2 := any_drop (p := badStub vs live v) ex
        rw [ht2] at hod2
        have hbd := badStub_def vs live v x
        (focus (refine Wr ?_; refine Sc rfl rfl rfl rfl rfl rfl rfl ?_; refine On ?_; refine WP_seq ?_; refine WP_cond rfl (fun c26_1 => ?_) (fun c26_1 => ?_) <;> (first | (simp [*] at c26_1; done) | (try simp at c26_1)); refine WP_skip ?_; refine then_n ?_; refine WP_seq ?_; refine WP_block ?_; refine Wr ?_; refine S_q rfl rfl rfl (Q_indexS ‹_› ‹_› rfl rfl rfl (elm rfl) rfl) ?_; refine S_load rfl rfl rfl rfl rfl ?_; refine L_elA ‹_› ‹_› (ty rfl) ?_; rintro _ _ _ ⟨xa26_2, xb26_2, xc26_2, xd26_2, xe26_2, xf26_2, rfl⟩; refine S_c rfl rfl rfl (C_alloc rfl (zer rfl) ?_); intro b26_3; refine S_w0 rfl rfl (W_all rfl rfl rfl (ty rfl) u0 (by first | rfl | assumption) (by first | rfl | assumption) (by first | rfl | assumption | exact ones_sub ‹_› _ _) ?_); refine On ?_; refine WP_seq ?_; refine Wr ?_; refine Sf rfl rfl rfl rfl rfl (fld rfl rfl) ?_; refine S_load rfl rfl rfl rfl rfl ?_; refine L_fld (Rd.own m0) (ty rfl) rfl ?_; refine Sm rfl ?_; refine S_gsplit rfl rfl rfl rfl (fun c26_4 => ?_) (fun c26_4 => ?_) <;> (first | (simp [*] at c26_4; done) | (try simp at c26_4)); (focus (refine Sn rfl ?_; refine Sn rfl ?_; refine S_q rfl rfl rfl (Q_pick_t rfl rfl rfl) ?_; refine Sm rfl ?_; refine Sn rfl ?_; refine Sn rfl ?_; refine Sn rfl ?_; refine Sn rfl ?_; refine Sn rfl ?_; refine S_q rfl rfl rfl (Q_pick_t rfl rfl rfl) ?_; refine On ?_; refine cond_t rfl ?_; refine WP_exit ?_; refine then_e ?_; refine block_e ?_; refine then_n ?_; refine R_region ?_; refine S_q rfl rfl rfl (Q_add rfl rfl rfl (by omega)) ?_; refine Sm rfl ?_; refine OPS_nil ?_)); rotate_left 1; (focus (refine S_gq rfl rfl rfl rfl rfl rfl (Q_fieldAddr rfl rfl (fld rfl rfl)) ?_; refine S_gload rfl rfl rfl rfl rfl rfl rfl rfl ?_; refine L_fld (Rd.own m0) (ty rfl) rfl ?_; refine S_q rfl rfl rfl (Q_pick_f rfl rfl rfl) ?_; refine Sm rfl ?_; refine S_gsplit rfl rfl rfl rfl (fun c26_5 => ?_) (fun c26_5 => ?_) <;> (first | (simp [*] at c26_5; done) | (try simp at c26_5)); (focus (refine Sn rfl ?_; refine Sn rfl ?_; refine Sn rfl ?_; refine Sn rfl ?_; refine Sn rfl ?_; refine S_q rfl rfl rfl (Q_pick_t rfl rfl rfl) ?_; refine On ?_; refine cond_t rfl ?_; refine WP_exit ?_; refine then_e ?_; refine block_e ?_; refine then_n ?_; refine R_region ?_; refine S_q rfl rfl rfl (Q_add rfl rfl rfl (by omega)) ?_; refine Sm rfl ?_; refine OPS_nil ?_)); rotate_left 1; (focus (refine S_gq rfl rfl rfl rfl rfl rfl (Q_move rfl rfl) ?_; refine S_gq rfl rfl rfl rfl rfl rfl (Q_fieldAddr rfl rfl (fld rfl rfl)) ?_; refine S_gload rfl rfl rfl rfl rfl rfl rfl rfl ?_; refine L_sub (Rd.own m0) (ty rfl) rfl ?_; refine S_gc rfl rfl rfl rfl rfl rfl (C_callv (has_s (x := (_, _)) ‹_›) rfl rfl ⟨_, _, rfl, ⟨_, _, rfl, rfl, rfl⟩, rfl⟩ (cal rfl) ?_); refine S_gq rfl rfl rfl rfl rfl rfl (Q_not rfl rfl) ?_; refine S_q rfl rfl rfl (Q_pick_f rfl rfl rfl) ?_; refine On ?_; refine WP_cond rfl (fun c26_6 => ?_) (fun c26_6 => ?_) <;> (first | (simp [*] at c26_6; done) | (try simp at c26_6)); (focus (refine WP_exit ?_; refine then_e ?_; refine block_e ?_; refine then_n ?_; refine R_region ?_; refine S_q rfl rfl rfl (Q_add rfl rfl rfl (by omega)) ?_; refine Sm rfl ?_; refine OPS_nil ?_)); rotate_left 1; (focus (refine WP_skip ?_; refine then_n ?_; refine Wr ?_; refine Sm rfl ?_; refine Sf rfl rfl rfl rfl rfl (fld rfl rfl) ?_; refine S_load rfl rfl rfl rfl rfl ?_; refine L_fld (Rd.own m1) (ty rfl) rfl ?_; refine Sf rfl rfl rfl rfl rfl (fld rfl rfl) ?_; refine S_load rfl rfl rfl rfl rfl ?_; refine L_sub (Rd.own m0) (ty rfl) rfl ?_; refine S_c rfl rfl rfl (C_call (follow_s ‹_› (by omega)) rfl rfl ⟨_, _, rfl, ⟨_, _, rfl, ⟨_, _, rfl, rfl, rfl⟩, rfl⟩, rfl⟩ (cal rfl) ?_); rintro h26_7 _ l26_7 ⟨p26_7, q26_7, rfl, f26_7⟩; replace it15_2 := it15_2.up l26_7; replace a5_k := a5_k.up l26_7; replace a4_k := a4_k.up l26_7; replace hL := hL.up l26_7; replace a2_k := a2_k.up l26_7; replace ff0_5 := ff0_5.up l26_7; replace hs := hs.up l26_7; replace f0_6 := f0_6.up l26_7; replace fg0_2 := fg0_2.up l26_7; replace vo23_2 := vo23_2.up l26_7; replace vs23_2 := vs23_2.up l26_7; replace vc23_2 := vc23_2.up l26_7; replace vn23_2 := vn23_2.up l26_7; replace vm23_2 := vm23_2.up l26_7; replace vf23_2 := vf23_2.up l26_7; replace vr23_2 := vr23_2.up l26_7; refine Sm rfl ?_; refine S_q rfl rfl rfl (Q_extract rfl rfl rfl) ?_; refine S_q rfl rfl rfl (Q_extract rfl rfl rfl) ?_; refine Sm rfl ?_; refine Sm rfl ?_; refine On ?_; refine Wr ?_; refine Sm rfl ?_; refine Sc rfl rfl rfl rfl rfl rfl rfl ?_; refine On ?_; refine WP_cond rfl (fun c26_8 => ?_) (fun c26_8 => ?_) <;> (first | (simp [*] at c26_8; done) | (try simp at c26_8)); (focus (refine Wr ?_; refine S_w0 rfl rfl (W_one rfl rfl rfl (ty rfl) u2 rfl rfl rfl ?_); refine On ?_; refine WP_ret ?_; refine block_r ?_; refine then_r ?_; refine roundF_r ?_; refine block_r ?_; refine block_r ?_; refine then_r ?_; refine roundF_r ?_; refine block_r ?_; refine then_r ?_)); rotate_left 1; (focus (refine WP_skip ?_; refine block_n ?_; refine then_n ?_; refine R_region ?_; refine S_q rfl rfl rfl (Q_add rfl rfl rfl (by omega)) ?_; refine Sm rfl ?_; refine OPS_nil ?_)); rotate_left 1)); rotate_left 2)); rotate_left 3)); rotate_left 4))
        · rw [c26_4] at hbd
          refine roundF_n (j + 1) (by omega) ⟨hl4, by omega, ?_⟩ (by repeat' first | exact sR _ | exact sA _ _ | exact sN _ | apply s2 | apply s1) (by repeat' first | exact trivial | refine ⟨rfl, ?_⟩)
          rw [hod2, hbd]; rfl
        · rw [c26_4, c26_5] at hbd
          refine roundF_n (j + 1) (by omega) ⟨hl4, by omega, ?_⟩ (by repeat' first | exact sR _ | exact sA _ _ | exact sN _ | apply s2 | apply s1) (by repeat' first | exact trivial | refine ⟨rfl, ?_⟩)
          rw [hod2, hbd]; rfl
        · rw [c26_4, c26_5, decide_eq_false (p := x.id ∈ live) c26_6] at hbd
          refine roundF_n (j + 1) (by omega) ⟨hl4, by omega, ?_⟩ (by repeat' first | exact sR _ | exact sA _ _ | exact sN _ | apply s2 | apply s1) (by repeat' first | exact trivial | refine ⟨rfl, ?_⟩)
          rw [hod2, hbd]; rfl
        · rw [c26_4, c26_5, decide_eq_true (p := x.id ∈ live) c26_6, decide_eq_true (p := (followOf vs v.machine x.id).2 ≠ 0) c26_8] at hbd
          refine nretP [_, _, _] (List.Sublist.refl _) (.inl rfl) rfl ⟨_, _, _, rfl, Loads_one (Rd.own m2) (ty rfl), rfl, rfl⟩ ?_
          simp only [resOf]; rw [hod, hod2, hbd]; rfl
        · rw [c26_4, c26_5, decide_eq_true (p := x.id ∈ live) c26_6, decide_eq_false (p := (followOf vs v.machine x.id).2 ≠ 0) (fun e => e c26_8)] at hbd
          refine roundF_n (j + 1) (by omega) ⟨le_trans hl4 l26_7, by omega, ?_⟩ (by repeat' first | exact sR _ | exact sA _ _ | exact sN _ | apply s2 | apply s1) (by repeat' first | exact trivial | refine ⟨rfl, ?_⟩)
          rw [hod2, hbd]; rfl
      have hge : j = v.stubs.length := by omega
      subst hge
      rw [List.drop_length] at ht2
      (focus (refine Wr ?_; refine Sc rfl rfl rfl rfl rfl rfl rfl ?_; refine On ?_; refine WP_seq ?_; refine WP_cond rfl (fun c27_1 => ?_) (fun c27_1 => ?_) <;> (first | (simp [*] at c27_1; done) | (try simp at c27_1)); refine WP_exit ?_; refine then_e ?_; refine roundF_e ?_; refine block_e ?_; refine block_n ?_; refine then_n ?_; refine R_region ?_; refine S_q rfl rfl rfl (Q_add rfl rfl rfl (by omega)) ?_; refine Sm rfl ?_; refine OPS_nil ?_))
      refine roundF_n (k + 1) (by omega) ⟨le_trans hl3 hl4, by omega, ?_⟩ (by repeat' first | exact sR _ | exact sA _ _ | exact sN _ | apply s2 | apply s1) (by repeat' first | exact trivial | refine ⟨rfl, ?_⟩)
      rw [hod, ← ht2]; rfl
    have hge : k = vs.length := by omega
    subst hge
    rw [List.drop_length] at ht
    rw [← ht, List.any_nil, if_neg (by simp)]
    (focus (refine Wr ?_; refine Sc rfl rfl rfl rfl rfl rfl rfl ?_; refine On ?_; refine WP_seq ?_; refine WP_cond rfl (fun c28_1 => ?_) (fun c28_1 => ?_) <;> (first | (simp [*] at c28_1; done) | (try simp at c28_1)); refine WP_exit ?_; refine then_e ?_; refine roundF_e ?_; refine block_e ?_; refine then_n ?_; refine Wr ?_; refine S_w0 rfl rfl (W_one rfl rfl rfl (ty rfl) u0 rfl rfl rfl ?_); refine On ?_; refine WP_ret ?_))
    refine nretP [_] (List.Sublist.refl _) (.inl rfl) rfl ⟨_, _, _, rfl, Loads_one (Rd.own m0) (ty rfl), rfl, rfl⟩ ?_
    rfl
  · rintro d e h2 L2 hl1 ⟨rfl, hsub, hany⟩ _
    refine block_r (then_r ?_)
    refine nretP [(b0_1, cells [.int .i64 6] 28)] (hsub.append (List.Sublist.refl _)) (.inl rfl) rfl ⟨_, _, _, rfl, Loads_one (Rd.own m0) (ty rfl), rfl, rfl⟩ ?_
    simp only [resOf]; rw [if_pos hany]
end Go.Proofs.YtfhoecgiahpddaaGreat
/-
  CONTRACTS: Example and awake (refmeshlaw55).
-/
set_option linter.all false
namespace Go.Proofs.YtfhoecgiahpddaaGreat
open Go.Mesh Go.RowKit
set_option maxRecDepth 100000
set_option linter.unusedVariables false
set_option maxHeartbeats 4000000
attribute [local irreducible] WP OPS ANY ANYo LG LV FSpec PSpec QOP OPc OPw thenQ blockQ roundQ roundF retQ retM Rd At SLB OS cmpI orI cmpID namedB valB nodeB kindB validG valAux idxI findG zeroV viewOf vwAt idxOf recv flyB scionOf moveOf numberedOf idOf valueOf mget mput localB carriedB stubOf followF followOf flOf flightsOf flPre setL minusL compactL putI mergeN insN insAll unionR NMap Coll retN bodyS GMap Dfs refsV refsOf reachL movedOf movedG graphParts graphR isMove flightIDs mailIDs viewIDs rawRoots rootsR reachR deadN viewObjs garbageOf garbageR objsL thereB oddB badNode lostF badStub safe1 safe2 safe3 safe4 safeR msgB sizesB smallV fewB
def exA : Nd := ⟨(1, 1), 1, 2, [(2, 0, (2, 1))]⟩
def exB : Nd := ⟨(2, 1), 3, 1, []⟩
def exB2 : Nd := ⟨(2, 1), 0, 1, []⟩
def exC : Nd := ⟨(2, 2), 0, 1, []⟩
def exV : List View := [⟨1, [exA, exB], [⟨2, 7, (2, 1), false, false⟩], [], [(1, 1)], [], [], []⟩, ⟨2, [exB2, exC], [], [⟨1, 7, (2, 1)⟩], [], [], [], []⟩]
theorem at_of {h : Frag} {b t : Nat} {l : List Value} (e : h b = some (cells l t)) : At h b 0 l := at_of_keep fun p hp => by rw [List.mem_singleton.1 hp]; exact e
theorem example_s {h : Frag} : PSpec Tryz.prog 31 #[] h (fun h' v => ∃ p c, v = .slice p exV.length c ∧ SL h' 13 (ViewC 4398046511104) (.slice p exV.length c) exV) := by
  refine pspec_of (vs := []) Tryz.func31 Tryz.ntmps31 rfl rfl ?_
  (focus (refine Wr ?_; refine Sm rfl ?_; refine On ?_; refine Wr ?_; refine S_q rfl rfl rfl (Q_build rfl (by decide +kernel) (zer rfl) ⟨_, _, _, _, _, _, _, rfl, fld rfl rfl, ty rfl, rfl, rfl, ⟨_, _, _, _, _, _, _, rfl, fld rfl rfl, ty rfl, rfl, rfl, rfl, rfl⟩, rfl⟩ rfl) ?_; refine S_q rfl rfl rfl (Q_build rfl (by decide +kernel) (zer rfl) ⟨_, _, _, _, _, _, _, rfl, fld rfl rfl, ty rfl, rfl, rfl, ⟨_, _, _, _, _, _, _, rfl, fld rfl rfl, ty rfl, rfl, rfl, rfl, rfl⟩, rfl⟩ rfl) ?_; refine S_q rfl rfl rfl (Q_build rfl (by decide +kernel) (zer rfl) ⟨_, _, _, _, _, _, _, rfl, fld rfl rfl, ty rfl, rfl, rfl, ⟨_, _, _, _, _, _, _, rfl, fld rfl rfl, ty rfl, rfl, rfl, rfl, rfl⟩, rfl⟩ rfl) ?_; refine S_c rfl rfl rfl (C_alloc rfl (zer rfl) ?_); intro b0_1; refine S_c rfl rfl rfl (C_alloc rfl (zer rfl) ?_); intro b0_2; refine S_c rfl rfl rfl (C_alloc rfl (zer rfl) ?_); intro b0_3; refine S_w0 rfl rfl (W_all rfl rfl rfl (ty rfl) u2 (by first | rfl | assumption) (by first | rfl | assumption) (by first | rfl | assumption | exact ones_sub ‹_› _ _) ?_); refine S_w0 rfl rfl (W_all rfl rfl rfl (ty rfl) u1 (by first | rfl | assumption) (by first | rfl | assumption) (by first | rfl | assumption | exact ones_sub ‹_› _ _) ?_); refine S_w0 rfl rfl (W_all rfl rfl rfl (ty rfl) u0 (by first | rfl | assumption) (by first | rfl | assumption) (by first | rfl | assumption | exact ones_sub ‹_› _ _) ?_); refine On ?_; refine Wr ?_; refine S_load rfl rfl rfl rfl rfl ?_; refine L_agg (Rd.own m2) (ty rfl) (by first | rfl | assumption) ?_; refine S_load rfl rfl rfl rfl rfl ?_; refine L_agg (Rd.own m1) (ty rfl) (by first | rfl | assumption) ?_; refine S_q rfl rfl rfl (Q_build rfl (by decide +kernel) (zer rfl) ⟨_, _, _, _, _, _, _, rfl, fld rfl rfl, ty rfl, rfl, rfl, ⟨_, _, _, _, _, _, _, rfl, fld rfl rfl, ty rfl, rfl, rfl, rfl, rfl⟩, rfl⟩ rfl) ?_; refine S_c rfl rfl rfl (C_buildSlice rfl (elm rfl) (zer rfl) rfl ⟨_, _, _, rfl, rfl, rfl, rfl, rfl, rfl⟩ rfl rfl ?_); intro b0_4; refine S_q rfl rfl rfl (Q_build rfl (by decide +kernel) (zer rfl) ⟨_, _, _, _, _, _, _, rfl, fld rfl rfl, ty rfl, rfl, rfl, ⟨_, _, _, _, _, _, _, rfl, fld rfl rfl, ty rfl, rfl, rfl, ⟨_, _, _, _, _, _, _, rfl, fld rfl rfl, ty rfl, rfl, rfl, ⟨_, _, _, _, _, _, _, rfl, fld rfl rfl, ty rfl, rfl, rfl, rfl, rfl⟩, rfl⟩, rfl⟩, rfl⟩ rfl) ?_; refine S_load rfl rfl rfl rfl rfl ?_; refine L_agg (Rd.own m2) (ty rfl) (by first | rfl | assumption) ?_; refine S_q rfl rfl rfl (Q_build rfl (by decide +kernel) (zer rfl) ⟨_, _, _, _, _, _, _, rfl, fld rfl rfl, ty rfl, rfl, rfl, ⟨_, _, _, _, _, _, _, rfl, fld rfl rfl, ty rfl, rfl, rfl, ⟨_, _, _, _, _, _, _, rfl, fld rfl rfl, ty rfl, rfl, rfl, rfl, rfl⟩, rfl⟩, rfl⟩ rfl) ?_; refine S_c rfl rfl rfl (C_buildSlice rfl (elm rfl) (zer rfl) rfl ⟨_, _, _, rfl, rfl, rfl, rfl, ⟨_, _, _, rfl, rfl, rfl, rfl, rfl, rfl⟩, rfl⟩ rfl rfl ?_); intro b0_5; refine S_q rfl rfl rfl (Q_build rfl (by decide +kernel) (zer rfl) ⟨_, _, _, _, _, _, _, rfl, fld rfl rfl, ty rfl, rfl, rfl, rfl, rfl⟩ rfl) ?_; refine S_load rfl rfl rfl rfl rfl ?_; refine L_agg (Rd.own m3) (ty rfl) (by first | rfl | assumption) ?_; refine S_q rfl rfl rfl (Q_build rfl (by decide +kernel) (zer rfl) ⟨_, _, _, _, _, _, _, rfl, fld rfl rfl, ty rfl, rfl, rfl, ⟨_, _, _, _, _, _, _, rfl, fld rfl rfl, ty rfl, rfl, rfl, ⟨_, _, _, _, _, _, _, rfl, fld rfl rfl, ty rfl, rfl, rfl, ⟨_, _, _, _, _, _, _, rfl, fld rfl rfl, ty rfl, rfl, rfl, rfl, rfl⟩, rfl⟩, rfl⟩, rfl⟩ rfl) ?_; refine S_c rfl rfl rfl (C_buildSlice rfl (elm rfl) (zer rfl) rfl ⟨_, _, _, rfl, rfl, rfl, rfl, rfl, rfl⟩ rfl rfl ?_); intro b0_6; refine S_load rfl rfl rfl rfl rfl ?_; refine L_agg (Rd.own m5) (ty rfl) (by first | rfl | assumption) ?_; refine S_q rfl rfl rfl (Q_build rfl (by decide +kernel) (zer rfl) ⟨_, _, _, _, _, _, _, rfl, fld rfl rfl, ty rfl, rfl, rfl, ⟨_, _, _, _, _, _, _, rfl, fld rfl rfl, ty rfl, rfl, rfl, rfl, rfl⟩, rfl⟩ rfl) ?_; refine S_c rfl rfl rfl (C_buildSlice rfl (elm rfl) (zer rfl) rfl ⟨_, _, _, rfl, rfl, rfl, rfl, rfl, rfl⟩ rfl rfl ?_); intro b0_7; refine S_q rfl rfl rfl (Q_build rfl (by decide +kernel) (zer rfl) ⟨_, _, _, _, _, _, _, rfl, fld rfl rfl, ty rfl, rfl, rfl, ⟨_, _, _, _, _, _, _, rfl, fld rfl rfl, ty rfl, rfl, rfl, ⟨_, _, _, _, _, _, _, rfl, fld rfl rfl, ty rfl, rfl, rfl, ⟨_, _, _, _, _, _, _, rfl, fld rfl rfl, ty rfl, rfl, rfl, rfl, rfl⟩, rfl⟩, rfl⟩, rfl⟩ rfl) ?_; refine S_load rfl rfl rfl rfl rfl ?_; refine L_agg (Rd.own m5) (ty rfl) (by first | rfl | assumption) ?_; refine S_q rfl rfl rfl (Q_build rfl (by decide +kernel) (zer rfl) ⟨_, _, _, _, _, _, _, rfl, fld rfl rfl, ty rfl, rfl, rfl, ⟨_, _, _, _, _, _, _, rfl, fld rfl rfl, ty rfl, rfl, rfl, rfl, rfl⟩, rfl⟩ rfl) ?_; refine S_load rfl rfl rfl rfl rfl ?_; refine L_agg (Rd.own m4) (ty rfl) (by first | rfl | assumption) ?_; refine S_q rfl rfl rfl (Q_build rfl (by decide +kernel) (zer rfl) ⟨_, _, _, _, _, _, _, rfl, fld rfl rfl, ty rfl, rfl, rfl, ⟨_, _, _, _, _, _, _, rfl, fld rfl rfl, ty rfl, rfl, rfl, rfl, rfl⟩, rfl⟩ rfl) ?_; refine S_c rfl rfl rfl (C_buildSlice rfl (elm rfl) (zer rfl) rfl ⟨_, _, _, rfl, rfl, rfl, rfl, ⟨_, _, _, rfl, rfl, rfl, rfl, rfl, rfl⟩, rfl⟩ rfl rfl ?_); intro b0_8; refine S_q rfl rfl rfl (Q_build rfl (by decide +kernel) (zer rfl) ⟨_, _, _, _, _, _, _, rfl, fld rfl rfl, ty rfl, rfl, rfl, rfl, rfl⟩ rfl) ?_; refine S_load rfl rfl rfl rfl rfl ?_; refine L_agg (Rd.own m6) (ty rfl) (by first | rfl | assumption) ?_; refine S_q rfl rfl rfl (Q_build rfl (by decide +kernel) (zer rfl) ⟨_, _, _, _, _, _, _, rfl, fld rfl rfl, ty rfl, rfl, rfl, ⟨_, _, _, _, _, _, _, rfl, fld rfl rfl, ty rfl, rfl, rfl, ⟨_, _, _, _, _, _, _, rfl, fld rfl rfl, ty rfl, rfl, rfl, rfl, rfl⟩, rfl⟩, rfl⟩ rfl) ?_; refine S_c rfl rfl rfl (C_buildSlice rfl (elm rfl) (zer rfl) rfl ⟨_, _, _, rfl, rfl, rfl, rfl, rfl, rfl⟩ rfl rfl ?_); intro b0_9; refine S_q rfl rfl rfl (Q_build rfl (by decide +kernel) (zer rfl) ⟨_, _, _, _, _, _, _, rfl, fld rfl rfl, ty rfl, rfl, rfl, ⟨_, _, _, _, _, _, _, rfl, fld rfl rfl, ty rfl, rfl, rfl, ⟨_, _, _, _, _, _, _, rfl, fld rfl rfl, ty rfl, rfl, rfl, rfl, rfl⟩, rfl⟩, rfl⟩ rfl) ?_; refine S_c rfl rfl rfl (C_buildSlice rfl (elm rfl) (zer rfl) rfl ⟨_, _, _, rfl, rfl, rfl, rfl, ⟨_, _, _, rfl, rfl, rfl, rfl, rfl, rfl⟩, rfl⟩ rfl rfl ?_); intro b0_10; refine Sm rfl ?_; refine On ?_; refine WP_ret ?_))
  refine pretK [] _ rfl (.inl rfl) rfl ⟨_, _, rfl, rfl, rfl⟩ fun h' hl' hm => ?_
  have e10 := hm _ m0
  have e9 := hm _ m1
  have e8 := hm _ m2
  have e7 := hm _ m3
  have e6 := hm _ m4
  have e5 := hm _ m5
  have e4 := hm _ m6
  clear hm
  have s4 : SL h' 4 ValC (.slice (some ⟨b0_4, 0, none⟩) 1 1) exA.fields := slb_of_at (at_of e4) (Flat.one rfl rfl rfl) (by decide)
  have s5 : SL h' 5 (NodeC 4398046511104) (.slice (some ⟨b0_5, 0, none⟩) 2 2) [exA, exB] := slb_of_at (at_of e5) (Flat.append (Flat.one rfl rfl ⟨_, _, rfl, s4⟩) (Flat.one rfl rfl ⟨_, _, rfl, SLB.nil _ _ _ _ _ _⟩)) (by decide)
  have s6 : SL h' 12 StubC (.slice (some ⟨b0_6, 0, none⟩) 1 1) [⟨2, 7, (2, 1), false, false⟩] := slb_of_at (at_of e6) (Flat.one rfl rfl ⟨_, _, _, _, _, _, rfl⟩) (by decide)
  have s7 : SL h' 3 NamedC (.slice (some ⟨b0_7, 0, none⟩) 1 1) [(1, 1)] := slb_of_at (at_of e7) (Flat.one rfl rfl ⟨_, rfl⟩) (by decide)
  have s8 : SL h' 5 (NodeC 4398046511104) (.slice (some ⟨b0_8, 0, none⟩) 2 2) [exB2, exC] := slb_of_at (at_of e8) (Flat.append (Flat.one rfl rfl ⟨_, _, rfl, SLB.nil _ _ _ _ _ _⟩) (Flat.one rfl rfl ⟨_, _, rfl, SLB.nil _ _ _ _ _ _⟩)) (by decide)
  have s9 : SL h' 12 ScionC (.slice (some ⟨b0_9, 0, none⟩) 1 1) [⟨1, 7, (2, 1)⟩] := slb_of_at (at_of e9) (Flat.one rfl rfl ⟨_, _, _, _, _, _, _, _, rfl⟩) (by decide)
  refine ⟨some ⟨b0_10, 0, none⟩, 2, rfl, slb_of_at (at_of e10) (Flat.append (Flat.one rfl rfl ⟨by unfold inI64; decide, _, _, _, _, _, _, _, _, _, _, _, _, _, _, _, _, _, _, _, rfl, s5, s6, ?_, s7, ?_, ?_, ?_⟩) (Flat.one rfl rfl ⟨by unfold inI64; decide, _, _, _, _, _, _, _, _, _, _, _, _, _, _, _, _, _, _, _, rfl, s8, ?_, s9, ?_, ?_, ?_, ?_⟩)) (by decide)⟩
  all_goals exact SLB.nil _ _ _ _ _ _
end Go.Proofs.YtfhoecgiahpddaaGreat
/-
  CONTRACT: awake (refmeshlaw55): the example of the chapter.
-/
set_option linter.all false
namespace Go.Proofs.YtfhoecgiahpddaaGreat
open Go.Mesh Go.RowKit
set_option maxRecDepth 100000
set_option linter.unusedVariables false
set_option maxHeartbeats 4000000
attribute [local irreducible] WP OPS ANY ANYo LG LV FSpec PSpec QOP OPc OPw thenQ blockQ roundQ roundF retQ retM Rd At SLB OS cmpI orI cmpID namedB valB nodeB kindB validG valAux idxI findG zeroV viewOf vwAt idxOf recv flyB scionOf moveOf numberedOf idOf valueOf mget mput localB carriedB stubOf followF followOf flOf flightsOf flPre setL minusL compactL putI mergeN insN insAll unionR NMap Coll retN bodyS GMap Dfs refsV refsOf reachL movedOf movedG graphParts graphR isMove flightIDs mailIDs viewIDs rawRoots rootsR reachR deadN viewObjs garbageOf garbageR objsL thereB oddB badNode lostF badStub safe1 safe2 safe3 safe4 safeR msgB sizesB smallV fewB
theorem ex_graph : graphR exV = ([exA, exB2, exC], 0) := by decide +kernel
theorem ex_roots : rootsR exV = [(1, 1)] := by decide +kernel
theorem ex_follow : followOf exV 1 (2, 1) = ([1, 2], 0) := by decide +kernel
theorem ex_reach : reachL [exA, exB2, exC] [(1, 1)] = [(1, 1), (2, 1)] := by
  refine SI_unique (SI_reachL _ _) (by unfold SI; decide +kernel) fun x => ?_
  rw [mem_reachL]
  have h1 : findG [exA, exB2, exC] (1, 1) = some exA := by decide +kernel
  have h2 : findG [exA, exB2, exC] (2, 1) = some exB2 := by decide +kernel
  have r1 : Reach [exA, exB2, exC] [(1, 1)] (1, 1) := .root (by simp) h1
  have r2 : Reach [exA, exB2, exC] [(1, 1)] (2, 1) := .step r1 h1 (by decide +kernel) h2
  constructor
  · intro h
    induction h with
    | root h1 _ => simp at h1; simp [h1]
    | step _ hm hx _ ih =>
      simp only [List.mem_cons, List.not_mem_nil, or_false] at ih
      rcases ih with rfl | rfl
      · rw [h1] at hm; cases hm
        have : refsOf exA = [(2, 1)] := by decide +kernel
        rw [this] at hx; simp at hx; simp [hx]
      · rw [h2] at hm; cases hm
        have : refsOf exB2 = [] := by decide +kernel
        rw [this] at hx; simp at hx
  · intro h
    simp only [List.mem_cons, List.not_mem_nil, or_false] at h
    rcases h with rfl | rfl
    · exact r1
    · exact r2
theorem ex_reachR : reachR exV = [(1, 1), (2, 1)] := by rw [reachR, ex_graph, ex_roots]; exact ex_reach
theorem ex_garbage : garbageR exV = 1 := by rw [garbageR, ex_reachR]; decide +kernel
theorem ex_safe : safeR exV = 0 := by rw [safeR, ex_graph, ex_roots, ex_reach]; decide +kernel
theorem ex_small : Small exV where
  len := by decide
  objs := by decide
  stubs := by decide
  scions := by decide
  names := by decide
  mail := by decide
  flights := by decide
  received := by decide
  fields := by decide
  args := by decide
  letter := by decide
  moved := by decide
  pmail := by decide
  pargs := by decide
theorem awake_s {h : Frag} : PSpec Tryz.prog 9 #[] h (fun _ v => v = .bool true) := by
  have hsm := ex_small
  have hlen := hsm.len
  have hr := ex_reachR
  refine pspec_of (vs := []) Tryz.func9 Tryz.ntmps9 rfl rfl ?_
  (focus (refine Wr ?_; refine Sm rfl ?_; refine On ?_; refine Wr ?_; refine S_c rfl rfl rfl (C_call (example_s) rfl rfl rfl (cal rfl) ?_); rintro h0_1 _ l0_1 ⟨pe0_1, qe0_1, rfl, fe0_1⟩; refine Sm rfl ?_; refine On ?_; refine Wr ?_; refine Sm rfl ?_; refine S_q rfl rfl rfl (Q_build rfl (by decide +kernel) (zer rfl) ⟨_, _, _, _, _, _, _, rfl, fld rfl rfl, ty rfl, rfl, rfl, ⟨_, _, _, _, _, _, _, rfl, fld rfl rfl, ty rfl, rfl, rfl, rfl, rfl⟩, rfl⟩ rfl) ?_; refine S_c rfl rfl rfl (C_call (follow_s (id := (_, _)) ‹_› (by omega)) rfl rfl ⟨_, _, rfl, ⟨_, _, rfl, ⟨_, _, rfl, rfl, rfl⟩, rfl⟩, rfl⟩ (cal rfl) ?_); rintro h0_2 _ l0_2 ⟨p0_2, q0_2, rfl, f0_2⟩; replace fe0_1 := fe0_1.up l0_2; refine Sm rfl ?_; refine S_q rfl rfl rfl (Q_extract rfl rfl rfl) ?_; refine S_q rfl rfl rfl (Q_extract rfl rfl rfl) ?_; refine Sm rfl ?_; refine Sm rfl ?_; refine On ?_; refine Wr ?_; refine Sm rfl ?_; refine S_c rfl rfl rfl (C_call (graph_s ‹_› ‹_›) rfl rfl ⟨_, _, rfl, rfl, rfl⟩ (cal rfl) ?_); rintro h0_3 _ l0_3 ⟨_, rfl, pg0_3, qg0_3, rfl, fg0_3⟩; replace f0_2 := f0_2.up l0_3; replace fe0_1 := fe0_1.up l0_3; refine Sm rfl ?_; refine S_q rfl rfl rfl (Q_extract rfl rfl rfl) ?_; refine S_q rfl rfl rfl (Q_extract rfl rfl rfl) ?_; refine S_c rfl rfl rfl (C_alloc rfl (zer rfl) ?_); intro b0_4; refine S_w0 rfl rfl (W_all rfl rfl rfl (ty rfl) u0 (by first | rfl | assumption) (by first | rfl | assumption) (by first | rfl | assumption | exact ones_sub ‹_› _ _) ?_); refine Sm rfl ?_; refine On ?_; refine Wr ?_; refine Sm rfl ?_; refine Sc rfl rfl rfl rfl rfl rfl rfl ?_; refine Sm rfl ?_; refine S_gsplit rfl rfl rfl rfl (fun c0_5 => ?_) (fun c0_5 => ?_) <;> (first | (simp [*] at c0_5; done) | (try simp at c0_5)); (focus (refine S_gq rfl rfl rfl rfl rfl rfl (Q_move rfl rfl) ?_; refine S_gc rfl rfl rfl rfl rfl rfl (C_buildSlice rfl (elm rfl) (zer rfl) rfl ⟨_, _, _, rfl, rfl, rfl, rfl, ⟨_, _, _, rfl, rfl, rfl, rfl, rfl, rfl⟩, rfl⟩ rfl rfl ?_); intro b0_6)); rotate_left 1; (focus (refine Sn rfl ?_; refine Sn rfl ?_; refine Sn rfl ?_; refine S_q rfl rfl rfl (Q_pick_f rfl rfl rfl) ?_; refine Sm rfl ?_; refine Sn rfl ?_; refine Sn rfl ?_; refine Sn rfl ?_; refine Sn rfl ?_; refine S_q rfl rfl rfl (Q_pick_f rfl rfl rfl) ?_; refine Sm rfl ?_; refine Sn rfl ?_; refine Sn rfl ?_; refine Sn rfl ?_; refine S_q rfl rfl rfl (Q_pick_f rfl rfl rfl) ?_; refine Sm rfl ?_; refine Sn rfl ?_; refine Sn rfl ?_; refine S_q rfl rfl rfl (Q_pick_f rfl rfl rfl) ?_; refine Sm rfl ?_; refine Sn rfl ?_; refine Sn rfl ?_; refine Sn rfl ?_; refine Sn rfl ?_; refine S_q rfl rfl rfl (Q_pick_f rfl rfl rfl) ?_; refine Sm rfl ?_; refine Sn rfl ?_; refine Sn rfl ?_; refine Sn rfl ?_; refine S_q rfl rfl rfl (Q_pick_f rfl rfl rfl) ?_; refine Sm rfl ?_; refine On ?_; refine WP_ret ?_)); rotate_left 1))
  · (focus (refine OPS_keepM [] [_] _ rfl ?_; rintro h1_k l1_k k1_k; have a1_k := at_of_keep k1_k; clear k1_k; replace fg0_3 := fg0_3.up l1_k; replace f0_2 := f0_2.up l1_k; replace fe0_1 := fe0_1.up l1_k))
    have hy : SL h1_k 1 IntC (.slice (some ⟨b0_6, 0, none⟩) 2 2) [1, 2] := slb_of_at a1_k (Flat.append (Flat.one rfl rfl rfl) (Flat.one rfl rfl rfl)) (by decide)
    refine S_gc rfl rfl rfl rfl rfl rfl (C_callv (ints_s f0_2 hy) rfl rfl ⟨_, _, rfl, ⟨_, _, rfl, rfl, rfl⟩, rfl⟩ (cal rfl) ?_)
    (focus (refine S_q rfl rfl rfl (Q_pick_t rfl rfl rfl) ?_; refine Sm rfl ?_; refine S_gsplit rfl rfl rfl rfl (fun c2_1 => ?_) (fun c2_1 => ?_) <;> (first | (simp [*] at c2_1; done) | (try simp at c2_1)); (focus (refine S_gq rfl rfl rfl rfl rfl rfl (Q_move rfl rfl) ?_; refine S_gc rfl rfl rfl rfl rfl rfl (C_call (reachable_s ‹_› ‹_›) rfl rfl ⟨_, _, rfl, rfl, rfl⟩ (cal rfl) ?_); rintro h2_2 _ l2_2 ⟨p2_2, q2_2, rfl, f2_2⟩; replace a1_k := a1_k.up l2_2; replace fg0_3 := fg0_3.up l2_2; replace f0_2 := f0_2.up l2_2; replace fe0_1 := fe0_1.up l2_2; replace hy := hy.up l2_2; refine S_gq rfl rfl rfl rfl rfl rfl (Q_len rfl rfl rfl rfl rfl rfl) ?_; refine S_gq rfl rfl rfl rfl rfl rfl (Q_cmp rfl rfl rfl rfl) ?_; refine S_q rfl rfl rfl (Q_pick_t rfl rfl rfl) ?_; refine Sm rfl ?_; refine S_gsplit rfl rfl rfl rfl (fun c2_3 => ?_) (fun c2_3 => ?_) <;> (first | (simp [*] at c2_3; done) | (try simp at c2_3)); refine S_gq rfl rfl rfl rfl rfl rfl (Q_move rfl rfl) ?_; refine S_gc rfl rfl rfl rfl rfl rfl (C_callv (garbage_s ‹_› ‹_›) rfl rfl ⟨_, _, rfl, rfl, rfl⟩ (cal rfl) ?_); refine S_gq rfl rfl rfl rfl rfl rfl (Q_cmp rfl rfl rfl rfl) ?_; refine S_q rfl rfl rfl (Q_pick_t rfl rfl rfl) ?_; refine Sm rfl ?_; refine S_gsplit rfl rfl rfl rfl (fun c2_4 => ?_) (fun c2_4 => ?_) <;> (first | (simp [*] at c2_4; done) | (try simp at c2_4)); (focus (refine S_gq rfl rfl rfl rfl rfl rfl (Q_move rfl rfl) ?_; refine S_gq rfl rfl rfl rfl rfl rfl (Q_cmp rfl rfl rfl rfl) ?_; refine S_q rfl rfl rfl (Q_pick_t rfl rfl rfl) ?_; refine Sm rfl ?_; refine S_gsplit rfl rfl rfl rfl (fun c2_5 => ?_) (fun c2_5 => ?_) <;> (first | (simp [*] at c2_5; done) | (try simp at c2_5)); (focus (refine S_gq rfl rfl rfl rfl rfl rfl (Q_fieldAddr rfl rfl (fld rfl rfl)) ?_; refine S_gload rfl rfl rfl rfl rfl rfl rfl rfl ?_; refine L_one (Rd.own m0) (ty rfl) ?_; refine S_gq rfl rfl rfl rfl rfl rfl (Q_len rfl rfl rfl rfl rfl rfl) ?_; refine S_gq rfl rfl rfl rfl rfl rfl (Q_cmp rfl rfl rfl rfl) ?_; refine S_q rfl rfl rfl (Q_pick_t rfl rfl rfl) ?_; refine Sm rfl ?_; refine S_gsplit rfl rfl rfl rfl (fun c2_6 => ?_) (fun c2_6 => ?_) <;> (first | (simp [*] at c2_6; done) | (try simp at c2_6)); (focus (refine S_gq rfl rfl rfl rfl rfl rfl (Q_move rfl rfl) ?_; refine S_gc rfl rfl rfl rfl rfl rfl (C_callv (safe_s ‹_› ‹_›) rfl rfl ⟨_, _, rfl, rfl, rfl⟩ (cal rfl) ?_); refine S_gq rfl rfl rfl rfl rfl rfl (Q_cmp rfl rfl rfl rfl) ?_; refine S_q rfl rfl rfl (Q_pick_t rfl rfl rfl) ?_; refine Sm rfl ?_; refine On ?_; refine WP_ret ?_)); rotate_left 1; (focus (refine Sn rfl ?_; refine Sn rfl ?_; refine Sn rfl ?_; refine S_q rfl rfl rfl (Q_pick_f rfl rfl rfl) ?_; refine Sm rfl ?_; refine On ?_; refine WP_ret ?_)); rotate_left 1)); rotate_left 2; (focus (refine Sn rfl ?_; refine Sn rfl ?_; refine Sn rfl ?_; refine Sn rfl ?_; refine S_q rfl rfl rfl (Q_pick_f rfl rfl rfl) ?_; refine Sm rfl ?_; refine Sn rfl ?_; refine Sn rfl ?_; refine Sn rfl ?_; refine S_q rfl rfl rfl (Q_pick_f rfl rfl rfl) ?_; refine Sm rfl ?_; refine On ?_; refine WP_ret ?_)); rotate_left 1)); rotate_left 3; (focus (refine Sn rfl ?_; refine Sn rfl ?_; refine S_q rfl rfl rfl (Q_pick_f rfl rfl rfl) ?_; refine Sm rfl ?_; refine Sn rfl ?_; refine Sn rfl ?_; refine Sn rfl ?_; refine Sn rfl ?_; refine S_q rfl rfl rfl (Q_pick_f rfl rfl rfl) ?_; refine Sm rfl ?_; refine Sn rfl ?_; refine Sn rfl ?_; refine Sn rfl ?_; refine S_q rfl rfl rfl (Q_pick_f rfl rfl rfl) ?_; refine Sm rfl ?_; refine On ?_; refine WP_ret ?_)); rotate_left 1)); rotate_left 4; (focus (refine Sn rfl ?_; refine Sn rfl ?_; refine Sn rfl ?_; refine Sn rfl ?_; refine S_q rfl rfl rfl (Q_pick_f rfl rfl rfl) ?_; refine Sm rfl ?_; refine Sn rfl ?_; refine Sn rfl ?_; refine Sn rfl ?_; refine S_q rfl rfl rfl (Q_pick_f rfl rfl rfl) ?_; refine Sm rfl ?_; refine Sn rfl ?_; refine Sn rfl ?_; refine S_q rfl rfl rfl (Q_pick_f rfl rfl rfl) ?_; refine Sm rfl ?_; refine Sn rfl ?_; refine Sn rfl ?_; refine Sn rfl ?_; refine Sn rfl ?_; refine S_q rfl rfl rfl (Q_pick_f rfl rfl rfl) ?_; refine Sm rfl ?_; refine Sn rfl ?_; refine Sn rfl ?_; refine Sn rfl ?_; refine S_q rfl rfl rfl (Q_pick_f rfl rfl rfl) ?_; refine Sm rfl ?_; refine On ?_; refine WP_ret ?_)); rotate_left 1))
    · refine pret (.inl rfl) rfl ⟨_, _, rfl, rfl, rfl⟩ ?_
      simp only [resOf]; rw [ex_safe]; rfl
    · exact absurd (by rw [ex_graph]; rfl) c2_6
    · exact absurd (by rw [ex_graph]) c2_5
    · exact absurd (by rw [ex_garbage]; rfl) c2_4
    · exact absurd (by rw [ex_follow]) c2_1
  · exact absurd (by rw [ex_follow]) c0_5
end Go.Proofs.YtfhoecgiahpddaaGreat
/-
  WHAT THE LAWS SHARE: small views are few and small; maps of identities to true.
-/
set_option linter.all false
namespace Go.Proofs.YtfhoecgiahpddaaGreat
open Go.Mesh Go.RowKit
set_option maxRecDepth 100000
set_option linter.unusedVariables false
set_option maxHeartbeats 4000000
attribute [local irreducible] WP OPS ANY ANYo LG LV FSpec PSpec QOP OPc OPw thenQ blockQ roundQ roundF retQ retM Rd At SLB OS cmpI orI cmpID namedB valB nodeB kindB validG valAux idxI findG zeroV viewOf vwAt idxOf recv flyB scionOf moveOf numberedOf idOf valueOf mget mput localB carriedB stubOf followF followOf flOf flightsOf flPre setL minusL compactL putI mergeN insN insAll unionR NMap Coll retN bodyS GMap Dfs refsV refsOf reachL movedOf movedG graphParts graphR isMove flightIDs mailIDs viewIDs rawRoots rootsR reachR deadN viewObjs garbageOf garbageR objsL thereB oddB badNode lostF badStub safe1 safe2 safe3 safe4 safeR msgB sizesB smallV fewB
theorem SLB.cast {α : Type} {B B' : Nat} {h : Frag} {k : Nat} {C C' : CR α} {v : Value} {xs : List α} (x : SLB B h k C v xs) (hl : xs.length ≤ B') (hc : ∀ y, y ∈ xs → ∀ cs, C h y cs → C' h y cs) : SLB B' h k C' v xs := by
  unfold SLB at x ⊢
  obtain ⟨_, ⟨p, cap, e, rfl⟩ | ⟨b, off, cap, e, g⟩⟩ := x
  · exact ⟨hl, .inl ⟨p, cap, e, rfl⟩⟩
  · refine ⟨hl, .inr ⟨b, off, cap, e, fun i y hy => ?_⟩⟩
    obtain ⟨vs, h1, h2, h3, h4⟩ := g i y hy
    exact ⟨vs, h1, h2, hc y (List.mem_of_getElem? hy) vs h3, h4⟩
theorem few_small {vs : List View} (h : fewB vs = true) : Small vs := by
  rw [fewB, Bool.and_eq_true, decide_eq_true_eq] at h
  obtain ⟨h, hl⟩ := h
  rw [List.all_eq_true] at h
  have hv : ∀ v, v ∈ vs → (v.objects.length ≤ 12 ∧ v.stubs.length ≤ 12 ∧ v.scions.length ≤ 12 ∧ v.names.length ≤ 6 ∧ v.mail.length ≤ 6 ∧ v.flights.length ≤ 6 ∧ v.received.length ≤ 10) ∧ (∀ n, n ∈ v.objects → n.fields.length ≤ 6) ∧ (∀ m, m ∈ v.mail → m.args.length ≤ 6) ∧
      ∀ x, x ∈ v.flights → x.msg.args.length ≤ 6 ∧ x.msg.parcel.fields.length ≤ 6 ∧ x.msg.parcel.mail.length ≤ 4 ∧ ∀ l, l ∈ x.msg.parcel.mail → l.length ≤ 6 := by
    intro v hv
    have := h v hv
    simp only [smallV, sizesB, Bool.and_eq_true, List.all_eq_true, decide_eq_true_eq, msgB] at this
    obtain ⟨h1, h2, h3, h4⟩ := this
    exact ⟨h1, h2, h3, h4⟩
  exact ⟨hl, fun v m => (hv v m).1.1, fun v m => (hv v m).1.2.1, fun v m => (hv v m).1.2.2.1, fun v m => (hv v m).1.2.2.2.1, fun v m => (hv v m).1.2.2.2.2.1, fun v m => (hv v m).1.2.2.2.2.2.1, fun v m => (hv v m).1.2.2.2.2.2.2,
    fun v m => (hv v m).2.1, fun v m => (hv v m).2.2.1, fun v m x hx => ((hv v m).2.2.2 x hx).1, fun v m x hx => ((hv v m).2.2.2 x hx).2.1, fun v m x hx => ((hv v m).2.2.2 x hx).2.2.1, fun v m x hx => ((hv v m).2.2.2 x hx).2.2.2⟩
theorem NodeC.cast {B B' : Nat} {h : Frag} {n : Nd} {cs : List Value} (x : NodeC B h n cs) (hl : n.fields.length ≤ B') : NodeC B' h n cs := by
  obtain ⟨p, c, e, s⟩ := x
  exact ⟨p, c, e, SLB.cast s hl fun _ _ _ y => y⟩
theorem slb_small {h : Frag} {a : Value} {vs : List View} (hs : SLB 9223372036854775807 h 13 (ViewC 9223372036854775807) a vs) (sm : Small vs) : SL h 13 (ViewC 4398046511104) a vs := by
  refine SLB.cast hs (Nat.le_trans sm.len (by decide)) fun v hv cs hc => ?_
  obtain ⟨hi, xa, po, qo, qs, qt, pc, qc, pn, qn, pm, qm, xw, xv, pf, qf, pr, qr, xe, xf, rfl, s1, s2, s3, s4, s5, s6, s7⟩ := hc
  have l1 := sm.objs v hv
  have l2 := sm.stubs v hv
  have l3 := sm.scions v hv
  have l4 := sm.names v hv
  have l5 := sm.mail v hv
  have l6 := sm.flights v hv
  have l7 := sm.received v hv
  refine ⟨hi, xa, po, qo, qs, qt, pc, qc, pn, qn, pm, qm, xw, xv, pf, qf, pr, qr, xe, xf, rfl, ?_, ?_, ?_, ?_, ?_, ?_, ?_⟩
  · exact SLB.cast s1 (by omega) fun n hn cs hc => NodeC.cast hc (Nat.le_trans (sm.fields v hv n hn) (by decide))
  · exact SLB.cast s2 (by omega) fun _ _ _ y => y
  · exact SLB.cast s3 (by omega) fun _ _ _ y => y
  · exact SLB.cast s4 (by omega) fun _ _ _ y => y
  · refine SLB.cast s5 (by omega) fun m hm cs hc => ?_
    obtain ⟨a, b, m', p, c, e, s⟩ := hc
    exact ⟨a, b, m', p, c, e, SLB.cast s (Nat.le_trans (sm.args v hv m hm) (by decide)) fun _ _ _ y => y⟩
  · refine SLB.cast s6 (by omega) fun x hx cs hc => ?_
    obtain ⟨a1, a2, b1, b2, b3, pa, qa, pf, qf, pm, qm, wv, y1, y2, y3, y4, y5, y6, y7, y8, y9, y10, y11, y12, y13, y14, y15, e, t1, t2, t3⟩ := hc
    refine ⟨a1, a2, b1, b2, b3, pa, qa, pf, qf, pm, qm, wv, y1, y2, y3, y4, y5, y6, y7, y8, y9, y10, y11, y12, y13, y14, y15, e, ?_, ?_, ?_⟩
    · exact SLB.cast t1 (Nat.le_trans (sm.letter v hv x hx) (by decide)) fun _ _ _ y => y
    · exact SLB.cast t2 (Nat.le_trans (sm.moved v hv x hx) (by decide)) fun _ _ _ y => y
    · refine SLB.cast t3 (Nat.le_trans (sm.pmail v hv x hx) (by decide)) fun l hl cs hc => ?_
      obtain ⟨a, b, m, p, c, e, s⟩ := hc
      exact ⟨a, b, m, p, c, e, SLB.cast s (Nat.le_trans (sm.pargs v hv x hx l hl) (by decide)) fun _ _ _ y => y⟩
  · exact SLB.cast s7 (by omega) fun _ _ _ y => y
/-- a map in which what is in s is true -/
def BMap (ps : List (ID × Value)) (s : List ID) : Prop := ∀ id, mget id ps = if id ∈ s then some (.bool true) else none
theorem BMap_nil : BMap [] [] := fun id => by simp [mget]
theorem BMap_put {ps : List (ID × Value)} {s : List ID} (x : BMap ps s) (id : ID) : BMap (mput id (.bool true) ps) (s ++ [id]) := fun k => by
  rw [mget_mput, x k]
  by_cases h1 : id = k
  · subst h1; simp
  · by_cases h2 : k ∈ s
    · simp [h1, h2]
    · simp [h1, h2, Ne.symm h1]
theorem BMap_at {ps : List (ID × Value)} {s : List ID} (x : BMap ps s) {i : Nat} {k : ID} {v : Value} (h : ps[i]? = some (k, v)) : k ∈ s := by
  have := x k
  by_cases hk : k ∈ s
  · exact hk
  · rw [if_neg hk] at this
    exact absurd (List.mem_map.2 ⟨_, List.mem_of_getElem? h, rfl⟩) (mget_none_keys this)
theorem BMap_get {ps : List (ID × Value)} {s : List ID} (x : BMap ps s) {id : ID} (h : id ∈ s) : mget id ps = some (.bool true) := by rw [x id, if_pos h]
/-- the places of a map that a range has come by -/
def Seen (n : Nat) (seen : List Nat) : Prop := seen.Nodup ∧ ∀ i, i ∈ seen → i < n
theorem Seen_nil (n : Nat) : Seen n [] := ⟨List.nodup_nil, by simp⟩
theorem Seen_snoc {n i : Nat} {seen : List Nat} (x : Seen n seen) (hi : i ∉ seen) (hn : i < n) : Seen n (seen ++ [i]) := by
  refine ⟨?_, fun j hj => ?_⟩
  · rw [List.nodup_append]
    exact ⟨x.1, by simp, fun a ha b hb e => hi (by simp at hb; subst hb; subst e; exact ha)⟩
  · rcases List.mem_append.1 hj with h | h
    · exact x.2 j h
    · simp at h; omega
theorem Seen_le {n : Nat} {seen : List Nat} (x : Seen n seen) : seen.length ≤ n := by
  have := nodup_subN seen (List.range n) x.1 fun i hi => List.mem_range.2 (x.2 i hi)
  simpa using this
attribute [local irreducible] BMap Seen
end Go.Proofs.YtfhoecgiahpddaaGreat
/-
  RULES: parts of slices whose capacity is known.
-/
set_option linter.all false
namespace Go.Mesh
open Go.RowKit
set_option linter.unusedVariables false
section
variable {α : Type} {B : Nat} {h : Frag} {k e : Nat} {C : CR α} {v : Value} {xs : List α} {M : Hp}
theorem OS.cap {p : Option Addr} {n c : Nat} (s : OS h e k C (.slice p n c) xs M) : n = xs.length ∧ n ≤ c := by
  obtain ⟨us, ⟨hu, ⟨h0, h1, _⟩ | ⟨b, cap, rest, h0, rfl, h2, h3⟩⟩, f⟩ := s
  · cases h0; exact ⟨by omega, by omega⟩
  · cases h0; exact ⟨rfl, h3⟩
/-- v[:u] -/
def toV (p : Option Addr) (k u cap : Nat) : Value := .slice (if cap = 0 then p else p.map (·.add (0 * k))) u cap
/-- v[u:] -/
def fromV (p : Option Addr) (k u n cap : Nat) : Value := .slice (if cap = u then p else p.map (·.add (u * k))) (n - u) (cap - u)
theorem SLB.toV {p : Option Addr} {n cap u : Nat} (s : SLB B h k C (.slice p n cap) xs) (hc : n ≤ cap) (hu : u ≤ n) : SLB B h k C (toV p k u cap) (xs.take u) := by
  obtain ⟨hm, ⟨p', c', e, rfl⟩ | ⟨b, off, c', e, g⟩⟩ := s
  · cases e
    have : u = 0 := by omega
    subst this
    exact SLB.nil _ _ _ _ _ _
  · cases e
    have hl : (xs.take u).length = u := by rw [List.length_take]; omega
    unfold Mesh.toV
    by_cases h0 : cap = 0
    · have : xs.take u = [] := by apply List.eq_nil_of_length_eq_zero; omega
      rw [this]
      have : u = 0 := by omega
      subst this
      exact SLB.nil _ _ _ _ _ _
    · refine ⟨by omega, .inr ⟨b, off, cap, ?_, fun i x hx => ?_⟩⟩
      · rw [if_neg h0, hl]; simp [Addr.add]
      · rw [List.getElem?_take] at hx
        split at hx
        · exact g i x hx
        · cases hx
theorem SLB.fromV {p : Option Addr} {n cap u : Nat} (s : SLB B h k C (.slice p n cap) xs) (hc : n ≤ cap) (hu : u ≤ n) : SLB B h k C (fromV p k u n cap) (xs.drop u) := by
  obtain ⟨hm, ⟨p', c', e, rfl⟩ | ⟨b, off, c', e, g⟩⟩ := s
  · cases e
    have : u = 0 := by omega
    subst this
    exact SLB.nil _ _ _ _ _ _
  · cases e
    have hl : (xs.drop u).length = xs.length - u := List.length_drop
    unfold Mesh.fromV
    by_cases h0 : cap = u
    · have h1 : xs.drop u = [] := by apply List.eq_nil_of_length_eq_zero; omega
      rw [h1]
      have : xs.length - u = 0 := by omega
      rw [this]
      exact SLB.nil _ _ _ _ _ _
    · refine ⟨by omega, .inr ⟨b, off + u * k, cap - u, ?_, fun i x hx => ?_⟩⟩
      · rw [if_neg h0, hl]; simp [Addr.add]
      · rw [List.getElem?_drop] at hx
        obtain ⟨vs, h1, h2, h3, h4⟩ := g _ x hx
        rw [Nat.add_mul, ← Nat.add_assoc] at h4
        exact ⟨vs, h1, h2, h3, h4⟩
variable {P : Program} {r : Option Nat} {L : Hp} {fr : Fr} {o : Oper}
theorem Q_slTo {t e k by_ : Nat} {s x : Operand} {p : Option Addr} {n cap u : Nat} {q : IntKind} (hop : o.op = .slice t s none (some x) none) (hs : ev fr s = some (.slice p n cap)) (he : elemOf? P t = some (e, k, by_)) (hx : ev fr x = some (.int q (u : Int))) (hu : u ≤ cap) :
    QOP P o fr h L (toV p k u cap) :=
  ⟨fun c => by rw [hop]; simp, fun a ha w _ => by
    obtain ⟨hu', i0, hi0, hk, _⟩ := elemOf?_spec he
    unfold execOp; rw [hop]
    have huc' : ((u : Int) ≤ (cap : Int)) := by omega
    simp [toV, ha s _ hs, ha x _ hx, Instr.sliceAt, run_underlying' hu', Instr.slice, Instr.sliceBounds, Instr.sliceBound, asIntOf, huc', hu, sizeOf, typeInfo, hi0, hk]⟩
theorem Q_slFrom {t e k by_ : Nat} {s x : Operand} {p : Option Addr} {n cap u : Nat} {q : IntKind} (hop : o.op = .slice t s (some x) none none) (hs : ev fr s = some (.slice p n cap)) (he : elemOf? P t = some (e, k, by_)) (hx : ev fr x = some (.int q (u : Int))) (hu : u ≤ n) :
    QOP P o fr h L (fromV p k u n cap) :=
  ⟨fun c => by rw [hop]; simp, fun a ha w _ => by
    obtain ⟨hu', i0, hi0, hk, _⟩ := elemOf?_spec he
    unfold execOp; rw [hop]
    have huc' : ((u : Int) ≤ (n : Int)) := by omega
    simp [fromV, ha s _ hs, ha x _ hx, Instr.sliceAt, run_underlying' hu', Instr.slice, Instr.sliceBounds, Instr.sliceBound, asIntOf, huc', hu, sizeOf, typeInfo, hi0, hk]⟩
theorem L_oelF {α : Type} {h : Frag} {k j fo e : Nat} {C : CR α} {v : Value} {xs : List α} {x : α} {M L : Hp} {P : Program} {t : TypeId} {K : Value → Prop} (A B' : Hp) (s : OS h e k C v xs M) (hx : xs[j]? = some x) (hL : L = A ++ (M ++ B')) (kk : ∀ vs, vs.length = k → ones vs = true → C h x vs → LV P vs fo t K) : LG P h L (blk v) (ofs v + j * k + fo) t K := by
  obtain ⟨_, _, vs, h1, h2, h3, h4⟩ := s.at hx
  exact LV.lg (h4 L (fun p hp => by rw [hL]; simp [hp])) (kk vs h1 h2 h3)
/-- append(xs, y): the block of the one element stands behind what is owned -/
theorem W_app1b {α : Type} {h : Frag} {k ee : Nat} {C : CR α} {K : OCont} {L : Hp} {fr : Fr} {P : Program} {r : Option Nat} {o : Oper} {c : Call} {s x : Operand} {t by_ b : Nat} {v : Value} {xs : List α} {y : α} {vs z : List Value} {M : Hp} (A A2 : Hp) (hos : OS h ee k C v xs M) (hop : o.op = .call c) (hc : c.callee = .builtin .append) (ha : c.args = #[s, x]) (hat : c.argTypes = #[t, t])
    (hs : ev fr s = some v) (hx : ev fr x = some (.slice (some ⟨b, 0, none⟩) 1 1)) (he : elemOf? P t = some (ee, k, by_)) (hz : zeroOf P ee = some z) (hzk : z.length = k) (hL : L = A ++ (M ++ ((b, cells vs ee) :: A2))) (hvs : vs.length = k) (h1 : ones vs = true) (hy : C h y vs)
    (hb : (xs.length + 1) * by_ ≤ 140737488355328) (hnm : xs.length + 1 ≤ 9223372036854775807) (kk : ∀ p c M', OS h ee k C (.slice p (xs ++ [y]).length c) (xs ++ [y]) M' → K h (A ++ (M' ++ A2)) (.slice p (xs ++ [y]).length c)) : OPw P r o fr h L K := by
  refine OPw_perm (L2 := (b, cells vs ee) :: (A ++ (M ++ A2))) (by rw [hL, ← List.append_assoc, ← List.append_assoc]; exact List.perm_middle) ?_
  exact W_app1 A A2 hos hop hc ha hat hs hx he hz hzk rfl hvs h1 hy hb hnm kk
end
end Go.Mesh
/-
  RULES: what is left over by a division.
-/
set_option linter.all false
namespace Go.Mesh
open Go.RowKit
section
variable {P : Program} {r : Option Nat} {h : Frag} {L : Hp} {fr : Fr} {o : Oper}
theorem Q_rem {t u : TypeId} {x y : Operand} {k : IntKind} {a b : Int} {m n : Nat} (hop : o.op = .binOp .rem t x y u) (hx : ev fr x = some (.int k a)) (hy : ev fr y = some (.int k b)) (ha : a = m) (hb : b = n) (h0 : 0 < n) : QOP P o fr h L (.int k ((m % n : Nat) : Int)) :=
  ⟨fun c => by rw [hop]; simp, fun ac hac w _ => by
    subst ha hb
    unfold execOp; rw [hop]
    have hn : ¬ (n = 0) := by omega
    have ht : (m : Int).tmod n = ((m % n : Nat) : Int) := rfl
    simp [hac x _ hx, hac y _ hy, eqGuard, binOp, Op.intDiv, hn, ht]⟩
end
end Go.Mesh
/-
  A REGION THAT DRAWS ITS ORDER, FOURTH PART: the question whether an operation may be taken first, asked of what has not come up alone (quick in large regions).
-/
set_option linter.all false
namespace Go.Mesh
open Go.RowKit
set_option linter.unusedVariables false
def ancL (ops : Array Oper) (listed : Array Bool) (i : Nat) : Nat → Nat → Bool
  | 0, _ => false
  | f + 1, j => bif listed.getD j false then false else match ops[j]? with
    | none => false
    | some o => o.after.any fun e => Region.binds .any e && (e.on == i || ancL ops listed i f e.on)
theorem ancL_anc {ops : Array Oper} {listed : Array Bool} {i : Nat} : ∀ (f j : Nat), ancL ops listed i f j = true → anc ops i f j = true
  | 0, _, h => by cases h
  | f + 1, j, h => by
    unfold ancL at h
    cases hl : listed.getD j false with
    | true => rw [hl] at h; cases h
    | false =>
      rw [hl] at h
      simp only [cond_false] at h
      unfold anc
      cases ho : ops[j]? with
      | none => rw [ho] at h; cases h
      | some o =>
        rw [ho] at h
        simp only at h ⊢
        rw [Array.any_eq_true] at h ⊢
        obtain ⟨k, hk, h⟩ := h
        refine ⟨k, hk, ?_⟩
        rw [Bool.and_eq_true, Bool.or_eq_true] at h ⊢
        exact ⟨h.1, h.2.imp id (ancL_anc f _)⟩
def firstL (ops : Array Oper) (listed : Array Bool) (i : Nat) : Bool :=
  closedB ops listed && (match ops[i]? with
    | none => false
    | some oi => calmOp oi.op && (List.range ops.size).all fun j => j == i || listed.getD j true || ancL ops listed i ops.size j || (match ops[j]? with | none => true | some oj => oi.apart ops oj && calmOp oj.op)) && (Region.ready .any ops listed).contains i
theorem fbL {ops : Array Oper} {listed : Array Bool} {i : Nat} (h : firstL ops listed i = true) : firstB ops listed i = true := by
  unfold firstL at h
  unfold firstB okFirst
  cases hi : ops[i]? with
  | none => rw [hi] at h; simp at h
  | some oi =>
    rw [hi] at h
    simp only [Bool.and_eq_true] at h ⊢
    obtain ⟨⟨h1, h2, h3⟩, h4⟩ := h
    refine ⟨⟨h1, h2, ?_⟩, h4⟩
    rw [List.all_eq_true] at h3 ⊢
    intro j hj
    have := h3 j hj
    simp only [Bool.or_eq_true] at this ⊢
    rcases this with ((a | a) | a) | a
    · exact .inl (.inl (.inl a))
    · exact .inl (.inl (.inr a))
    · exact .inl (.inr (ancL_anc _ _ a))
    · exact .inr a
def firstPL (ops : Array Oper) (listed : Array Bool) (i : Nat) : Bool :=
  closedB ops listed && (match ops[i]? with
    | none => false
    | some oi => tameOp oi.op && (List.range ops.size).all fun j => j == i || listed.getD j true || ancL ops listed i ops.size j || (match ops[j]? with | none => true | some oj => oi.apart ops oj && tameOp oj.op)) && (Region.ready .any ops listed).contains i
theorem fpL {ops : Array Oper} {listed : Array Bool} {i : Nat} (h : firstPL ops listed i = true) : firstP ops listed i = true := by
  unfold firstPL at h
  unfold firstP
  cases hi : ops[i]? with
  | none => rw [hi] at h; simp at h
  | some oi =>
    rw [hi] at h
    simp only [Bool.and_eq_true] at h ⊢
    obtain ⟨⟨h1, h2, h3⟩, h4⟩ := h
    refine ⟨⟨h1, h2, ?_⟩, h4⟩
    rw [List.all_eq_true] at h3 ⊢
    intro j hj
    have := h3 j hj
    simp only [Bool.or_eq_true] at this ⊢
    rcases this with ((a | a) | a) | a
    · exact .inl (.inl (.inl a))
    · exact .inl (.inl (.inr a))
    · exact .inl (.inr (ancL_anc _ _ a))
    · exact .inr a
end Go.Mesh
/-
  THE LAW ObserverAgreement returns true.
-/
set_option linter.all false
namespace Go.Proofs.YtfhoecgiahpddaaGreat
open Go.Mesh Go.RowKit
set_option maxRecDepth 100000
set_option linter.unusedVariables false
set_option maxHeartbeats 4000000
attribute [local irreducible] WP OPS ANY ANYo LG LV FSpec PSpec QOP OPc OPw thenQ blockQ roundQ roundF retQ retM Rd At SLB OS cmpI orI cmpID namedB valB nodeB kindB validG valAux idxI findG zeroV viewOf vwAt idxOf recv flyB scionOf moveOf numberedOf idOf valueOf mget mput localB carriedB msgB sizesB smallV fewB stubOf followF followOf flOf flightsOf flPre plainV plainN plainTo disagree setL minusL compactL putI mergeN insN insAll unionR NMap Coll retN bodyS GMap Dfs refsV refsOf reachL movedOf movedG graphParts graphR isMove flightIDs mailIDs viewIDs rawRoots rootsR reachR deadN viewObjs garbageOf garbageR objsL agreesB bump chB chg thereB oddB badNode lostF badStub safe1 safe2 safe3 safe4 safeR BMap Seen
theorem reachableC_s {h : Frag} {a : Value} {vs : List View} (hs : SL h 13 (ViewC 4398046511104) a vs) (sm : Small vs) : PSpec Tryz.prog 12 #[a] h (fun h' v => ∃ p c, v = .slice p (reachR vs).length c ∧ SL h' 2 IDC (.slice p (reachR vs).length c) (reachR vs) ∧ (reachR vs).length ≤ c) := by
  obtain ⟨_, hgl, hgf⟩ := sm.graph
  have hrl := roots_len sm
  have hrr := sm.reach
  refine pspec_of (vs := [a]) Tryz.func12 Tryz.ntmps12 rfl rfl ?_
  (focus (refine Wr ?_; refine Sm rfl ?_; refine On ?_; refine Wr ?_; refine Sm rfl ?_; refine S_c rfl rfl rfl (C_call (graph_s ‹_› ‹_›) rfl rfl ⟨_, _, rfl, rfl, rfl⟩ (cal rfl) ?_); rintro h0_1 _ l0_1 ⟨_, rfl, pg0_1, qg0_1, rfl, fg0_1⟩; replace hs := hs.up l0_1; refine Sm rfl ?_; refine S_q rfl rfl rfl (Q_extract rfl rfl rfl) ?_; refine S_q rfl rfl rfl (Q_extract rfl rfl rfl) ?_; refine S_c rfl rfl rfl (C_alloc rfl (zer rfl) ?_); intro b0_2; refine S_w0 rfl rfl (W_all rfl rfl rfl (ty rfl) u0 (by first | rfl | assumption) (by first | rfl | assumption) (by first | rfl | assumption | exact ones_sub ‹_› _ _) ?_); refine Sm rfl ?_; refine On ?_; refine WP_seq ?_; refine Wr ?_; refine Sm rfl ?_; refine Sc rfl rfl rfl rfl rfl rfl rfl ?_; refine On ?_; refine WP_cond rfl (fun c0_3 => ?_) (fun c0_3 => ?_) <;> (first | (simp [*] at c0_3; done) | (try simp at c0_3)); (focus (refine Wr ?_; refine Sm rfl ?_; refine On ?_; refine WP_ret ?_; refine then_r ?_)); rotate_left 1; (focus (refine WP_skip ?_; refine then_n ?_; refine WP_seq ?_; refine R_draw (n := 5) mixed rfl ?_; refine A_at 0 rfl rfl ?_; refine A_load (m' := 1) rfl rfl rfl rfl rfl rfl (by decide +kernel) ?_; refine L_agg (Rd.own m0) (ty rfl) (by first | rfl | assumption) ?_; refine A_at 1 rfl rfl ?_; refine A_q (m' := 3) rfl rfl rfl (Q_move rfl rfl) rfl (by decide +kernel) ?_; refine A_at 2 rfl rfl ?_; refine A_c (m' := 7) rfl rfl rfl rfl (by decide +kernel) (C_call (roots_s ‹_› ‹_›) rfl rfl ⟨_, _, rfl, rfl, rfl⟩ (cal rfl) ?_); rintro h0_4 _ l0_4 ⟨p0_4, q0_4, rfl, f0_4⟩; replace fg0_1 := fg0_1.up l0_4; replace hs := hs.up l0_4; refine A_at 3 rfl rfl ?_; refine A_c (m' := 15) rfl rfl rfl rfl (by decide +kernel) (C_callF (reach_s ⟨_, _, rfl, by assumption⟩ ‹_› (by omega) (by omega) ‹_›) rfl rfl ⟨_, _, rfl, ⟨_, _, rfl, rfl, rfl⟩, rfl⟩ (cal rfl) ?_); rintro h0_5 m0_5 _ l0_5 ⟨p0_5, q0_5, rfl, o0_5⟩; replace f0_4 := f0_4.up l0_5; replace fg0_1 := fg0_1.up l0_5; replace hs := hs.up l0_5; refine A_at 4 rfl rfl ?_; refine A_q (m' := 31) rfl rfl rfl (Q_assign rfl rfl) rfl (by decide +kernel) ?_; refine A_done (by decide +kernel) ?_; refine then_n ?_; refine WP_ret ?_)); rotate_left 1))
  · refine pret (.inl rfl) rfl ⟨_, _, rfl, rfl, rfl⟩ ?_
    rw [reachR, if_neg c0_3]
    exact ⟨_, _, rfl, SLB.nil _ _ _ _ _ _, Nat.zero_le _⟩
  · have hre : reachR vs = reachL (graphR vs).1 (rootsR vs) := by rw [reachR, if_pos c0_3]
    rw [hre] at hrr ⊢
    refine pretKM [] m0_5 _ rfl (.inl rfl) rfl ⟨_, _, rfl, rfl, rfl⟩ fun h' hl' hm => ?_
    exact ⟨_, _, rfl, o0_5.sl hl' IDC_mono hm (by omega), o0_5.cap.2⟩
theorem lawAgreement_s {h : Frag} {a : Value} {vs : List View} {m : Nat} (hs : SLB 9223372036854775807 h 13 (ViewC 9223372036854775807) a vs) (hm : m ≤ 255) : PSpec Tryz.prog 8 #[a, .int .u8 (m : Int)] h (fun _ v => v = .bool true) := by
  obtain ⟨pv, cv, rfl⟩ := hs.slice
  refine pspec_of (vs := [.slice pv vs.length cv, .int .u8 (m : Int)]) Tryz.func8 Tryz.ntmps8 rfl rfl ?_
  by_cases hfew : fewB vs = true
  · have sm := few_small hfew
    have hB := hs
    replace hs := slb_small hs sm
    have hlen := sm.len
    have hrr := sm.reach
    obtain ⟨hSN, hgl, hgf⟩ := sm.graph
    by_cases he : (graphR vs).2 = 0
    · have hown := agreesB_own he
      by_cases hl0 : (reachR vs).length = 0
      · (focus (refine Wr ?_; refine Sm rfl ?_; refine On ?_; refine WP_seq ?_; refine Wr ?_; refine S_c rfl rfl rfl (C_callv (awake_s) rfl rfl rfl (cal rfl) ?_); refine S_q rfl rfl rfl (Q_not rfl rfl) ?_; refine On ?_; refine cond_f rfl ?_; refine WP_skip ?_; refine then_n ?_; refine WP_seq ?_; refine Wr ?_; refine Sm rfl ?_; refine S_c rfl rfl rfl (C_callv (few_s ‹_›) rfl rfl ⟨_, _, rfl, rfl, rfl⟩ (cal rfl) ?_); refine S_q rfl rfl rfl (Q_not rfl rfl) ?_; refine On ?_; refine WP_cond rfl (fun c0_1 => ?_) (fun c0_1 => ?_) <;> (first | (simp [*] at c0_1; done) | (try simp at c0_1)); refine WP_skip ?_; refine then_n ?_; refine Wr ?_; refine Sm rfl ?_; refine S_c rfl rfl rfl (C_call (graph_s ‹_› ‹_›) rfl rfl ⟨_, _, rfl, rfl, rfl⟩ (cal rfl) ?_); rintro h0_2 _ l0_2 ⟨_, rfl, pg0_2, qg0_2, rfl, fg0_2⟩; replace hB := hB.up l0_2; replace hs := hs.up l0_2; refine Sm rfl ?_; refine S_q rfl rfl rfl (Q_extract rfl rfl rfl) ?_; refine S_q rfl rfl rfl (Q_extract rfl rfl rfl) ?_; refine S_c rfl rfl rfl (C_alloc rfl (zer rfl) ?_); intro b0_3; refine S_w0 rfl rfl (W_all rfl rfl rfl (ty rfl) u0 (by first | rfl | assumption) (by first | rfl | assumption) (by first | rfl | assumption | exact ones_sub ‹_› _ _) ?_); refine Sm rfl ?_; refine On ?_; refine Wr ?_; refine Sm rfl ?_; refine S_c rfl rfl rfl (C_call (reachableC_s ‹_› ‹_›) rfl rfl ⟨_, _, rfl, rfl, rfl⟩ (cal rfl) ?_); rintro h0_4 _ l0_4 ⟨p0_4, q0_4, rfl, f0_4, g0_4⟩; replace fg0_2 := fg0_2.up l0_4; replace hB := hB.up l0_4; replace hs := hs.up l0_4; refine Sm rfl ?_; refine On ?_; refine WP_seq ?_; refine Wr ?_; refine Sm rfl ?_; refine Sc rfl rfl rfl rfl rfl rfl rfl ?_; refine On ?_; refine WP_cond rfl (fun c0_5 => ?_) (fun c0_5 => ?_) <;> (first | (simp [*] at c0_5; done) | (try simp at c0_5)); refine WP_skip ?_; refine then_n ?_; refine WP_seq ?_; refine Wr ?_; refine Sm rfl ?_; refine S_load rfl rfl rfl rfl rfl ?_; refine L_agg (Rd.own m0) (ty rfl) (by first | rfl | assumption) ?_; refine Sm rfl ?_; refine S_c rfl rfl rfl (C_callv (agrees_s ‹_› ‹_› ⟨_, _, rfl, by assumption⟩ ‹_› (by omega)) rfl rfl ⟨_, _, rfl, ⟨_, _, rfl, ⟨_, _, rfl, rfl, rfl⟩, rfl⟩, rfl⟩ (cal rfl) ?_); refine S_q rfl rfl rfl (Q_not rfl rfl) ?_; refine On ?_; refine WP_cond rfl (fun c0_6 => ?_) (fun c0_6 => ?_) <;> (first | (simp [*] at c0_6; done) | (try simp at c0_6)); refine WP_skip ?_; refine then_n ?_; refine WP_seq ?_; refine Wr ?_; refine Sm rfl ?_; refine S_q rfl rfl rfl (Q_len rfl rfl rfl rfl rfl rfl) ?_; refine Sc rfl rfl rfl rfl rfl rfl rfl ?_; refine On ?_; refine WP_cond rfl (fun c0_7 => ?_) (fun c0_7 => ?_) <;> (first | (simp [*] at c0_7; done) | (try simp at c0_7)); refine Wr ?_; refine Sm rfl ?_; refine On ?_; refine WP_ret ?_; refine then_r ?_))
        refine pret (.inl rfl) rfl ⟨_, _, rfl, rfl, rfl⟩ ?_
        rfl
      (focus (refine Wr ?_; refine Sm rfl ?_; refine On ?_; refine WP_seq ?_; refine Wr ?_; refine S_c rfl rfl rfl (C_callv (awake_s) rfl rfl rfl (cal rfl) ?_); refine S_q rfl rfl rfl (Q_not rfl rfl) ?_; refine On ?_; refine cond_f rfl ?_; refine WP_skip ?_; refine then_n ?_; refine WP_seq ?_; refine Wr ?_; refine Sm rfl ?_; refine S_c rfl rfl rfl (C_callv (few_s ‹_›) rfl rfl ⟨_, _, rfl, rfl, rfl⟩ (cal rfl) ?_); refine S_q rfl rfl rfl (Q_not rfl rfl) ?_; refine On ?_; refine WP_cond rfl (fun c1_1 => ?_) (fun c1_1 => ?_) <;> (first | (simp [*] at c1_1; done) | (try simp at c1_1)); refine WP_skip ?_; refine then_n ?_; refine Wr ?_; refine Sm rfl ?_; refine S_c rfl rfl rfl (C_call (graph_s ‹_› ‹_›) rfl rfl ⟨_, _, rfl, rfl, rfl⟩ (cal rfl) ?_); rintro h1_2 _ l1_2 ⟨_, rfl, pg1_2, qg1_2, rfl, fg1_2⟩; replace hB := hB.up l1_2; replace hs := hs.up l1_2; refine Sm rfl ?_; refine S_q rfl rfl rfl (Q_extract rfl rfl rfl) ?_; refine S_q rfl rfl rfl (Q_extract rfl rfl rfl) ?_; refine S_c rfl rfl rfl (C_alloc rfl (zer rfl) ?_); intro b1_3; refine S_w0 rfl rfl (W_all rfl rfl rfl (ty rfl) u0 (by first | rfl | assumption) (by first | rfl | assumption) (by first | rfl | assumption | exact ones_sub ‹_› _ _) ?_); refine Sm rfl ?_; refine On ?_; refine Wr ?_; refine Sm rfl ?_; refine S_c rfl rfl rfl (C_call (reachableC_s ‹_› ‹_›) rfl rfl ⟨_, _, rfl, rfl, rfl⟩ (cal rfl) ?_); rintro h1_4 _ l1_4 ⟨p1_4, q1_4, rfl, f1_4, g1_4⟩; replace fg1_2 := fg1_2.up l1_4; replace hB := hB.up l1_4; replace hs := hs.up l1_4; refine Sm rfl ?_; refine On ?_; refine WP_seq ?_; refine Wr ?_; refine Sm rfl ?_; refine Sc rfl rfl rfl rfl rfl rfl rfl ?_; refine On ?_; refine WP_cond rfl (fun c1_5 => ?_) (fun c1_5 => ?_) <;> (first | (simp [*] at c1_5; done) | (try simp at c1_5)); refine WP_skip ?_; refine then_n ?_; refine WP_seq ?_; refine Wr ?_; refine Sm rfl ?_; refine S_load rfl rfl rfl rfl rfl ?_; refine L_agg (Rd.own m0) (ty rfl) (by first | rfl | assumption) ?_; refine Sm rfl ?_; refine S_c rfl rfl rfl (C_callv (agrees_s ‹_› ‹_› ⟨_, _, rfl, by assumption⟩ ‹_› (by omega)) rfl rfl ⟨_, _, rfl, ⟨_, _, rfl, ⟨_, _, rfl, rfl, rfl⟩, rfl⟩, rfl⟩ (cal rfl) ?_); refine S_q rfl rfl rfl (Q_not rfl rfl) ?_; refine On ?_; refine WP_cond rfl (fun c1_6 => ?_) (fun c1_6 => ?_) <;> (first | (simp [*] at c1_6; done) | (try simp at c1_6)); refine WP_skip ?_; refine then_n ?_; refine WP_seq ?_; refine Wr ?_; refine Sm rfl ?_; refine S_q rfl rfl rfl (Q_len rfl rfl rfl rfl rfl rfl) ?_; refine Sc rfl rfl rfl rfl rfl rfl rfl ?_; refine On ?_; refine WP_cond rfl (fun c1_7 => ?_) (fun c1_7 => ?_) <;> (first | (simp [*] at c1_7; done) | (try simp at c1_7)); refine WP_skip ?_; refine then_n ?_; refine Wr ?_; refine Sm rfl ?_; refine S_q rfl rfl rfl (Q_conv rfl rfl ⟨_, rfl⟩ rfl) ?_; refine Sm rfl ?_; refine S_q rfl rfl rfl (Q_len rfl rfl rfl rfl rfl rfl) ?_))
      have hat : m % (reachR vs).length < (reachR vs).length := Nat.mod_lt _ (by omega)
      refine S_q rfl rfl rfl (Q_rem (m := m) (n := (reachR vs).length) rfl rfl rfl (IntWalk.i64_in _ (by omega)) rfl (by omega)) ?_
      generalize m % (reachR vs).length = k at hat ⊢
      (focus (refine OPS_keepM [] [_] _ rfl ?_; rintro h2_k l2_k k2_k; have a2_k := at_of_keep k2_k; clear k2_k; replace f1_4 := f1_4.up l2_k; replace fg1_2 := fg1_2.up l2_k; replace hB := hB.up l2_k; replace hs := hs.up l2_k))
      have hless := agreesB_less (g := (graphR vs).1) hat
      have hT := SLB.toV f1_4 g1_4 (u := k) (by omega)
      have hF := SLB.fromV f1_4 g1_4 (u := k + 1) (by omega)
      have hlen2 : ([] ++ reachR vs : List ID).length = (reachR vs).length := rfl
      have hTl : (List.take k (reachR vs)).length = k := by rw [List.length_take]; omega
      have hFl : (List.drop (k + 1) (reachR vs)).length = (reachR vs).length - (k + 1) := List.length_drop
      (focus (refine Sm rfl ?_; refine On ?_; refine WP_seq ?_; refine WP_seq ?_; refine R_draw (n := 13) mixed rfl ?_; refine A_at 0 rfl rfl ?_; refine A_qp (m' := 1) rfl rfl rfl (Q_move rfl rfl) rfl (by decide +kernel) ?_; refine A_at 1 rfl rfl ?_; refine A_loadp (m' := 3) rfl rfl rfl rfl rfl rfl (by decide +kernel) ?_; refine L_agg (Rd.pers ‹_›) (ty rfl) (by first | rfl | assumption) ?_; refine A_at 3 rfl rfl ?_; refine A_q (m' := 11) rfl rfl rfl (Q_move rfl rfl) rfl (by decide +kernel) ?_; refine A_at 4 rfl rfl ?_; refine A_q (m' := 27) rfl rfl rfl (Q_move rfl rfl) rfl (by decide +kernel) ?_; refine A_at 5 rfl rfl ?_; refine A_q (m' := 59) rfl rfl rfl (Q_slTo rfl rfl (elm rfl) rfl (by omega)) rfl (by decide +kernel) ?_; refine A_at 7 rfl rfl ?_; refine A_qp (m' := 187) rfl rfl rfl (Q_move rfl rfl) rfl (by decide +kernel) ?_; refine A_at 8 rfl rfl ?_; refine A_qp (m' := 443) rfl rfl rfl (Q_move rfl rfl) rfl (by decide +kernel) ?_; refine A_at 9 rfl rfl ?_; refine A_qp (m' := 955) rfl rfl rfl (Q_add rfl rfl rfl (by omega)) rfl (by decide +kernel) ?_; refine A_at 10 rfl rfl ?_; refine A_qp (m' := 1979) rfl rfl rfl (Q_slFrom (u := _ + 1) rfl rfl (elm rfl) rfl (by omega)) rfl (by decide +kernel) ?_; refine A_at 2 rfl rfl ?_; refine A_c (m' := 1983) rfl rfl rfl rfl (by decide +kernel) (C_buildSlice rfl (elm rfl) (zer rfl) rfl rfl rfl rfl ?_); intro b3_1; refine A_at 6 rfl rfl ?_; refine A_w (m' := 2047) rfl rfl rfl rfl rfl (by decide +kernel) (W_appS [] _ (OS.lit0 _ _ _ _ _) ‹_› rfl rfl rfl rfl rfl rfl (elm rfl) (zer rfl) rfl rfl (by (try simp only [lA]); omega) (by (try simp only [lA]); omega) ?_); rintro p3_2 q3_2 m3_2 o3_2; refine A_at 11 rfl rfl ?_; refine A_w (m' := 4095) rfl rfl rfl rfl rfl (by decide +kernel) (W_appS [] _ o3_2 ‹_› rfl rfl rfl rfl rfl rfl (elm rfl) (zer rfl) rfl rfl (by (try simp only [lA]); omega) (by (try simp only [lA]); omega) ?_); rintro p3_3 q3_3 m3_3 o3_3))
      refine ANY_keepM' (by decide +kernel) [] m3_3 _ rfl fun h2 hl2 hm2 => ?_
      have hN : SL h2 2 IDC (.slice p3_3 ([] ++ List.take k (reachR vs) ++ List.drop (k + 1) (reachR vs)).length q3_3) ([] ++ List.take k (reachR vs) ++ List.drop (k + 1) (reachR vs)) := o3_3.sl hl2 IDC_mono hm2 (by simp only [List.nil_append, List.length_append]; omega)
      have hNl : ([] ++ List.take k (reachR vs) ++ List.drop (k + 1) (reachR vs)).length ≤ 1000000 := by simp only [List.nil_append, List.length_append]; omega
      have hless2 : agreesB vs (graphR vs).1 ([] ++ List.take k (reachR vs) ++ List.drop (k + 1) (reachR vs)) = false := hless
      clear o3_2 o3_3 hm2 hT hF hless hTl hFl hlen2
      (replace a2_k := a2_k.up hl2; replace f1_4 := f1_4.up hl2; replace fg1_2 := fg1_2.up hl2; replace hB := hB.up hl2; replace hs := hs.up hl2)
      (focus (refine A_at 12 rfl rfl ?_; refine A_c (m' := 8191) rfl rfl rfl rfl (by decide +kernel) (C_callv (agrees_s ‹_› ‹_› ⟨_, _, rfl, by assumption⟩ ‹_› (by omega)) rfl rfl ⟨_, _, rfl, ⟨_, _, rfl, ⟨_, _, rfl, rfl, rfl⟩, rfl⟩, rfl⟩ (cal rfl) ?_); refine A_done (by decide +kernel) ?_; refine then_n ?_; refine WP_cond rfl (fun c5_1 => ?_) (fun c5_1 => ?_) <;> (first | (simp [*] at c5_1; done) | (try simp at c5_1)); (focus (refine Wr ?_; refine Sm rfl ?_; refine On ?_; refine WP_ret ?_; refine then_r ?_)); rotate_left 1; (focus (refine WP_skip ?_; refine then_n ?_; refine Wr ?_; refine S_q rfl rfl rfl (Q_build rfl (by decide +kernel) (zer rfl) rfl rfl) ?_; refine S_c rfl rfl rfl (C_alloc rfl (zer rfl) ?_); intro b5_2; refine S_w0 rfl rfl (W_all rfl rfl rfl (ty rfl) u0 (by first | rfl | assumption) (by first | rfl | assumption) (by first | rfl | assumption | exact ones_sub ‹_› _ _) ?_); refine On ?_; refine Wr ?_; refine Sm rfl ?_; refine On ?_; refine WP_seq ?_; refine Wr ?_; refine Sf rfl rfl rfl rfl rfl (fld rfl rfl) ?_; refine S_load rfl rfl rfl rfl rfl ?_; refine L_fld (Rd.pers ‹_›) (ty rfl) rfl ?_; refine S_q rfl rfl rfl (Q_len rfl rfl rfl rfl rfl rfl) ?_; refine Sm rfl ?_; refine On ?_; refine WP_block ?_)); rotate_left 1))
      · cases c5_1.symm.trans hless2
      obtain ⟨⟨d1, d2⟩, ed⟩ := get_of (xs := reachR vs) (k := k) hat
      have hdm : (d1, d2) ∈ reachR vs := List.mem_of_getElem? ed
      clear c5_1 hless2 hN hNl
      (refine WP_loopF (α := Nat × List Nd × Option Addr × Nat × Hp × Bool) [61, 60, 9, 8, 7, 0] (fun (s : Nat × List Nd × Option Addr × Nat × Hp × Bool) => (graphR vs).1.length - s.1) (fun (s : Nat × List Nd × Option Addr × Nat × Hp × Bool) => (b5_2, cells [.slice s.2.2.1 s.2.1.length s.2.2.2.1] 27) :: (s.2.2.2.2.1 ++ [])) (fun (s : Nat × List Nd × Option Addr × Nat × Hp × Bool) => [(62, .int .i64 (s.1 : Int)), (10, .bool s.2.2.2.2.2)]) (fun hh (s : Nat × List Nd × Option Addr × Nat × Hp × Bool) => le h2 hh ∧ s.1 ≤ (graphR vs).1.length ∧ s.2.1 = ((graphR vs).1.take s.1).map (chg (d1, d2)) ∧ s.2.2.2.2.2 = ((graphR vs).1.take s.1).any (chB (d1, d2)) ∧ OS hh 38 5 (NodeC 4398046511104) (.slice s.2.2.1 s.2.1.length s.2.2.2.1) s.2.1 s.2.2.2.2.1) (0, [], none, 0, [], false) ⟨_, _, rfl, ⟨_, _, rfl, ⟨_, _, rfl, ⟨_, _, rfl, ⟨_, _, rfl, ⟨_, _, rfl, rfl, rfl⟩, rfl⟩, rfl⟩, rfl⟩, rfl⟩, rfl⟩ ?_ (by repeat' first | exact sR _ | exact sA _ _ | exact sN _ | apply s2 | apply s1) (by repeat' first | exact trivial | refine ⟨rfl, ?_⟩) ?_)
      · exact ⟨le_refl _, Nat.zero_le _, rfl, rfl, OS.nil _ _ _ _⟩
      rintro h3 ⟨j, out, p, c, M, ch⟩ _ ⟨hl3, hj, hout, hch, hO⟩
      simp only at hj hout hch hO
      dsimp only
      (replace a2_k := a2_k.up hl3; replace f1_4 := f1_4.up hl3; replace fg1_2 := fg1_2.up hl3; replace hB := hB.up hl3; replace hs := hs.up hl3)
      have hol : out.length = j := by rw [hout, List.length_map, List.length_take]; omega
      by_cases hlt : j < (graphR vs).1.length
      · obtain ⟨⟨⟨i1, i2⟩, kd, cl, fs⟩, ex⟩ := get_of hlt
        have hf6 := hgf _ (List.mem_of_getElem? ex)
        have hmt := map_take (chg (d1, d2)) ex
        have hat2 := any_take' (chB (d1, d2)) ex
        simp only at hf6
        by_cases hb : (i1, i2) = (d1, d2) ∧ 0 < fs.length ∧ kd ≠ 2
        · obtain ⟨he1, he2, he3⟩ := hb
          cases he1
          obtain ⟨⟨v1, v2, v3, v4⟩, fr, rfl⟩ : ∃ v r, fs = v :: r := by
            cases fs with
            | nil => simp at he2
            | cons v r => exact ⟨v, r, rfl⟩
          have hf7 : fr.length ≤ 1000 := by simp only [List.length_cons] at hf6; omega
          have hx0 : ([] ++ (v1, v2, v3, v4) :: fr : List Val)[0]? = some (v1, v2, v3, v4) := rfl
          have hcy := chB_yes (i := (d1, d2)) (kd := kd) (cl := cl) (x := (v1, v2, v3, v4)) (r := fr) he3
          have hgy := chg_yes (i1 := d1) (i2 := d2) (id := (d1, d2)) (kd := kd) (cl := cl) (x := (v1, v2, v3, v4)) (r := fr) rfl he3
          (focus (refine Wr ?_; refine Sc rfl rfl rfl rfl rfl rfl rfl ?_; refine On ?_; refine WP_seq ?_; refine WP_cond rfl (fun c8_1 => ?_) (fun c8_1 => ?_) <;> (first | (simp [*] at c8_1; done) | (try simp at c8_1)); refine WP_skip ?_; refine then_n ?_; refine WP_seq ?_; refine WP_block ?_; refine Wr ?_; refine S_q rfl rfl rfl (Q_indexS ‹_› ‹_› rfl rfl rfl (elm rfl) rfl) ?_; refine S_load rfl rfl rfl rfl rfl ?_; refine L_elA ‹_› ‹_› (ty rfl) ?_; rintro _ _ _ ⟨pn8_2, qn8_2, rfl, fn8_2⟩; refine S_c rfl rfl rfl (C_alloc rfl (zer rfl) ?_); intro b8_3; refine S_w0 rfl rfl (W_all rfl rfl rfl (ty rfl) u0 (by first | rfl | assumption) (by first | rfl | assumption) (by first | rfl | assumption | exact ones_sub ‹_› _ _) ?_); refine On ?_; refine WP_seq ?_; refine WP_seq ?_; refine R_draw (n := 18) mixed rfl ?_; refine A_at 0 rfl rfl ?_; refine A_q (m' := 1) rfl rfl rfl (Q_fieldAddr rfl rfl (fld rfl rfl)) rfl (by decide +kernel) ?_; refine A_at 1 rfl rfl ?_; refine A_load (m' := 3) rfl rfl rfl rfl rfl rfl (by decide +kernel) ?_; refine L_sub (Rd.own m0) (ty rfl) rfl ?_; refine A_at 2 rfl rfl ?_; refine A_q (m' := 7) rfl rfl rfl (Q_move rfl rfl) rfl (by decide +kernel) ?_; refine A_at 3 rfl rfl ?_; refine A_q (m' := 15) rfl rfl rfl (Q_move rfl rfl) rfl (by decide +kernel) ?_; refine A_at 4 rfl rfl ?_; refine A_q (m' := 31) rfl rfl rfl (Q_indexS ‹_› ‹_› rfl rfl rfl (elm rfl) rfl) rfl (by decide +kernel) ?_; refine A_at 5 rfl rfl ?_; refine A_load (m' := 63) rfl rfl rfl rfl rfl rfl (by decide +kernel) ?_; refine L_elA ‹_› ‹_› (ty rfl) ?_; rintro _ _ _ rfl; refine A_at 6 rfl rfl ?_; refine A_q (m' := 127) rfl rfl rfl (Q_eqI eqID rfl rfl rfl rfl rfl) rfl (by decide +kernel) ?_; refine A_at 7 rfl rfl ?_; refine A_q (m' := 255) rfl rfl rfl (Q_move rfl rfl) rfl (by decide +kernel) ?_; refine A_at 8 rfl rfl ?_; refine A_gsplit rfl rfl rfl rfl (fun c8_5 => ?_) (fun c8_5 => ?_) <;> (first | (simp [*] at c8_5; done) | (try simp at c8_5)); refine A_at 8 rfl rfl ?_; refine A_gq (m' := 511) rfl rfl rfl rfl rfl rfl (Q_fieldAddr rfl rfl (fld rfl rfl)) rfl (by decide +kernel) ?_; refine A_at 9 rfl rfl ?_; refine A_gload (m' := 1023) rfl rfl rfl rfl rfl rfl rfl rfl rfl (by decide +kernel) ?_; refine L_fld (Rd.own m0) (ty rfl) rfl ?_; refine A_at 10 rfl rfl ?_; refine A_gq (m' := 2047) rfl rfl rfl rfl rfl rfl (Q_len rfl rfl rfl rfl rfl rfl) rfl (by decide +kernel) ?_; refine A_at 11 rfl rfl ?_; refine A_gq (m' := 4095) rfl rfl rfl rfl rfl rfl (Q_cmp rfl rfl rfl rfl) rfl (by decide +kernel) ?_; refine A_at 12 rfl rfl ?_; refine A_q (m' := 8191) rfl rfl rfl (Q_pick_t rfl rfl rfl) rfl (by decide +kernel) ?_; refine A_at 13 rfl rfl ?_; refine A_q (m' := 16383) rfl rfl rfl (Q_move rfl rfl) rfl (by decide +kernel) ?_; refine A_at 14 rfl rfl ?_; refine A_gsplit rfl rfl rfl rfl (fun c8_6 => ?_) (fun c8_6 => ?_) <;> (first | (simp [*] at c8_6; done) | (try simp at c8_6)); refine A_at 14 rfl rfl ?_; refine A_gq (m' := 32767) rfl rfl rfl rfl rfl rfl (Q_fieldAddr rfl rfl (fld rfl rfl)) rfl (by decide +kernel) ?_; refine A_at 15 rfl rfl ?_; refine A_gload (m' := 65535) rfl rfl rfl rfl rfl rfl rfl rfl rfl (by decide +kernel) ?_; refine L_fld (Rd.own m0) (ty rfl) rfl ?_; refine A_at 16 rfl rfl ?_; refine A_gq (m' := 131071) rfl rfl rfl rfl rfl rfl (Q_cmp rfl rfl rfl rfl) rfl (by decide +kernel) ?_; refine A_at 17 rfl rfl ?_; refine A_q (m' := 262143) rfl rfl rfl (Q_pick_t rfl rfl rfl) rfl (by decide +kernel) ?_; refine A_done (by decide +kernel) ?_; refine then_n ?_; refine WP_cond rfl (fun c8_7 => ?_) (fun c8_7 => ?_) <;> (first | (simp [*] at c8_7; done) | (try simp at c8_7)); refine Wr ?_; refine S_c rfl rfl rfl (C_buildSlice rfl (elm rfl) (zer rfl) rfl rfl rfl rfl ?_); intro b8_8; refine Sf rfl rfl rfl rfl rfl (fld rfl rfl) ?_; refine S_load rfl rfl rfl rfl rfl ?_; refine L_fld (Rd.own m1) (ty rfl) rfl ?_; refine S_w rfl rfl rfl (W_appS [] _ (OS.lit0 _ _ _ _ _) ‹_› rfl rfl rfl rfl rfl rfl (elm rfl) (zer rfl) rfl rfl (by (try simp only [lA]); omega) (by (try simp only [lA]); omega) ?_); rintro p8_9 q8_9 m8_9 o8_9; refine Sf rfl rfl rfl rfl rfl (fld rfl rfl) ?_; refine S_w0 rfl rfl (W_fld rfl rfl rfl (ty rfl) (Upd.skip _ (Upd.skip _ u0)) rfl rfl rfl rfl ?_); refine On ?_; refine WP_seq ?_; refine Wr ?_; refine Sf rfl rfl rfl rfl rfl (fld rfl rfl) ?_; refine S_load rfl rfl rfl rfl rfl ?_; refine L_fld (Rd.own (mAp (mAp m0))) (ty rfl) rfl ?_; refine S_q rfl rfl rfl (Q_indexO ‹_› ‹_› rfl rfl rfl (elm rfl) rfl) ?_; refine Sf rfl rfl rfl rfl rfl (fld rfl rfl) ?_; refine S_load rfl rfl rfl rfl rfl ?_; refine L_oelF [] _ ‹_› ‹_› rfl ?_; rintro _ _ _ rfl; refine LV_1 (ty rfl) rfl ?_; refine Sc rfl rfl rfl rfl rfl rfl rfl ?_; refine On ?_; refine WP_cond rfl (fun c8_11 => ?_) (fun c8_11 => ?_) <;> (first | (simp [*] at c8_11; done) | (try simp at c8_11)); (focus (refine R_region ?_; refine Sf rfl rfl rfl rfl rfl (fld rfl rfl) ?_; refine S_load rfl rfl rfl rfl rfl ?_; refine L_fld (Rd.own (mAp (mAp m0))) (ty rfl) rfl ?_; refine S_q rfl rfl rfl (Q_build rfl (by decide +kernel) (zer rfl) rfl rfl) ?_; refine S_q rfl rfl rfl (Q_indexO ‹_› ‹_› rfl rfl rfl (elm rfl) rfl) ?_)); rotate_left 1; (focus (refine R_region ?_; refine Sf rfl rfl rfl rfl rfl (fld rfl rfl) ?_; refine S_load rfl rfl rfl rfl rfl ?_; refine L_fld (Rd.own (mAp (mAp m0))) (ty rfl) rfl ?_; refine S_q rfl rfl rfl (Q_build rfl (by decide +kernel) (zer rfl) ⟨_, _, _, _, _, _, _, rfl, fld rfl rfl, ty rfl, rfl, rfl, ⟨_, _, _, _, _, _, _, rfl, fld rfl rfl, ty rfl, rfl, rfl, rfl, rfl⟩, rfl⟩ rfl) ?_; refine S_q rfl rfl rfl (Q_indexO ‹_› ‹_› rfl rfl rfl (elm rfl) rfl) ?_)); rotate_left 1))
          · rw [if_pos (show (v1, v2, v3, v4).1 = 1 from c8_11)] at hgy
            rw [hgy, ← hout] at hmt
            rw [hcy, Bool.or_true] at hat2
            refine S_w0 rfl rfl (W_setO (j := 0) (y := (0, 0, (0, 0))) (vs := vlc (0, 0, (0, 0))) [] _ o8_9 (by simp) rfl rfl rfl (ty rfl) rfl rfl rfl rfl ?_)
            intro M' hO'
            refine OPS_keepM [] M' _ rfl fun h4 hl4 hm4 => ?_
            have hZ : SL h4 4 ValC (.slice p8_9 ((0, 0, (0, 0)) :: fr : List Val).length q8_9) ((0, 0, (0, 0)) :: fr) := hO'.sl hl4 ValC_mono hm4 (by simp; omega)
            clear o8_9 hO' hm4 hx0
            (replace hO := hO.up hl4; replace a2_k := a2_k.up hl4; replace f1_4 := f1_4.up hl4; replace fg1_2 := fg1_2.up hl4; replace hB := hB.up hl4; replace hs := hs.up hl4; replace fn8_2 := fn8_2.up hl4)
            (focus (refine On ?_; refine R_region ?_; refine Sm rfl ?_; refine On ?_; refine R_region ?_; refine Sf rfl rfl rfl rfl rfl (fld rfl rfl) ?_; refine S_load rfl rfl rfl rfl rfl ?_; refine L_one (Rd.own m1) (ty rfl) ?_; refine S_load rfl rfl rfl rfl rfl ?_; refine L_agg (Rd.own m0) (ty rfl) (by first | rfl | assumption) ?_; refine S_c rfl rfl rfl (C_buildSlice rfl (elm rfl) (zer rfl) rfl ⟨_, _, _, rfl, rfl, rfl, rfl, rfl, rfl⟩ rfl rfl ?_); intro b10_1))
            refine S_w rfl rfl rfl (W_app1 (C := NodeC 4398046511104) (y := (⟨(d1, d2), kd, cl, (0, 0, (0, 0)) :: fr⟩ : Nd)) [_, _] _ hO rfl rfl rfl rfl rfl rfl (elm rfl) (zer rfl) rfl rfl rfl rfl ⟨_, _, rfl, hZ⟩ (by omega) (by omega) ?_)
            rintro p2 c2 M2 hO2
            (focus (refine Sf rfl rfl rfl rfl rfl (fld rfl rfl) ?_; refine S_w0 rfl rfl (W_one rfl rfl rfl (ty rfl) u1 rfl rfl rfl ?_); refine OPS_nil ?_; refine block_n ?_; refine then_n ?_; refine R_region ?_; refine S_q rfl rfl rfl (Q_add rfl rfl rfl (by omega)) ?_; refine Sm rfl ?_; refine OPS_nil ?_))
            exact roundF_n (j + 1, out ++ [⟨(d1, d2), kd, cl, (0, 0, (0, 0)) :: fr⟩], p2, c2, M2, true) (by simp only; omega) ⟨le_trans hl3 hl4, by simp only; omega, hmt.symm, hat2.symm, hO2⟩ (by repeat' first | exact sR _ | exact sA _ _ | exact sN _ | apply s2 | apply s1) (by repeat' first | exact trivial | refine ⟨rfl, ?_⟩)
          · rw [if_neg (show ¬ (v1, v2, v3, v4).1 = 1 from c8_11)] at hgy
            rw [hgy, ← hout] at hmt
            rw [hcy, Bool.or_true] at hat2
            refine S_w0 rfl rfl (W_setO (j := 0) (y := (1, 1099511627776, (0, 0))) (vs := vlc (1, 1099511627776, (0, 0))) [] _ o8_9 (by simp) rfl rfl rfl (ty rfl) rfl rfl rfl rfl ?_)
            intro M' hO'
            refine OPS_keepM [] M' _ rfl fun h4 hl4 hm4 => ?_
            have hZ : SL h4 4 ValC (.slice p8_9 ((1, 1099511627776, (0, 0)) :: fr : List Val).length q8_9) ((1, 1099511627776, (0, 0)) :: fr) := hO'.sl hl4 ValC_mono hm4 (by simp; omega)
            clear o8_9 hO' hm4 hx0
            (replace hO := hO.up hl4; replace a2_k := a2_k.up hl4; replace f1_4 := f1_4.up hl4; replace fg1_2 := fg1_2.up hl4; replace hB := hB.up hl4; replace hs := hs.up hl4; replace fn8_2 := fn8_2.up hl4)
            (focus (refine On ?_; refine R_region ?_; refine Sm rfl ?_; refine On ?_; refine R_region ?_; refine Sf rfl rfl rfl rfl rfl (fld rfl rfl) ?_; refine S_load rfl rfl rfl rfl rfl ?_; refine L_one (Rd.own m1) (ty rfl) ?_; refine S_load rfl rfl rfl rfl rfl ?_; refine L_agg (Rd.own m0) (ty rfl) (by first | rfl | assumption) ?_; refine S_c rfl rfl rfl (C_buildSlice rfl (elm rfl) (zer rfl) rfl ⟨_, _, _, rfl, rfl, rfl, rfl, rfl, rfl⟩ rfl rfl ?_); intro b13_1))
            refine S_w rfl rfl rfl (W_app1 (C := NodeC 4398046511104) (y := (⟨(d1, d2), kd, cl, (1, 1099511627776, (0, 0)) :: fr⟩ : Nd)) [_, _] _ hO rfl rfl rfl rfl rfl rfl (elm rfl) (zer rfl) rfl rfl rfl rfl ⟨_, _, rfl, hZ⟩ (by omega) (by omega) ?_)
            rintro p2 c2 M2 hO2
            (focus (refine Sf rfl rfl rfl rfl rfl (fld rfl rfl) ?_; refine S_w0 rfl rfl (W_one rfl rfl rfl (ty rfl) u1 rfl rfl rfl ?_); refine OPS_nil ?_; refine block_n ?_; refine then_n ?_; refine R_region ?_; refine S_q rfl rfl rfl (Q_add rfl rfl rfl (by omega)) ?_; refine Sm rfl ?_; refine OPS_nil ?_))
            exact roundF_n (j + 1, out ++ [⟨(d1, d2), kd, cl, (1, 1099511627776, (0, 0)) :: fr⟩], p2, c2, M2, true) (by simp only; omega) ⟨le_trans hl3 hl4, by simp only; omega, hmt.symm, hat2.symm, hO2⟩ (by repeat' first | exact sR _ | exact sA _ _ | exact sN _ | apply s2 | apply s1) (by repeat' first | exact trivial | refine ⟨rfl, ?_⟩)
        · have hcb := chB_no (n := ⟨(i1, i2), kd, cl, fs⟩) (id := (d1, d2)) hb
          have hcg := chg_no hcb
          rw [hcg] at hmt
          rw [hcb, Bool.or_false] at hat2
          have hb2 : (i1 = d1 → ¬ i2 = d2) ∨ fs = [] ∨ kd = 2 := by
            by_cases a1 : i1 = d1 ∧ i2 = d2
            · by_cases a2 : fs = []
              · exact .inr (.inl a2)
              · exact .inr (.inr (Decidable.byContradiction fun a3 => hb ⟨Prod.ext a1.1 a1.2, List.length_pos_iff.2 a2, a3⟩))
            · exact .inl fun e1 e2 => a1 ⟨e1, e2⟩
          clear hb hcb hcg
          rw [← hout] at hmt
          rw [← hch] at hat2
          rcases hb2 with hne | hne | hne
          · (focus (refine Wr ?_; refine Sc rfl rfl rfl rfl rfl rfl rfl ?_; refine On ?_; refine WP_seq ?_; refine WP_cond rfl (fun c15_1 => ?_) (fun c15_1 => ?_) <;> (first | (simp [*] at c15_1; done) | (try simp at c15_1)); refine WP_skip ?_; refine then_n ?_; refine WP_seq ?_; refine WP_block ?_; refine Wr ?_; refine S_q rfl rfl rfl (Q_indexS ‹_› ‹_› rfl rfl rfl (elm rfl) rfl) ?_; refine S_load rfl rfl rfl rfl rfl ?_; refine L_elA ‹_› ‹_› (ty rfl) ?_; rintro _ _ _ ⟨pn15_2, qn15_2, rfl, fn15_2⟩; refine S_c rfl rfl rfl (C_alloc rfl (zer rfl) ?_); intro b15_3; refine S_w0 rfl rfl (W_all rfl rfl rfl (ty rfl) u0 (by first | rfl | assumption) (by first | rfl | assumption) (by first | rfl | assumption | exact ones_sub ‹_› _ _) ?_); refine On ?_; refine WP_seq ?_; refine WP_seq ?_; refine R_draw (n := 18) mixed rfl ?_; refine A_at 0 rfl rfl ?_; refine A_q (m' := 1) rfl rfl rfl (Q_fieldAddr rfl rfl (fld rfl rfl)) rfl (by decide +kernel) ?_; refine A_at 1 rfl rfl ?_; refine A_load (m' := 3) rfl rfl rfl rfl rfl rfl (by decide +kernel) ?_; refine L_sub (Rd.own m0) (ty rfl) rfl ?_; refine A_at 2 rfl rfl ?_; refine A_q (m' := 7) rfl rfl rfl (Q_move rfl rfl) rfl (by decide +kernel) ?_; refine A_at 3 rfl rfl ?_; refine A_q (m' := 15) rfl rfl rfl (Q_move rfl rfl) rfl (by decide +kernel) ?_; refine A_at 4 rfl rfl ?_; refine A_q (m' := 31) rfl rfl rfl (Q_indexS ‹_› ‹_› rfl rfl rfl (elm rfl) rfl) rfl (by decide +kernel) ?_; refine A_at 5 rfl rfl ?_; refine A_load (m' := 63) rfl rfl rfl rfl rfl rfl (by decide +kernel) ?_; refine L_elA ‹_› ‹_› (ty rfl) ?_; rintro _ _ _ rfl; refine A_at 6 rfl rfl ?_; refine A_q (m' := 127) rfl rfl rfl (Q_eqI eqID rfl rfl rfl rfl rfl) rfl (by decide +kernel) ?_; refine A_at 7 rfl rfl ?_; refine A_q (m' := 255) rfl rfl rfl (Q_move rfl rfl) rfl (by decide +kernel) ?_; refine A_at 8 rfl rfl ?_; refine A_gsplit rfl rfl rfl rfl (fun c15_5 => ?_) (fun c15_5 => ?_) <;> (first | (simp [*] at c15_5; done) | (try simp at c15_5)); (focus (exfalso; omega)); (focus (refine A_at 8 rfl rfl ?_; refine A_gn (m' := 511) rfl rfl rfl rfl rfl rfl rfl (by decide +kernel) ?_; refine A_at 9 rfl rfl ?_; refine A_gn (m' := 1023) rfl rfl rfl rfl rfl rfl rfl (by decide +kernel) ?_; refine A_at 10 rfl rfl ?_; refine A_gn (m' := 2047) rfl rfl rfl rfl rfl rfl rfl (by decide +kernel) ?_; refine A_at 11 rfl rfl ?_; refine A_gn (m' := 4095) rfl rfl rfl rfl rfl rfl rfl (by decide +kernel) ?_; refine A_at 12 rfl rfl ?_; refine A_q (m' := 8191) rfl rfl rfl (Q_pick_f rfl rfl rfl) rfl (by decide +kernel) ?_; refine A_at 13 rfl rfl ?_; refine A_q (m' := 16383) rfl rfl rfl (Q_move rfl rfl) rfl (by decide +kernel) ?_; refine A_at 14 rfl rfl ?_; refine A_gn (m' := 32767) rfl rfl rfl rfl rfl rfl rfl (by decide +kernel) ?_; refine A_at 15 rfl rfl ?_; refine A_gn (m' := 65535) rfl rfl rfl rfl rfl rfl rfl (by decide +kernel) ?_; refine A_at 16 rfl rfl ?_; refine A_gn (m' := 131071) rfl rfl rfl rfl rfl rfl rfl (by decide +kernel) ?_; refine A_at 17 rfl rfl ?_; refine A_q (m' := 262143) rfl rfl rfl (Q_pick_f rfl rfl rfl) rfl (by decide +kernel) ?_; refine A_done (by decide +kernel) ?_; refine then_n ?_; refine cond_f rfl ?_; refine WP_skip ?_; refine then_n ?_; refine R_region ?_; refine Sf rfl rfl rfl rfl rfl (fld rfl rfl) ?_; refine S_load rfl rfl rfl rfl rfl ?_; refine L_one (Rd.own m1) (ty rfl) ?_; refine S_load rfl rfl rfl rfl rfl ?_; refine L_agg (Rd.own m0) (ty rfl) (by first | rfl | assumption) ?_; refine S_c rfl rfl rfl (C_buildSlice rfl (elm rfl) (zer rfl) rfl ⟨_, _, _, rfl, rfl, rfl, rfl, rfl, rfl⟩ rfl rfl ?_); intro b15_6; refine S_w rfl rfl rfl (W_app1 [_, _] _ hO rfl rfl rfl rfl rfl rfl (elm rfl) (zer rfl) rfl rfl rfl rfl ⟨_, _, rfl, by assumption⟩ (by (try simp only [lA]); omega) (by (try simp only [lA]); omega) ?_); rintro p15_7 q15_7 m15_7 o15_7; refine Sf rfl rfl rfl rfl rfl (fld rfl rfl) ?_; refine S_w0 rfl rfl (W_one rfl rfl rfl (ty rfl) u1 rfl rfl rfl ?_); refine OPS_nil ?_; refine block_n ?_; refine then_n ?_; refine R_region ?_; refine S_q rfl rfl rfl (Q_add rfl rfl rfl (by omega)) ?_; refine Sm rfl ?_; refine OPS_nil ?_)); rotate_left 1))
            all_goals exact roundF_n (j + 1, out ++ [⟨(i1, i2), kd, cl, fs⟩], _, _, _, ch) (by simp only; omega) ⟨hl3, by simp only; omega, hmt.symm, hat2.symm, by assumption⟩ (by repeat' first | exact sR _ | exact sA _ _ | exact sN _ | apply s2 | apply s1) (by repeat' first | exact trivial | refine ⟨rfl, ?_⟩)
          · subst hne
            (focus (refine Wr ?_; refine Sc rfl rfl rfl rfl rfl rfl rfl ?_; refine On ?_; refine WP_seq ?_; refine WP_cond rfl (fun c16_1 => ?_) (fun c16_1 => ?_) <;> (first | (simp [*] at c16_1; done) | (try simp at c16_1)); refine WP_skip ?_; refine then_n ?_; refine WP_seq ?_; refine WP_block ?_; refine Wr ?_; refine S_q rfl rfl rfl (Q_indexS ‹_› ‹_› rfl rfl rfl (elm rfl) rfl) ?_; refine S_load rfl rfl rfl rfl rfl ?_; refine L_elA ‹_› ‹_› (ty rfl) ?_; rintro _ _ _ ⟨pn16_2, qn16_2, rfl, fn16_2⟩; refine S_c rfl rfl rfl (C_alloc rfl (zer rfl) ?_); intro b16_3; refine S_w0 rfl rfl (W_all rfl rfl rfl (ty rfl) u0 (by first | rfl | assumption) (by first | rfl | assumption) (by first | rfl | assumption | exact ones_sub ‹_› _ _) ?_); refine On ?_; refine WP_seq ?_; refine WP_seq ?_; refine R_draw (n := 18) mixed rfl ?_; refine A_at 0 rfl rfl ?_; refine A_q (m' := 1) rfl rfl rfl (Q_fieldAddr rfl rfl (fld rfl rfl)) rfl (by decide +kernel) ?_; refine A_at 1 rfl rfl ?_; refine A_load (m' := 3) rfl rfl rfl rfl rfl rfl (by decide +kernel) ?_; refine L_sub (Rd.own m0) (ty rfl) rfl ?_; refine A_at 2 rfl rfl ?_; refine A_q (m' := 7) rfl rfl rfl (Q_move rfl rfl) rfl (by decide +kernel) ?_; refine A_at 3 rfl rfl ?_; refine A_q (m' := 15) rfl rfl rfl (Q_move rfl rfl) rfl (by decide +kernel) ?_; refine A_at 4 rfl rfl ?_; refine A_q (m' := 31) rfl rfl rfl (Q_indexS ‹_› ‹_› rfl rfl rfl (elm rfl) rfl) rfl (by decide +kernel) ?_; refine A_at 5 rfl rfl ?_; refine A_load (m' := 63) rfl rfl rfl rfl rfl rfl (by decide +kernel) ?_; refine L_elA ‹_› ‹_› (ty rfl) ?_; rintro _ _ _ rfl; refine A_at 6 rfl rfl ?_; refine A_q (m' := 127) rfl rfl rfl (Q_eqI eqID rfl rfl rfl rfl rfl) rfl (by decide +kernel) ?_; refine A_at 7 rfl rfl ?_; refine A_q (m' := 255) rfl rfl rfl (Q_move rfl rfl) rfl (by decide +kernel) ?_; refine A_at 8 rfl rfl ?_; refine A_gsplit rfl rfl rfl rfl (fun c16_5 => ?_) (fun c16_5 => ?_) <;> (first | (simp [*] at c16_5; done) | (try simp at c16_5)); (focus (refine A_at 8 rfl rfl ?_; refine A_gq (m' := 511) rfl rfl rfl rfl rfl rfl (Q_fieldAddr rfl rfl (fld rfl rfl)) rfl (by decide +kernel) ?_; refine A_at 9 rfl rfl ?_; refine A_gload (m' := 1023) rfl rfl rfl rfl rfl rfl rfl rfl rfl (by decide +kernel) ?_; refine L_fld (Rd.own m0) (ty rfl) rfl ?_; refine A_at 10 rfl rfl ?_; refine A_gq (m' := 2047) rfl rfl rfl rfl rfl rfl (Q_len rfl rfl rfl rfl rfl rfl) rfl (by decide +kernel) ?_; refine A_at 11 rfl rfl ?_; refine A_gq (m' := 4095) rfl rfl rfl rfl rfl rfl (Q_cmp rfl rfl rfl rfl) rfl (by decide +kernel) ?_; refine A_at 12 rfl rfl ?_; refine A_q (m' := 8191) rfl rfl rfl (Q_pick_t rfl rfl rfl) rfl (by decide +kernel) ?_; refine A_at 13 rfl rfl ?_; refine A_q (m' := 16383) rfl rfl rfl (Q_move rfl rfl) rfl (by decide +kernel) ?_; refine A_at 14 rfl rfl ?_; refine A_gsplit rfl rfl rfl rfl (fun c16_6 => ?_) (fun c16_6 => ?_) <;> (first | (simp [*] at c16_6; done) | (try simp at c16_6)); refine A_at 14 rfl rfl ?_; refine A_gn (m' := 32767) rfl rfl rfl rfl rfl rfl rfl (by decide +kernel) ?_; refine A_at 15 rfl rfl ?_; refine A_gn (m' := 65535) rfl rfl rfl rfl rfl rfl rfl (by decide +kernel) ?_; refine A_at 16 rfl rfl ?_; refine A_gn (m' := 131071) rfl rfl rfl rfl rfl rfl rfl (by decide +kernel) ?_; refine A_at 17 rfl rfl ?_; refine A_q (m' := 262143) rfl rfl rfl (Q_pick_f rfl rfl rfl) rfl (by decide +kernel) ?_; refine A_done (by decide +kernel) ?_; refine then_n ?_; refine cond_f rfl ?_; refine WP_skip ?_; refine then_n ?_; refine R_region ?_; refine Sf rfl rfl rfl rfl rfl (fld rfl rfl) ?_; refine S_load rfl rfl rfl rfl rfl ?_; refine L_one (Rd.own m1) (ty rfl) ?_; refine S_load rfl rfl rfl rfl rfl ?_; refine L_agg (Rd.own m0) (ty rfl) (by first | rfl | assumption) ?_; refine S_c rfl rfl rfl (C_buildSlice rfl (elm rfl) (zer rfl) rfl ⟨_, _, _, rfl, rfl, rfl, rfl, rfl, rfl⟩ rfl rfl ?_); intro b16_7; refine S_w rfl rfl rfl (W_app1 [_, _] _ hO rfl rfl rfl rfl rfl rfl (elm rfl) (zer rfl) rfl rfl rfl rfl ⟨_, _, rfl, by assumption⟩ (by (try simp only [lA]); omega) (by (try simp only [lA]); omega) ?_); rintro p16_8 q16_8 m16_8 o16_8; refine Sf rfl rfl rfl rfl rfl (fld rfl rfl) ?_; refine S_w0 rfl rfl (W_one rfl rfl rfl (ty rfl) u1 rfl rfl rfl ?_); refine OPS_nil ?_; refine block_n ?_; refine then_n ?_; refine R_region ?_; refine S_q rfl rfl rfl (Q_add rfl rfl rfl (by omega)) ?_; refine Sm rfl ?_; refine OPS_nil ?_)); rotate_left 1; (focus (refine A_at 8 rfl rfl ?_; refine A_gn (m' := 511) rfl rfl rfl rfl rfl rfl rfl (by decide +kernel) ?_; refine A_at 9 rfl rfl ?_; refine A_gn (m' := 1023) rfl rfl rfl rfl rfl rfl rfl (by decide +kernel) ?_; refine A_at 10 rfl rfl ?_; refine A_gn (m' := 2047) rfl rfl rfl rfl rfl rfl rfl (by decide +kernel) ?_; refine A_at 11 rfl rfl ?_; refine A_gn (m' := 4095) rfl rfl rfl rfl rfl rfl rfl (by decide +kernel) ?_; refine A_at 12 rfl rfl ?_; refine A_q (m' := 8191) rfl rfl rfl (Q_pick_f rfl rfl rfl) rfl (by decide +kernel) ?_; refine A_at 13 rfl rfl ?_; refine A_q (m' := 16383) rfl rfl rfl (Q_move rfl rfl) rfl (by decide +kernel) ?_; refine A_at 14 rfl rfl ?_; refine A_gn (m' := 32767) rfl rfl rfl rfl rfl rfl rfl (by decide +kernel) ?_; refine A_at 15 rfl rfl ?_; refine A_gn (m' := 65535) rfl rfl rfl rfl rfl rfl rfl (by decide +kernel) ?_; refine A_at 16 rfl rfl ?_; refine A_gn (m' := 131071) rfl rfl rfl rfl rfl rfl rfl (by decide +kernel) ?_; refine A_at 17 rfl rfl ?_; refine A_q (m' := 262143) rfl rfl rfl (Q_pick_f rfl rfl rfl) rfl (by decide +kernel) ?_; refine A_done (by decide +kernel) ?_; refine then_n ?_; refine cond_f rfl ?_; refine WP_skip ?_; refine then_n ?_; refine R_region ?_; refine Sf rfl rfl rfl rfl rfl (fld rfl rfl) ?_; refine S_load rfl rfl rfl rfl rfl ?_; refine L_one (Rd.own m1) (ty rfl) ?_; refine S_load rfl rfl rfl rfl rfl ?_; refine L_agg (Rd.own m0) (ty rfl) (by first | rfl | assumption) ?_; refine S_c rfl rfl rfl (C_buildSlice rfl (elm rfl) (zer rfl) rfl ⟨_, _, _, rfl, rfl, rfl, rfl, rfl, rfl⟩ rfl rfl ?_); intro b16_9; refine S_w rfl rfl rfl (W_app1 [_, _] _ hO rfl rfl rfl rfl rfl rfl (elm rfl) (zer rfl) rfl rfl rfl rfl ⟨_, _, rfl, by assumption⟩ (by (try simp only [lA]); omega) (by (try simp only [lA]); omega) ?_); rintro p16_10 q16_10 m16_10 o16_10; refine Sf rfl rfl rfl rfl rfl (fld rfl rfl) ?_; refine S_w0 rfl rfl (W_one rfl rfl rfl (ty rfl) u1 rfl rfl rfl ?_); refine OPS_nil ?_; refine block_n ?_; refine then_n ?_; refine R_region ?_; refine S_q rfl rfl rfl (Q_add rfl rfl rfl (by omega)) ?_; refine Sm rfl ?_; refine OPS_nil ?_)); rotate_left 1))
            all_goals exact roundF_n (j + 1, out ++ [⟨(i1, i2), kd, cl, []⟩], _, _, _, ch) (by simp only; omega) ⟨hl3, by simp only; omega, hmt.symm, hat2.symm, by assumption⟩ (by repeat' first | exact sR _ | exact sA _ _ | exact sN _ | apply s2 | apply s1) (by repeat' first | exact trivial | refine ⟨rfl, ?_⟩)
          · subst hne
            (focus (refine Wr ?_; refine Sc rfl rfl rfl rfl rfl rfl rfl ?_; refine On ?_; refine WP_seq ?_; refine WP_cond rfl (fun c17_1 => ?_) (fun c17_1 => ?_) <;> (first | (simp [*] at c17_1; done) | (try simp at c17_1)); refine WP_skip ?_; refine then_n ?_; refine WP_seq ?_; refine WP_block ?_; refine Wr ?_; refine S_q rfl rfl rfl (Q_indexS ‹_› ‹_› rfl rfl rfl (elm rfl) rfl) ?_; refine S_load rfl rfl rfl rfl rfl ?_; refine L_elA ‹_› ‹_› (ty rfl) ?_; rintro _ _ _ ⟨pn17_2, qn17_2, rfl, fn17_2⟩; refine S_c rfl rfl rfl (C_alloc rfl (zer rfl) ?_); intro b17_3; refine S_w0 rfl rfl (W_all rfl rfl rfl (ty rfl) u0 (by first | rfl | assumption) (by first | rfl | assumption) (by first | rfl | assumption | exact ones_sub ‹_› _ _) ?_); refine On ?_; refine WP_seq ?_; refine WP_seq ?_; refine R_draw (n := 18) mixed rfl ?_; refine A_at 0 rfl rfl ?_; refine A_q (m' := 1) rfl rfl rfl (Q_fieldAddr rfl rfl (fld rfl rfl)) rfl (by decide +kernel) ?_; refine A_at 1 rfl rfl ?_; refine A_load (m' := 3) rfl rfl rfl rfl rfl rfl (by decide +kernel) ?_; refine L_sub (Rd.own m0) (ty rfl) rfl ?_; refine A_at 2 rfl rfl ?_; refine A_q (m' := 7) rfl rfl rfl (Q_move rfl rfl) rfl (by decide +kernel) ?_; refine A_at 3 rfl rfl ?_; refine A_q (m' := 15) rfl rfl rfl (Q_move rfl rfl) rfl (by decide +kernel) ?_; refine A_at 4 rfl rfl ?_; refine A_q (m' := 31) rfl rfl rfl (Q_indexS ‹_› ‹_› rfl rfl rfl (elm rfl) rfl) rfl (by decide +kernel) ?_; refine A_at 5 rfl rfl ?_; refine A_load (m' := 63) rfl rfl rfl rfl rfl rfl (by decide +kernel) ?_; refine L_elA ‹_› ‹_› (ty rfl) ?_; rintro _ _ _ rfl; refine A_at 6 rfl rfl ?_; refine A_q (m' := 127) rfl rfl rfl (Q_eqI eqID rfl rfl rfl rfl rfl) rfl (by decide +kernel) ?_; refine A_at 7 rfl rfl ?_; refine A_q (m' := 255) rfl rfl rfl (Q_move rfl rfl) rfl (by decide +kernel) ?_; refine A_at 8 rfl rfl ?_; refine A_gsplit rfl rfl rfl rfl (fun c17_5 => ?_) (fun c17_5 => ?_) <;> (first | (simp [*] at c17_5; done) | (try simp at c17_5)); (focus (refine A_at 8 rfl rfl ?_; refine A_gq (m' := 511) rfl rfl rfl rfl rfl rfl (Q_fieldAddr rfl rfl (fld rfl rfl)) rfl (by decide +kernel) ?_; refine A_at 9 rfl rfl ?_; refine A_gload (m' := 1023) rfl rfl rfl rfl rfl rfl rfl rfl rfl (by decide +kernel) ?_; refine L_fld (Rd.own m0) (ty rfl) rfl ?_; refine A_at 10 rfl rfl ?_; refine A_gq (m' := 2047) rfl rfl rfl rfl rfl rfl (Q_len rfl rfl rfl rfl rfl rfl) rfl (by decide +kernel) ?_; refine A_at 11 rfl rfl ?_; refine A_gq (m' := 4095) rfl rfl rfl rfl rfl rfl (Q_cmp rfl rfl rfl rfl) rfl (by decide +kernel) ?_; refine A_at 12 rfl rfl ?_; refine A_q (m' := 8191) rfl rfl rfl (Q_pick_t rfl rfl rfl) rfl (by decide +kernel) ?_; refine A_at 13 rfl rfl ?_; refine A_q (m' := 16383) rfl rfl rfl (Q_move rfl rfl) rfl (by decide +kernel) ?_; refine A_at 14 rfl rfl ?_; refine A_gsplit rfl rfl rfl rfl (fun c17_6 => ?_) (fun c17_6 => ?_) <;> (first | (simp [*] at c17_6; done) | (try simp at c17_6)); (focus (refine A_at 14 rfl rfl ?_; refine A_gq (m' := 32767) rfl rfl rfl rfl rfl rfl (Q_fieldAddr rfl rfl (fld rfl rfl)) rfl (by decide +kernel) ?_; refine A_at 15 rfl rfl ?_; refine A_gload (m' := 65535) rfl rfl rfl rfl rfl rfl rfl rfl rfl (by decide +kernel) ?_; refine L_fld (Rd.own m0) (ty rfl) rfl ?_; refine A_at 16 rfl rfl ?_; refine A_gq (m' := 131071) rfl rfl rfl rfl rfl rfl (Q_cmp rfl rfl rfl rfl) rfl (by decide +kernel) ?_; refine A_at 17 rfl rfl ?_; refine A_q (m' := 262143) rfl rfl rfl (Q_pick_t rfl rfl rfl) rfl (by decide +kernel) ?_; refine A_done (by decide +kernel) ?_; refine then_n ?_; refine cond_f rfl ?_; refine WP_skip ?_; refine then_n ?_; refine R_region ?_; refine Sf rfl rfl rfl rfl rfl (fld rfl rfl) ?_; refine S_load rfl rfl rfl rfl rfl ?_; refine L_one (Rd.own m1) (ty rfl) ?_; refine S_load rfl rfl rfl rfl rfl ?_; refine L_agg (Rd.own m0) (ty rfl) (by first | rfl | assumption) ?_; refine S_c rfl rfl rfl (C_buildSlice rfl (elm rfl) (zer rfl) rfl ⟨_, _, _, rfl, rfl, rfl, rfl, rfl, rfl⟩ rfl rfl ?_); intro b17_7; refine S_w rfl rfl rfl (W_app1 [_, _] _ hO rfl rfl rfl rfl rfl rfl (elm rfl) (zer rfl) rfl rfl rfl rfl ⟨_, _, rfl, by assumption⟩ (by (try simp only [lA]); omega) (by (try simp only [lA]); omega) ?_); rintro p17_8 q17_8 m17_8 o17_8; refine Sf rfl rfl rfl rfl rfl (fld rfl rfl) ?_; refine S_w0 rfl rfl (W_one rfl rfl rfl (ty rfl) u1 rfl rfl rfl ?_); refine OPS_nil ?_; refine block_n ?_; refine then_n ?_; refine R_region ?_; refine S_q rfl rfl rfl (Q_add rfl rfl rfl (by omega)) ?_; refine Sm rfl ?_; refine OPS_nil ?_)); rotate_left 1; (focus (refine A_at 14 rfl rfl ?_; refine A_gn (m' := 32767) rfl rfl rfl rfl rfl rfl rfl (by decide +kernel) ?_; refine A_at 15 rfl rfl ?_; refine A_gn (m' := 65535) rfl rfl rfl rfl rfl rfl rfl (by decide +kernel) ?_; refine A_at 16 rfl rfl ?_; refine A_gn (m' := 131071) rfl rfl rfl rfl rfl rfl rfl (by decide +kernel) ?_; refine A_at 17 rfl rfl ?_; refine A_q (m' := 262143) rfl rfl rfl (Q_pick_f rfl rfl rfl) rfl (by decide +kernel) ?_; refine A_done (by decide +kernel) ?_; refine then_n ?_; refine cond_f rfl ?_; refine WP_skip ?_; refine then_n ?_; refine R_region ?_; refine Sf rfl rfl rfl rfl rfl (fld rfl rfl) ?_; refine S_load rfl rfl rfl rfl rfl ?_; refine L_one (Rd.own m1) (ty rfl) ?_; refine S_load rfl rfl rfl rfl rfl ?_; refine L_agg (Rd.own m0) (ty rfl) (by first | rfl | assumption) ?_; refine S_c rfl rfl rfl (C_buildSlice rfl (elm rfl) (zer rfl) rfl ⟨_, _, _, rfl, rfl, rfl, rfl, rfl, rfl⟩ rfl rfl ?_); intro b17_9; refine S_w rfl rfl rfl (W_app1 [_, _] _ hO rfl rfl rfl rfl rfl rfl (elm rfl) (zer rfl) rfl rfl rfl rfl ⟨_, _, rfl, by assumption⟩ (by (try simp only [lA]); omega) (by (try simp only [lA]); omega) ?_); rintro p17_10 q17_10 m17_10 o17_10; refine Sf rfl rfl rfl rfl rfl (fld rfl rfl) ?_; refine S_w0 rfl rfl (W_one rfl rfl rfl (ty rfl) u1 rfl rfl rfl ?_); refine OPS_nil ?_; refine block_n ?_; refine then_n ?_; refine R_region ?_; refine S_q rfl rfl rfl (Q_add rfl rfl rfl (by omega)) ?_; refine Sm rfl ?_; refine OPS_nil ?_)); rotate_left 1)); rotate_left 2; (focus (refine A_at 8 rfl rfl ?_; refine A_gn (m' := 511) rfl rfl rfl rfl rfl rfl rfl (by decide +kernel) ?_; refine A_at 9 rfl rfl ?_; refine A_gn (m' := 1023) rfl rfl rfl rfl rfl rfl rfl (by decide +kernel) ?_; refine A_at 10 rfl rfl ?_; refine A_gn (m' := 2047) rfl rfl rfl rfl rfl rfl rfl (by decide +kernel) ?_; refine A_at 11 rfl rfl ?_; refine A_gn (m' := 4095) rfl rfl rfl rfl rfl rfl rfl (by decide +kernel) ?_; refine A_at 12 rfl rfl ?_; refine A_q (m' := 8191) rfl rfl rfl (Q_pick_f rfl rfl rfl) rfl (by decide +kernel) ?_; refine A_at 13 rfl rfl ?_; refine A_q (m' := 16383) rfl rfl rfl (Q_move rfl rfl) rfl (by decide +kernel) ?_; refine A_at 14 rfl rfl ?_; refine A_gn (m' := 32767) rfl rfl rfl rfl rfl rfl rfl (by decide +kernel) ?_; refine A_at 15 rfl rfl ?_; refine A_gn (m' := 65535) rfl rfl rfl rfl rfl rfl rfl (by decide +kernel) ?_; refine A_at 16 rfl rfl ?_; refine A_gn (m' := 131071) rfl rfl rfl rfl rfl rfl rfl (by decide +kernel) ?_; refine A_at 17 rfl rfl ?_; refine A_q (m' := 262143) rfl rfl rfl (Q_pick_f rfl rfl rfl) rfl (by decide +kernel) ?_; refine A_done (by decide +kernel) ?_; refine then_n ?_; refine cond_f rfl ?_; refine WP_skip ?_; refine then_n ?_; refine R_region ?_; refine Sf rfl rfl rfl rfl rfl (fld rfl rfl) ?_; refine S_load rfl rfl rfl rfl rfl ?_; refine L_one (Rd.own m1) (ty rfl) ?_; refine S_load rfl rfl rfl rfl rfl ?_; refine L_agg (Rd.own m0) (ty rfl) (by first | rfl | assumption) ?_; refine S_c rfl rfl rfl (C_buildSlice rfl (elm rfl) (zer rfl) rfl ⟨_, _, _, rfl, rfl, rfl, rfl, rfl, rfl⟩ rfl rfl ?_); intro b17_11; refine S_w rfl rfl rfl (W_app1 [_, _] _ hO rfl rfl rfl rfl rfl rfl (elm rfl) (zer rfl) rfl rfl rfl rfl ⟨_, _, rfl, by assumption⟩ (by (try simp only [lA]); omega) (by (try simp only [lA]); omega) ?_); rintro p17_12 q17_12 m17_12 o17_12; refine Sf rfl rfl rfl rfl rfl (fld rfl rfl) ?_; refine S_w0 rfl rfl (W_one rfl rfl rfl (ty rfl) u1 rfl rfl rfl ?_); refine OPS_nil ?_; refine block_n ?_; refine then_n ?_; refine R_region ?_; refine S_q rfl rfl rfl (Q_add rfl rfl rfl (by omega)) ?_; refine Sm rfl ?_; refine OPS_nil ?_)); rotate_left 1))
            all_goals exact roundF_n (j + 1, out ++ [⟨(i1, i2), 2, cl, fs⟩], _, _, _, ch) (by simp only; omega) ⟨hl3, by simp only; omega, hmt.symm, hat2.symm, by assumption⟩ (by repeat' first | exact sR _ | exact sA _ _ | exact sN _ | apply s2 | apply s1) (by repeat' first | exact trivial | refine ⟨rfl, ?_⟩)
      have hge : j = (graphR vs).1.length := by omega
      subst hge
      rw [List.take_length] at hout hch
      refine WP_keepM [_] M _ rfl fun h4 hl4 hm4 => ?_
      have hN : SL h4 5 (NodeC 4398046511104) (.slice p out.length c) out := hO.sl hl4 (NodeC_mono _) hm4 (by omega)
      clear hO hm4
      (replace a2_k := a2_k.up hl4; replace f1_4 := f1_4.up hl4; replace fg1_2 := fg1_2.up hl4; replace hB := hB.up hl4; replace hs := hs.up hl4)
      cases ch with
      | false =>
        (focus (refine Wr ?_; refine Sc rfl rfl rfl rfl rfl rfl rfl ?_; refine On ?_; refine WP_seq ?_; refine WP_cond rfl (fun c19_1 => ?_) (fun c19_1 => ?_) <;> (first | (simp [*] at c19_1; done) | (try simp at c19_1)); refine WP_exit ?_; refine then_e ?_; refine roundF_e ?_; refine block_e ?_; refine then_n ?_; refine Wr ?_; refine Sm rfl ?_; refine S_q rfl rfl rfl (Q_not rfl rfl) ?_; refine Sm rfl ?_; refine S_gsplit rfl rfl rfl rfl (fun c19_2 => ?_) (fun c19_2 => ?_) <;> (first | (simp [*] at c19_2; done) | (try simp at c19_2)); refine Sn rfl ?_; refine Sn rfl ?_; refine Sn rfl ?_; refine Sn rfl ?_; refine Sn rfl ?_; refine S_q rfl rfl rfl (Q_pick_t rfl rfl rfl) ?_; refine Sm rfl ?_; refine On ?_; refine WP_ret ?_))
        refine pret (.inl rfl) rfl ⟨_, _, rfl, rfl, rfl⟩ ?_
        rfl
      | true =>
        have hchg := agreesB_chg (ids := reachR vs) he hSN hdm hch.symm
        rw [← hout] at hchg
        (focus (refine Wr ?_; refine Sc rfl rfl rfl rfl rfl rfl rfl ?_; refine On ?_; refine WP_seq ?_; refine WP_cond rfl (fun c20_1 => ?_) (fun c20_1 => ?_) <;> (first | (simp [*] at c20_1; done) | (try simp at c20_1)); refine WP_exit ?_; refine then_e ?_; refine roundF_e ?_; refine block_e ?_; refine then_n ?_; refine Wr ?_; refine Sm rfl ?_; refine S_q rfl rfl rfl (Q_not rfl rfl) ?_; refine Sm rfl ?_; refine S_gsplit rfl rfl rfl rfl (fun c20_2 => ?_) (fun c20_2 => ?_) <;> (first | (simp [*] at c20_2; done) | (try simp at c20_2)); refine S_gq rfl rfl rfl rfl rfl rfl (Q_move rfl rfl) ?_; refine S_gload rfl rfl rfl rfl rfl rfl rfl rfl ?_; refine L_agg (Rd.own m0) (ty rfl) (by first | rfl | assumption) ?_; refine S_gq rfl rfl rfl rfl rfl rfl (Q_move rfl rfl) ?_; refine S_gc rfl rfl rfl rfl rfl rfl (C_callv (agrees_s ‹_› ‹_› ⟨_, _, rfl, by assumption⟩ ‹_› (by omega)) rfl rfl ⟨_, _, rfl, ⟨_, _, rfl, ⟨_, _, rfl, rfl, rfl⟩, rfl⟩, rfl⟩ (cal rfl) ?_); refine S_gq rfl rfl rfl rfl rfl rfl (Q_not rfl rfl) ?_; refine S_q rfl rfl rfl (Q_pick_f rfl rfl rfl) ?_; refine Sm rfl ?_; refine On ?_; refine WP_ret ?_))
        refine pret (.inl rfl) rfl ⟨_, _, rfl, rfl, rfl⟩ ?_
        simp only [resOf]; rw [hchg]; rfl
    · have herr := agreesB_err (g := (graphR vs).1) (ids := reachR vs) he
      (focus (refine Wr ?_; refine Sm rfl ?_; refine On ?_; refine WP_seq ?_; refine Wr ?_; refine S_c rfl rfl rfl (C_callv (awake_s) rfl rfl rfl (cal rfl) ?_); refine S_q rfl rfl rfl (Q_not rfl rfl) ?_; refine On ?_; refine cond_f rfl ?_; refine WP_skip ?_; refine then_n ?_; refine WP_seq ?_; refine Wr ?_; refine Sm rfl ?_; refine S_c rfl rfl rfl (C_callv (few_s ‹_›) rfl rfl ⟨_, _, rfl, rfl, rfl⟩ (cal rfl) ?_); refine S_q rfl rfl rfl (Q_not rfl rfl) ?_; refine On ?_; refine WP_cond rfl (fun c21_1 => ?_) (fun c21_1 => ?_) <;> (first | (simp [*] at c21_1; done) | (try simp at c21_1)); refine WP_skip ?_; refine then_n ?_; refine Wr ?_; refine Sm rfl ?_; refine S_c rfl rfl rfl (C_call (graph_s ‹_› ‹_›) rfl rfl ⟨_, _, rfl, rfl, rfl⟩ (cal rfl) ?_); rintro h21_2 _ l21_2 ⟨_, rfl, pg21_2, qg21_2, rfl, fg21_2⟩; replace hB := hB.up l21_2; replace hs := hs.up l21_2; refine Sm rfl ?_; refine S_q rfl rfl rfl (Q_extract rfl rfl rfl) ?_; refine S_q rfl rfl rfl (Q_extract rfl rfl rfl) ?_; refine S_c rfl rfl rfl (C_alloc rfl (zer rfl) ?_); intro b21_3; refine S_w0 rfl rfl (W_all rfl rfl rfl (ty rfl) u0 (by first | rfl | assumption) (by first | rfl | assumption) (by first | rfl | assumption | exact ones_sub ‹_› _ _) ?_); refine Sm rfl ?_; refine On ?_; refine Wr ?_; refine Sm rfl ?_; refine S_c rfl rfl rfl (C_call (reachableC_s ‹_› ‹_›) rfl rfl ⟨_, _, rfl, rfl, rfl⟩ (cal rfl) ?_); rintro h21_4 _ l21_4 ⟨p21_4, q21_4, rfl, f21_4, g21_4⟩; replace fg21_2 := fg21_2.up l21_4; replace hB := hB.up l21_4; replace hs := hs.up l21_4; refine Sm rfl ?_; refine On ?_; refine WP_seq ?_; refine Wr ?_; refine Sm rfl ?_; refine Sc rfl rfl rfl rfl rfl rfl rfl ?_; refine On ?_; refine WP_cond rfl (fun c21_5 => ?_) (fun c21_5 => ?_) <;> (first | (simp [*] at c21_5; done) | (try simp at c21_5)); refine Wr ?_; refine Sm rfl ?_; refine S_load rfl rfl rfl rfl rfl ?_; refine L_agg (Rd.own m0) (ty rfl) (by first | rfl | assumption) ?_; refine Sm rfl ?_; refine S_c rfl rfl rfl (C_callv (agrees_s ‹_› ‹_› ⟨_, _, rfl, by assumption⟩ ‹_› (by omega)) rfl rfl ⟨_, _, rfl, ⟨_, _, rfl, ⟨_, _, rfl, rfl, rfl⟩, rfl⟩, rfl⟩ (cal rfl) ?_); refine S_q rfl rfl rfl (Q_not rfl rfl) ?_; refine Sm rfl ?_; refine On ?_; refine WP_ret ?_; refine then_r ?_))
      refine pret (.inl rfl) rfl ⟨_, _, rfl, rfl, rfl⟩ ?_
      simp only [resOf]; rw [herr]; rfl
  · (focus (refine Wr ?_; refine Sm rfl ?_; refine On ?_; refine WP_seq ?_; refine Wr ?_; refine S_c rfl rfl rfl (C_callv (awake_s) rfl rfl rfl (cal rfl) ?_); refine S_q rfl rfl rfl (Q_not rfl rfl) ?_; refine On ?_; refine cond_f rfl ?_; refine WP_skip ?_; refine then_n ?_; refine WP_seq ?_; refine Wr ?_; refine Sm rfl ?_; refine S_c rfl rfl rfl (C_callv (few_s ‹_›) rfl rfl ⟨_, _, rfl, rfl, rfl⟩ (cal rfl) ?_); refine S_q rfl rfl rfl (Q_not rfl rfl) ?_; refine On ?_; refine WP_cond rfl (fun c22_1 => ?_) (fun c22_1 => ?_) <;> (first | (simp [*] at c22_1; done) | (try simp at c22_1)); refine Wr ?_; refine Sm rfl ?_; refine On ?_; refine WP_ret ?_; refine then_r ?_))
    refine pret (.inl rfl) rfl ⟨_, _, rfl, rfl, rfl⟩ ?_
    rfl
end Go.Proofs.YtfhoecgiahpddaaGreat
/-
  HOW THE DATA THAT A ROW SPEAKS OF ARE OPENED: from a value's reading to its cells, in the words of the logic.
-/
set_option linter.all false
namespace Go.Mesh
open Go.RowKit
set_option linter.unusedVariables false
section
variable {H : Type} {enc : TypeId × Value → H} {P : Program} {w : World} {t e : TypeId} {cs : List Value}
def TR (enc : TypeId × Value → H) (P : Program) (w : World) (t : TypeId) (cs : List Value) : Prop := ∃ fuel x, DataW.trod enc P w 0 (fun _ => true) true fuel t cs = some x
/-- the whole heap: nobody writes it -/
def hpOf (w : World) : Frag := fun b => w.heap[b]?
theorem Holds.all (w : World) : Holds (hpOf w) [] w := ⟨⟨fun _ _ e => e, by simp⟩, List.nodup_nil, by simp⟩
theorem TR.int {k : IntKind} (h : TR enc P w t cs) (ht : P.underlying t = some (.int k)) : ∃ n, cs = [.int k n] ∧ (Lit.int k n).wf = true := by
  obtain ⟨_, _, h⟩ := h
  obtain ⟨n, e, _, hw⟩ := DataW.trod_int ht h
  exact ⟨n, e, hw⟩
theorem TR.bool (h : TR enc P w t cs) (ht : P.underlying t = some .bool) : ∃ b, cs = [.bool b] := by
  obtain ⟨_, _, h⟩ := h
  obtain ⟨b, e, _⟩ := DataW.trod_bool ht h
  exact ⟨b, e⟩
theorem TR.str (h : TR enc P w t cs) (ht : P.underlying t = some .string) : ∃ s, cs = [.string s] := by
  obtain ⟨_, _, h⟩ := h
  obtain ⟨s, e, _⟩ := DataW.trod_string ht h
  exact ⟨s, e⟩
/-- the cells of fields that lie side by side -/
def Parts (Q : TypeId → List Value → Prop) : List TypeId → List Value → Prop
  | [], cs => cs = []
  | t :: ts, cs => ∃ a b, cs = a ++ b ∧ Q t a ∧ Parts Q ts b
def tilesB (P : Program) : List Field → Nat → Nat → Bool
  | [], cur, tot => Nat.beq cur tot
  | f :: fs, cur, tot => Nat.beq f.offset cur && tilesB P fs (cur + P.cellsOf f.type) tot
theorem tilesB_le : ∀ (l : List Field) (cur tot : Nat), tilesB P l cur tot = true → cur ≤ tot
  | [], cur, tot, h => Nat.le_of_eq (Nat.eq_of_beq_eq_true h)
  | f :: fs, cur, tot, h => by
    simp only [tilesB, Bool.and_eq_true] at h
    have := tilesB_le fs _ _ h.2
    omega
theorem parts_of {Q : TypeId → List Value → Prop} : ∀ (l : List Field) (cur : Nat), tilesB P l cur cs.length = true → (∀ f, f ∈ l → ((cs.drop f.offset).take (P.cellsOf f.type)).length = P.cellsOf f.type → Q f.type ((cs.drop f.offset).take (P.cellsOf f.type))) →
    Parts Q (l.map (·.type)) (cs.drop cur)
  | [], cur, h, _ => by
    have : cur = cs.length := Nat.eq_of_beq_eq_true h
    simp [Parts, this]
  | f :: fs, cur, h, hq => by
    simp only [tilesB, Bool.and_eq_true] at h
    obtain ⟨h1, h2⟩ := h
    have h1 := Nat.eq_of_beq_eq_true h1
    have hle := tilesB_le fs _ _ h2
    have ih := parts_of fs _ h2 fun g hg => hq g (List.mem_cons_of_mem _ hg)
    refine ⟨(cs.drop cur).take (P.cellsOf f.type), cs.drop (cur + P.cellsOf f.type), ?_, ?_, ih⟩
    · rw [← List.drop_drop, List.take_append_drop]
    · have := hq f (List.mem_cons_self ..)
      rw [h1] at this
      exact this (by rw [List.length_take, List.length_drop]; omega)
theorem TR.struct {fs : Array Field} {tys : List TypeId} (h : TR enc P w t cs) (ht : P.underlying t = some (.struct fs)) (hb : tilesB P fs.toList 0 (P.cellsOf t) = true) (hty : fs.toList.map (·.type) = tys) : cs.length = P.cellsOf t ∧ Parts (fun t a => a.length = P.cellsOf t ∧ TR enc P w t a) tys cs := by
  obtain ⟨_, _, h⟩ := h
  obtain ⟨xs, n, _, _, hl, hx, hf⟩ := DataW.trod_struct ht h
  subst hty
  refine ⟨hl, ?_⟩
  have := parts_of (P := P) (Q := fun t a => a.length = P.cellsOf t ∧ TR enc P w t a) (cs := cs) fs.toList 0 (by rw [hl]; exact hb) fun f hm hlen => ?_
  · simpa using this
  · obtain ⟨i, hi⟩ := List.getElem?_of_mem hm
    have hi' : fs[i]? = some f := by simpa using hi
    have := hf i f hi'
    have hlt : i < xs.length := by rw [hx]; exact (Array.getElem?_eq_some_iff.1 hi').1
    rw [List.getElem?_eq_getElem hlt] at this
    exact ⟨hlen, n, _, this⟩
theorem list_of {α : Type} {Q : Nat → α → Prop} : ∀ n, (∀ i, i < n → ∃ y, Q i y) → ∃ xs : List α, xs.length = n ∧ ∀ (i : Nat) y, xs[i]? = some y → Q i y
  | 0, _ => ⟨[], rfl, by simp⟩
  | n + 1, h => by
    obtain ⟨xs, hl, hx⟩ := list_of n fun i hi => h i (by omega)
    obtain ⟨y, hy⟩ := h n (by omega)
    refine ⟨xs ++ [y], by simp [hl], fun i z hz => ?_⟩
    rw [List.getElem?_append] at hz
    split at hz
    · exact hx i z hz
    · rename_i hge
      have hi : i - xs.length = 0 := by
        have := (List.getElem?_eq_some_iff.1 hz).1
        simp at this; omega
      rw [hi] at hz
      simp at hz
      subst hz
      have : i = n := by omega
      rw [this]; exact hy
theorem TR.slice {α : Type} {C : CR α} {k : Nat} (h : TR enc P w t cs) (ht : P.underlying t = some (.slice e)) (hk : P.cellsOf e = k) (h0 : 0 < k)
    (hel : ∀ cs, TR enc P w e cs → ∃ y, cs.length = k ∧ ones cs = true ∧ C (hpOf w) y cs) : ∃ p c, ∃ xs : List α, cs = [.slice p xs.length c] ∧ SLB 9223372036854775807 (hpOf w) k C (.slice p xs.length c) xs := by
  obtain ⟨_, _, h⟩ := h
  rcases DataW.trod_slice ht h with ⟨rfl, _⟩ | ⟨a, len, cap, elems, rest, n, _, rfl, _, _, hlc, hcm, hel2, hget, _⟩
  · exact ⟨none, 0, [], rfl, by simp, .inl ⟨none, 0, rfl, rfl⟩⟩
  · rw [hk] at hget
    by_cases hz : len = 0
    · subst hz
      exact ⟨some a, cap, [], rfl, by simp, .inl ⟨some a, cap, rfl, rfl⟩⟩
    have hcells : ∀ i, i < len → ∃ y, ∃ us : List Value, us.length = k ∧ ones us = true ∧ C (hpOf w) y us ∧ ∀ j, j < k → w.cell? ((a.add (i * k)).add j) = us[j]? := by
      intro i hi
      have hg := hget i hi
      rw [List.getElem?_eq_getElem (by rw [hel2]; exact hi)] at hg
      cases hc : w.cells? 0 (a.add (i * k)) k with
      | none => rw [hc] at hg; cases hg
      | some us =>
        rw [hc] at hg
        obtain ⟨y, hl, ho, hC⟩ := hel us ⟨n, _, hg⟩
        simp only [World.cells?, Nat.zero_le, if_true] at hc
        exact ⟨y, us, hl, ho, hC, fun j hj => mapM_some_get hc j j (by simp [hj])⟩
    obtain ⟨b, off, spot⟩ := a
    have hsp : spot = none := by
      obtain ⟨y, us, hl, _, _, hc⟩ := hcells 0 (by omega)
      have h00 := hc 0 h0
      rw [List.getElem?_eq_getElem (by omega)] at h00
      have hs := World.cell?_spot h00
      simpa [Addr.add] using hs
    subst hsp
    have hone : ∀ i, i < len → ∃ y, ∃ us : List Value, us.length = k ∧ ones us = true ∧ C (hpOf w) y us ∧ At (hpOf w) b (off + i * k) us := by
      intro i hi
      obtain ⟨y, us, hl, ho, hC, hc⟩ := hcells i hi
      refine ⟨y, us, hl, ho, hC, ?_⟩
      have h00 := hc 0 h0
      rw [List.getElem?_eq_getElem (by omega)] at h00
      simp only [addr_add, World.cell?] at hc h00
      cases hb : w.heap[b]? with
      | none => simp only [hb] at h00; cases h00
      | some ob =>
        simp only [hb] at h00 hc
        cases ob with
        | cells arr ty fz =>
          refine ⟨arr, ty, fz, hb, fun j v hv => ?_⟩
          have := hc j (by rw [← hl]; exact (List.getElem?_eq_some_iff.1 hv).1)
          simp only [Option.isSome_none, Bool.false_eq_true, if_false] at this
          rw [this]; exact hv
        | _ => cases h00
    obtain ⟨xs, hl, hx⟩ := list_of len hone
    refine ⟨some ⟨b, off, none⟩, cap, xs, by rw [hl], by rw [hl]; unfold maxLen at hcm; omega, ?_⟩
    exact .inr ⟨b, off, cap, rfl, fun i y hy => hx i y hy⟩
/-- types of which only the cells' form is asked -/
def flatB (P : Program) : Nat → TypeId → Bool
  | 0, _ => false
  | n + 1, t => match P.underlying t with
    | some (.struct fs) => tilesB P fs.toList 0 (P.cellsOf t) && fs.toList.all fun f => flatB P n f.type
    | some (.array ..) => false
    | some _ => true
    | none => false
theorem ones_parts {Q : TypeId → List Value → Prop} (hq : ∀ t a, Q t a → ones a = true) : ∀ (ts : List TypeId) (cs : List Value), Parts Q ts cs → ones cs = true
  | [], _, e => by cases e; rfl
  | t :: ts, _, ⟨a, b, e, h1, h2⟩ => by subst e; exact ones_append (hq t a h1) (ones_parts hq ts b h2)
theorem TR.ones : ∀ (n : Nat) {t : TypeId} {cs : List Value}, TR enc P w t cs → flatB P n t = true → Mesh.ones cs = true
  | 0, _, _, _, hf => by cases hf
  | n + 1, t, cs, h, hf => by
    unfold flatB at hf
    split at hf
    · rename_i fs hu
      rw [Bool.and_eq_true, List.all_eq_true] at hf
      obtain ⟨_, hp⟩ := TR.struct (tys := fs.toList.map (·.type)) h hu hf.1 rfl
      have hmem : ∀ (ts : List TypeId) (cs : List Value), (∀ t, t ∈ ts → flatB P n t = true) → Parts (fun t a => a.length = P.cellsOf t ∧ TR enc P w t a) ts cs → Mesh.ones cs = true := by
        intro ts
        induction ts with
        | nil => intro cs _ e; cases e; rfl
        | cons t ts ih =>
          rintro _ hall ⟨a, b, rfl, ⟨_, h1⟩, h2⟩
          exact ones_append (TR.ones n h1 (hall t (List.mem_cons_self ..))) (ih b (fun u hu => hall u (List.mem_cons_of_mem _ hu)) h2)
      refine hmem _ _ (fun t ht => ?_) hp
      obtain ⟨f, hfm, rfl⟩ := List.mem_map.1 ht
      exact hf.2 f hfm
    · cases hf
    · rename_i d hns hna hu
      obtain ⟨fuel, x, h⟩ := h
      cases fuel with
      | zero => simp [DataW.trod] at h
      | succ m =>
        unfold DataW.trod at h
        rw [hu] at h
        split at h <;> first | rfl | (cases h; done) | (exfalso; simp_all; done) | skip
    · cases hf
end
end Go.Mesh
