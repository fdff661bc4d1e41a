/-
  CONTRACTS: observer.Graph.
-/
import Derived.Test.YtfhoecgiahpddaaGreatRa
set_option linter.all false
namespace Go.Proofs.YtfhoecgiahpddaaGreat
open Go.Mesh Go.RowKit
set_option maxRecDepth 100000
set_option linter.unusedVariables false
set_option maxHeartbeats 4000000
attribute [local irreducible] WP OPS ANY ANYo LG LV FSpec PSpec QOP OPc OPw thenQ blockQ roundQ roundF retQ retM Rd At SLB OS cmpI orI cmpID namedB valB nodeB kindB validG valAux idxI findG zeroV viewOf vwAt idxOf recv flyB scionOf moveOf numberedOf idOf valueOf mget mput localB carriedB stubOf followF followOf flOf flightsOf flPre setL minusL compactL putI mergeN insN insAll unionR NMap Coll retN bodyS GMap Dfs refsV refsOf reachL
/-- the node that a flight moves -/
def movedOf (vs : List View) (i : View × Flight) : Nd := ⟨i.2.msg.parcel.id, i.2.msg.parcel.kind, i.2.msg.parcel.cls, i.2.msg.parcel.fields.map (valueOf vs i.1.machine i.2.to)⟩
def isMove (i : View × Flight) : Bool := decide (i.2.msg.kind = 1)
def movedG (vs : List View) (l : List (View × Flight)) : List (List Nd) := (l.filter isMove).map fun i => [movedOf vs i]
def graphParts (vs : List View) : List (List Nd) := vs.map (·.objects) ++ movedG vs (flightsOf vs)
def graphR (vs : List View) : List Nd × Int := unionR (graphParts vs)
/-- few and small views -/
structure Small (vs : List View) : Prop where
  len : vs.length ≤ 5
  objs : ∀ v, v ∈ vs → v.objects.length ≤ 12
  stubs : ∀ v, v ∈ vs → v.stubs.length ≤ 12
  scions : ∀ v, v ∈ vs → v.scions.length ≤ 12
  names : ∀ v, v ∈ vs → v.names.length ≤ 6
  mail : ∀ v, v ∈ vs → v.mail.length ≤ 6
  flights : ∀ v, v ∈ vs → v.flights.length ≤ 6
  received : ∀ v, v ∈ vs → v.received.length ≤ 10
  fields : ∀ v, v ∈ vs → ∀ n, n ∈ v.objects → n.fields.length ≤ 6
  args : ∀ v, v ∈ vs → ∀ m, m ∈ v.mail → m.args.length ≤ 6
  letter : ∀ v, v ∈ vs → ∀ x, x ∈ v.flights → x.msg.args.length ≤ 6
  moved : ∀ v, v ∈ vs → ∀ x, x ∈ v.flights → x.msg.parcel.fields.length ≤ 6
  pmail : ∀ v, v ∈ vs → ∀ x, x ∈ v.flights → x.msg.parcel.mail.length ≤ 4
  pargs : ∀ v, v ∈ vs → ∀ x, x ∈ v.flights → ∀ m, m ∈ x.msg.parcel.mail → m.length ≤ 6
theorem slb_of_at {α : Type} {B : Nat} {h : Frag} {k : Nat} {C : CR α} {b cap : Nat} {xs : List α} {us : List Value} (ha : At h b 0 us) (hf : Flat h k C xs us) (hm : xs.length ≤ B) : SLB B h k C (.slice (some ⟨b, 0, none⟩) xs.length cap) xs := by
  unfold At at ha
  obtain ⟨arr, t, fz, e, g⟩ := ha
  exact SLB.of_flat e hf g hm
theorem flatMap_le {α β : Type} (f : α → List β) (k : Nat) : ∀ l : List α, (∀ x, x ∈ l → (f x).length ≤ k) → (l.flatMap f).length ≤ l.length * k
  | [], _ => by simp
  | x :: l, h => by
    have h1 := h x (by simp)
    have h2 := flatMap_le f k l fun y hy => h y (by simp [hy])
    simp only [List.flatMap_cons, List.length_append, List.length_cons, Nat.add_mul, Nat.one_mul]
    omega
theorem flightsOf_mem {vs : List View} {i : View × Flight} (h : i ∈ flightsOf vs) : i.1 ∈ vs ∧ i.2 ∈ i.1.flights := by
  simp only [flightsOf, List.mem_flatMap, flOf, List.mem_map, List.mem_filter] at h
  obtain ⟨v, hv, x, ⟨hx, _⟩, rfl⟩ := h
  exact ⟨hv, hx⟩
theorem Small.fl {vs : List View} (s : Small vs) : (flightsOf vs).length ≤ 30 := by
  have := flatMap_le (flOf vs) 6 vs fun v hv => by
    simp only [flOf, List.length_map]
    exact Nat.le_trans (List.length_filter_le _ _) (s.flights v hv)
  have h2 := s.len
  rw [flightsOf]; omega
theorem movedG_snoc (vs : List View) (l : List (View × Flight)) (i : View × Flight) : movedG vs (l ++ [i]) = movedG vs l ++ (if isMove i then [[movedOf vs i]] else []) := by
  simp only [movedG, List.filter_append, List.map_append]
  by_cases h : isMove i = true <;> simp [h]
theorem movedG_len (vs : List View) (l : List (View × Flight)) : (movedG vs l).length ≤ l.length := by simp only [movedG, List.length_map]; exact List.length_filter_le _ _
theorem movedG_flat (vs : List View) (l : List (View × Flight)) : (movedG vs l).flatten.length ≤ l.length := by
  have : (movedG vs l).flatten.length = (movedG vs l).length := by
    rw [movedG]; generalize l.filter isMove = r
    induction r with
    | nil => rfl
    | cons x r ih => simp only [List.map_cons, List.flatten_cons, List.length_append, List.length_cons, List.length_nil] at ih ⊢; omega
  have h2 := movedG_len vs l
  omega
theorem Small.parts {vs : List View} (s : Small vs) : (graphParts vs).flatten.length ≤ 1000000 := by
  have h1 := flatMap_le (fun v : View => v.objects) 12 vs s.objs
  have h2 := movedG_flat vs (flightsOf vs)
  have h3 := s.fl
  have h4 := s.len
  rw [graphParts, List.flatten_append, List.length_append, ← List.flatMap_def]
  omega
attribute [local irreducible] movedOf movedG graphParts graphR isMove
theorem graph_s {h : Frag} {a : Value} {vs : List View} (hs : SL h 13 (ViewC 4398046511104) a vs) (sm : Small vs) : PSpec Tryz.prog 11 #[a] h (fun h' v => ∃ us, v = .tuple #[.agg us.toArray, .int .i64 (graphR vs).2] ∧ GraphC 4398046511104 h' (graphR vs).1 us) := by
  have hlen := sm.len
  have hfl := sm.fl
  obtain ⟨pv, cv, rfl⟩ := hs.slice
  refine pspec_ofN (vs := [.slice pv vs.length cv]) Tryz.func11 Tryz.ntmps11 rfl rfl ?_
  (focus (refine WP_seq ?_; refine R_region ?_; refine S_c rfl rfl rfl (C_alloc rfl (zer rfl) ?_); intro b0_1; refine S_q rfl rfl rfl (Q_assign rfl rfl) ?_; refine OPS_nil ?_; refine then_n ?_; refine WP_seq ?_; refine R_region ?_; refine S_q rfl rfl rfl (Q_move rfl rfl) ?_; refine S_c rfl rfl rfl (C_call (of_s (by assumption)) rfl rfl ⟨_, _, rfl, rfl, rfl⟩ (cal rfl) ?_); rintro h0_2 _ l0_2 ⟨pf0_2, qf0_2, mb0_2, rfl, ff0_2⟩; replace hs := hs.up l0_2; refine S_c rfl rfl rfl (C_alloc rfl (zer rfl) ?_); intro b0_3; refine S_w0 rfl rfl (W_all rfl rfl rfl (ty rfl) u0 (by first | rfl | assumption) (by first | rfl | assumption) (by first | rfl | assumption | exact ones_sub (by assumption) _ _) ?_); refine OPS_nil ?_; refine then_n ?_; refine WP_seq ?_; refine R_region ?_; refine S_c rfl rfl rfl (C_alloc rfl (zer rfl) ?_); intro b0_4; refine OPS_nil ?_; refine then_n ?_; refine WP_seq ?_; refine WP_seq ?_; refine R_region ?_; refine S_q rfl rfl rfl (Q_move rfl rfl) ?_; refine S_q rfl rfl rfl (Q_len rfl rfl rfl rfl rfl rfl) ?_; refine S_q rfl rfl rfl (Q_move rfl rfl) ?_; refine OPS_nil ?_; refine then_n ?_; refine WP_block ?_))
  (focus (refine WP_keepM [_] [_] _ rfl ?_; rintro h1_k l1_k k1_k; have a1_k := at_of_keep k1_k; clear k1_k; replace ff0_2 := ff0_2.up l1_k; replace hs := hs.up l1_k))
  (refine WP_loopF (α := Nat × List (List Nd) × Option Addr × Nat × Hp) [17, 16, 5, 4, 2] (fun (s : Nat × List (List Nd) × Option Addr × Nat × Hp) => vs.length - s.1) (fun (s : Nat × List (List Nd) × Option Addr × Nat × Hp) => (b0_4, cells [.slice s.2.2.1 s.2.1.length s.2.2.2.1] 98) :: (b0_1, cells [.slice none 0 0] 27) :: (s.2.2.2.2 ++ [])) (fun (s : Nat × List (List Nd) × Option Addr × Nat × Hp) => [(18, .int .i64 (s.1 : Int))]) (fun hh (s : Nat × List (List Nd) × Option Addr × Nat × Hp) => hh = h1_k ∧ s.1 ≤ vs.length ∧ s.2.1 = (vs.take s.1).map (·.objects) ∧ OS h1_k 27 1 (GraphC 4398046511104) (.slice s.2.2.1 s.2.1.length s.2.2.2.1) s.2.1 s.2.2.2.2) (0, [], none, 0, []) ⟨_, _, rfl, ⟨_, _, rfl, ⟨_, _, rfl, ⟨_, _, rfl, ⟨_, _, rfl, rfl, rfl⟩, rfl⟩, rfl⟩, rfl⟩, rfl⟩ ?_ (by repeat' (first | exact List.Sublist.refl _ | exact List.sublist_append_left _ _ | exact List.nil_sublist _ | apply List.Sublist.cons₂ | apply List.Sublist.cons)) (by repeat' (first | exact trivial | refine ⟨rfl, ?_⟩)) ?_)
  · exact ⟨rfl, Nat.zero_le _, rfl, OS.nil _ _ _ _⟩
  rintro h1 ⟨k, gs, p, c, M⟩ _ ⟨rfl, hk, hgs, hO⟩
  simp only at hk hgs hO
  dsimp only
  have hgl : gs.length = k := by rw [hgs]; simp; omega
  by_cases hlt : k < vs.length
  · obtain ⟨v, ev⟩ := get_of hlt
    (focus (refine WP_seq ?_; refine R_region ?_; refine S_q rfl rfl rfl (Q_cmp rfl rfl rfl rfl) ?_; refine OPS_nil ?_; refine then_n ?_; refine WP_seq ?_; refine WP_cond rfl (fun c3_1 => ?_) (fun c3_1 => ?_) <;> (first | (simp [*] at c3_1; done) | (try simp at c3_1)); refine WP_skip ?_; refine then_n ?_; refine WP_seq ?_; refine WP_block ?_; refine WP_seq ?_; refine R_region ?_; refine S_q rfl rfl rfl (Q_indexS (by assumption) (by assumption) rfl rfl rfl (elm rfl) rfl) ?_; refine S_load rfl rfl rfl rfl rfl ?_; refine L_elA (by assumption) (by assumption) (ty rfl) ?_; rintro _ _ _ ⟨xi3_2, xa3_2, po3_2, qo3_2, ps3_2, qs3_2, pc3_2, qc3_2, pn3_2, qn3_2, pm3_2, qm3_2, xw3_2, xv3_2, pf3_2, qf3_2, pr3_2, qr3_2, xe3_2, xf3_2, rfl, vo3_2, vs3_2, vc3_2, vn3_2, vm3_2, vf3_2, vr3_2⟩; refine S_c rfl rfl rfl (C_alloc rfl (zer rfl) ?_); intro b3_3; refine S_w0 rfl rfl (W_all rfl rfl rfl (ty rfl) u0 (by first | rfl | assumption) (by first | rfl | assumption) (by first | rfl | assumption | exact ones_sub (by assumption) _ _) ?_); refine OPS_nil ?_; refine then_n ?_; refine R_region ?_; refine S_load rfl rfl rfl rfl rfl ?_; refine L_one (Rd.own m1) (ty rfl) ?_; refine S_q rfl rfl rfl (Q_fieldAddr rfl rfl (fld rfl rfl)) ?_; refine S_load rfl rfl rfl rfl rfl ?_; refine L_sub (Rd.own m0) (ty rfl) rfl ?_; refine S_c rfl rfl rfl (C_buildSlice rfl (elm rfl) (zer rfl) rfl ⟨_, _, _, rfl, rfl, rfl, rfl, rfl, rfl⟩ rfl rfl ?_); intro b3_4))
    refine S_w rfl rfl rfl (W_app1 (y := v.objects) (by_ := 24) [_, _, _] _ hO rfl rfl rfl rfl rfl rfl (elm rfl) (zer rfl) rfl rfl rfl rfl ⟨_, _, rfl, vo3_2⟩ (by omega) (by omega) ?_)
    rintro p2 c2 M2 hO2
    (focus (refine S_w0 rfl rfl (W_one rfl rfl rfl (ty rfl) u1 rfl rfl rfl ?_); refine OPS_nil ?_; refine block_n ?_; refine then_n ?_; refine R_region ?_; refine S_q rfl rfl rfl (Q_add rfl rfl rfl (by omega)) ?_; refine S_q rfl rfl rfl (Q_move rfl rfl) ?_; refine OPS_nil ?_))
    refine roundF_n (k + 1, gs ++ [v.objects], p2, c2, M2) (by simp only; omega) ⟨rfl, by simp only; omega, ?_, hO2⟩ (by repeat' (first | exact List.Sublist.refl _ | exact List.sublist_append_left _ _ | exact List.nil_sublist _ | apply List.Sublist.cons₂ | apply List.Sublist.cons)) (by repeat' (first | exact trivial | refine ⟨rfl, ?_⟩))
    simp only; rw [hgs, List.take_add_one, ev]; simp
  · have hge : k = vs.length := by omega
    subst hge
    rw [List.take_length] at hgs
    (focus (refine WP_seq ?_; refine R_region ?_; refine S_q rfl rfl rfl (Q_cmp rfl rfl rfl rfl) ?_; refine OPS_nil ?_; refine then_n ?_; refine WP_seq ?_; refine WP_cond rfl (fun c5_1 => ?_) (fun c5_1 => ?_) <;> (first | (simp [*] at c5_1; done) | (try simp at c5_1)); refine WP_exit ?_; refine then_e ?_; refine roundF_e ?_; refine block_e ?_; refine then_n ?_; refine WP_seq ?_; refine WP_seq ?_; refine R_region ?_; refine S_load rfl rfl rfl rfl rfl ?_; refine L_agg (Rd.pers (by assumption)) (ty rfl) (by first | rfl | assumption) ?_; refine S_c rfl rfl rfl (C_call (flights_s (by assumption)) rfl rfl ⟨_, _, rfl, rfl, rfl⟩ (cal rfl) ?_); rintro h5_2 _ l5_2 ⟨bi5_2, rfl, it5_2⟩; replace a1_k := a1_k.up l5_2; replace ff0_2 := ff0_2.up l5_2; replace hs := hs.up l5_2; replace hO := hO.up l5_2; refine OPS_nil ?_; refine then_n ?_; refine WP_block ?_))
    refine WP_rangeS [] [] (fun s : List (List Nd) × Option Addr × Nat × Hp => (b0_4, cells [.slice s.2.1 s.1.length s.2.2.1] 98) :: (b0_1, cells [.slice none 0 0] 27) :: s.2.2.2)
      (fun pre hh s => le h5_2 hh ∧ s.1 = vs.map (·.objects) ++ movedG vs pre ∧ OS hh 27 1 (GraphC 4398046511104) (.slice s.2.1 s.1.length s.2.2.1) s.1 s.2.2.2) (fun _ _ _ => False) (gs, p, c, M) it5_2 rfl Tryz.func77 (by decide) rfl (by rintro _ _ _ ⟨_, _, rfl, _⟩; rfl) rfl rfl ⟨le_refl _, by simp [movedG, hgs], hO⟩ ?_ ?_ ?_
    · clear hO hgl hgs M p c gs
      rintro l pre ⟨v, x⟩ _ h2 ⟨gs, p, c, M⟩ hl1 ⟨hl2, hgs, hO⟩ hp ⟨us, ws, rfl, hu1, hu2, hu3, hw1, hw2, hw3⟩
      simp only at hgs hO hu3 hw3
      obtain ⟨hvm, hxm⟩ := flightsOf_mem (hp.subset (by simp : (v, x) ∈ pre ++ [(v, x)]))
      have hpl := hp.length_le
      have hsn := movedG_snoc vs pre (v, x)
      have hgl : gs.length ≤ 35 := by
        rw [hgs, List.length_append, List.length_map]; have := movedG_len vs pre; simp at hpl; omega
      have hfl6 := sm.moved v hvm x hxm
      (replace it5_2 := it5_2.up hl1; replace a1_k := a1_k.up hl1; replace ff0_2 := ff0_2.up hl1; replace hs := hs.up hl1)
      obtain ⟨hi, xa, po, qo, qs, qt, pc, qc, pn, qn, pm, qm, xw, xv, pf, qf, pr, qr, xe, xf, rfl, -⟩ := hu3
      obtain ⟨ya, yb, yc, yd, ye, pa, qa, pg, qg, ph, qh, yw, y1, y2, y3, y4, y5, y6, y7, y8, y9, y10, y11, y12, y13, y14, y15, rfl, ha, hfs, hm⟩ := hw3
      dsimp only [parFr]
      (focus (refine WP_seq ?_; refine R_region ?_; refine S_c rfl rfl rfl (C_alloc rfl (zer rfl) ?_); intro b7_1; refine S_w0 rfl rfl (W_all rfl rfl rfl (ty rfl) u0 (by first | rfl | assumption) (by first | rfl | assumption) (by first | rfl | assumption | exact ones_sub (by assumption) _ _) ?_); refine OPS_nil ?_; refine then_n ?_; refine R_region ?_; refine S_c rfl rfl rfl (C_alloc rfl (zer rfl) ?_); intro b7_2; refine S_w0 rfl rfl (W_all rfl rfl rfl (ty rfl) u0 (by first | rfl | assumption) (by first | rfl | assumption) (by first | rfl | assumption | exact ones_sub (by assumption) _ _) ?_); refine OPS_nil ?_; refine then_n ?_))
      refine ⟨rfl, ?_⟩
      (focus (refine WP_block ?_; refine WP_seq ?_; refine R_region ?_; refine S_q rfl rfl rfl (Q_fieldAddr rfl rfl (fld rfl rfl)) ?_; refine S_q rfl rfl rfl (Q_fieldAddr rfl rfl (fld rfl rfl)) ?_; refine S_load rfl rfl rfl rfl rfl ?_; refine L_fld2 (Rd.own m0) ?_; refine LV_a (ty rfl) rfl ?_; refine S_c rfl rfl rfl (C_alloc rfl (zer rfl) ?_); intro b8_1; refine S_w0 rfl rfl (W_all rfl rfl rfl (ty rfl) u0 (by first | rfl | assumption) (by first | rfl | assumption) (by first | rfl | assumption | exact ones_sub (by assumption) _ _) ?_); refine OPS_nil ?_; refine then_n ?_; refine WP_seq ?_; refine WP_seq ?_; refine R_region ?_; refine S_q rfl rfl rfl (Q_fieldAddr rfl rfl (fld rfl rfl)) ?_; refine S_q rfl rfl rfl (Q_fieldAddr rfl rfl (fld rfl rfl)) ?_; refine S_load rfl rfl rfl rfl rfl ?_; refine L_fld2 (Rd.own m1) ?_; refine LV_1 (ty rfl) rfl ?_; refine S_q rfl rfl rfl (Q_cmp rfl rfl rfl rfl) ?_; refine OPS_nil ?_; refine then_n ?_; refine WP_cond rfl (fun c8_2 => ?_) (fun c8_2 => ?_) <;> (first | (simp [*] at c8_2; done) | (try simp at c8_2)); (focus (refine WP_exit ?_; refine then_e ?_; refine block_e ?_)); rotate_left 1; (focus (refine WP_skip ?_; refine then_n ?_; refine WP_seq ?_; refine R_region ?_; refine S_q rfl rfl rfl (Q_fieldAddr rfl rfl (fld rfl rfl)) ?_; refine S_load rfl rfl rfl rfl rfl ?_; refine L_sub (Rd.own m0) (ty rfl) rfl ?_; refine S_q rfl rfl rfl (Q_fieldAddr rfl rfl (fld rfl rfl)) ?_; refine S_load rfl rfl rfl rfl rfl ?_; refine L_fld (Rd.own m0) (ty rfl) rfl ?_; refine S_q rfl rfl rfl (Q_fieldAddr rfl rfl (fld rfl rfl)) ?_; refine S_load rfl rfl rfl rfl rfl ?_; refine L_fld (Rd.own m0) (ty rfl) rfl ?_; refine S_q rfl rfl rfl (Q_build rfl (by decide +kernel) (zer rfl) ⟨_, _, _, _, _, _, _, rfl, fld rfl rfl, ty rfl, rfl, rfl, ⟨_, _, _, _, _, _, _, rfl, fld rfl rfl, ty rfl, rfl, rfl, ⟨_, _, _, _, _, _, _, rfl, fld rfl rfl, ty rfl, rfl, rfl, rfl, rfl⟩, rfl⟩, rfl⟩ rfl) ?_; refine S_c rfl rfl rfl (C_alloc rfl (zer rfl) ?_); intro b8_3; refine S_w0 rfl rfl (W_all rfl rfl rfl (ty rfl) u0 (by first | rfl | assumption) (by first | rfl | assumption) (by first | rfl | assumption | exact ones_sub (by assumption) _ _) ?_); refine OPS_nil ?_; refine then_n ?_; refine WP_seq ?_; refine WP_seq ?_; refine R_region ?_; refine S_q rfl rfl rfl (Q_fieldAddr rfl rfl (fld rfl rfl)) ?_; refine S_load rfl rfl rfl rfl rfl ?_; refine L_fld (Rd.own m1) (ty rfl) rfl ?_; refine S_q rfl rfl rfl (Q_len rfl rfl rfl rfl rfl rfl) ?_; refine S_q rfl rfl rfl (Q_move rfl rfl) ?_; refine OPS_nil ?_; refine then_n ?_; refine WP_block ?_)); rotate_left 1))
      · rw [if_neg (by simp [isMove, c8_2])] at hsn
        refine bodyS_n (gs, p, c, M) ?_ (by repeat' (first | exact List.Sublist.refl _ | exact List.sublist_append_left _ _ | exact List.nil_sublist _ | apply List.Sublist.cons₂ | apply List.Sublist.cons))
        refine ⟨hl2, ?_, hO⟩
        simp only; rw [hsn, List.append_nil]; exact hgs
      rw [if_pos (by simp [isMove, c8_2])] at hsn
      (focus (refine WP_keepM [_] [_] _ rfl ?_; rintro h9_k l9_k k9_k; have a9_k := at_of_keep k9_k; clear k9_k; replace hO := hO.up l9_k; replace it5_2 := it5_2.up l9_k; replace a1_k := a1_k.up l9_k; replace ff0_2 := ff0_2.up l9_k; replace hs := hs.up l9_k; replace ha := ha.up l9_k; replace hfs := hfs.up l9_k; replace hm := hm.up l9_k))
      (focus (refine WP_keepM [_] [_] _ rfl ?_; rintro h10_k l10_k k10_k; have a10_k := at_of_keep k10_k; clear k10_k; replace a9_k := a9_k.up l10_k; replace hO := hO.up l10_k; replace it5_2 := it5_2.up l10_k; replace a1_k := a1_k.up l10_k; replace ff0_2 := ff0_2.up l10_k; replace hs := hs.up l10_k; replace ha := ha.up l10_k; replace hfs := hfs.up l10_k; replace hm := hm.up l10_k))
      (focus (refine WP_keepM [_] [_] _ rfl ?_; rintro h11_k l11_k k11_k; have a11_k := at_of_keep k11_k; clear k11_k; replace a10_k := a10_k.up l11_k; replace a9_k := a9_k.up l11_k; replace hO := hO.up l11_k; replace it5_2 := it5_2.up l11_k; replace a1_k := a1_k.up l11_k; replace ff0_2 := ff0_2.up l11_k; replace hs := hs.up l11_k; replace ha := ha.up l11_k; replace hfs := hfs.up l11_k; replace hm := hm.up l11_k))
      (refine WP_loopF (α := Nat × List Val × Option Addr × Nat × Hp) [48, 47, 11, 9, 8, 5, 4] (fun (s : Nat × List Val × Option Addr × Nat × Hp) => x.msg.parcel.fields.length - s.1) (fun (s : Nat × List Val × Option Addr × Nat × Hp) => (b8_3, cells [.int .i64 x.msg.parcel.id.1, .int .i64 x.msg.parcel.id.2, .int .i64 x.msg.parcel.kind, .int .i64 x.msg.parcel.cls, .slice s.2.2.1 s.2.1.length s.2.2.2.1] 38) :: (b0_4, cells [.slice p gs.length c] 98) :: (b0_1, cells [.slice none 0 0] 27) :: (s.2.2.2.2 ++ (M ++ []))) (fun (s : Nat × List Val × Option Addr × Nat × Hp) => [(49, .int .i64 (s.1 : Int))]) (fun hh (s : Nat × List Val × Option Addr × Nat × Hp) => hh = h11_k ∧ s.1 ≤ x.msg.parcel.fields.length ∧ s.2.1 = (x.msg.parcel.fields.take s.1).map (valueOf vs v.machine x.to) ∧ OS h11_k 42 4 ValC (.slice s.2.2.1 s.2.1.length s.2.2.2.1) s.2.1 s.2.2.2.2) (0, [], none, 0, []) ⟨_, _, rfl, ⟨_, _, rfl, ⟨_, _, rfl, ⟨_, _, rfl, ⟨_, _, rfl, ⟨_, _, rfl, ⟨_, _, rfl, rfl, rfl⟩, rfl⟩, rfl⟩, rfl⟩, rfl⟩, rfl⟩, rfl⟩ ?_ (by repeat' (first | exact List.Sublist.refl _ | exact List.sublist_append_left _ _ | exact List.nil_sublist _ | apply List.Sublist.cons₂ | apply List.Sublist.cons)) (by repeat' (first | exact trivial | refine ⟨rfl, ?_⟩)) ?_)
      · exact ⟨rfl, Nat.zero_le _, rfl, OS.nil _ _ _ _⟩
      rintro h3 ⟨k, fs, p2, c2, M2⟩ _ ⟨rfl, hk, hfe, hO2⟩
      simp only at hk hfe hO2
      dsimp only
      have hfl2 : fs.length = k := by rw [hfe]; simp; omega
      by_cases hlt : k < x.msg.parcel.fields.length
      · obtain ⟨r, er⟩ := get_of hlt
        (focus (refine WP_seq ?_; refine R_region ?_; refine S_q rfl rfl rfl (Q_cmp rfl rfl rfl rfl) ?_; refine OPS_nil ?_; refine then_n ?_; refine WP_seq ?_; refine WP_cond rfl (fun c13_1 => ?_) (fun c13_1 => ?_) <;> (first | (simp [*] at c13_1; done) | (try simp at c13_1)); refine WP_skip ?_; refine then_n ?_; refine WP_seq ?_; refine WP_block ?_; refine WP_seq ?_; refine R_region ?_; refine S_q rfl rfl rfl (Q_indexS (by assumption) (by assumption) rfl rfl rfl (elm rfl) rfl) ?_; refine S_load rfl rfl rfl rfl rfl ?_; refine L_elA (by assumption) (by assumption) (ty rfl) ?_; rintro _ _ _ rfl; refine S_c rfl rfl rfl (C_alloc rfl (zer rfl) ?_); intro b13_3; refine S_w0 rfl rfl (W_all rfl rfl rfl (ty rfl) u0 (by first | rfl | assumption) (by first | rfl | assumption) (by first | rfl | assumption | exact ones_sub (by assumption) _ _) ?_); refine OPS_nil ?_; refine then_n ?_; refine R_draw (n := 13) mixed rfl ?_; refine A_at 0 rfl rfl ?_; refine A_q (m' := 1) rfl rfl rfl (Q_fieldAddr rfl rfl (fld rfl rfl)) rfl (by decide +kernel) ?_; refine A_at 1 rfl rfl ?_; refine A_load (m' := 3) rfl rfl rfl rfl rfl rfl (by decide +kernel) ?_; refine L_fld (Rd.own m1) (ty rfl) rfl ?_; refine A_at 2 rfl rfl ?_; refine A_load (m' := 7) rfl rfl rfl rfl rfl rfl (by decide +kernel) ?_; refine L_agg (Rd.pers (by assumption)) (ty rfl) (by first | rfl | assumption) ?_; refine A_at 3 rfl rfl ?_; refine A_q (m' := 15) rfl rfl rfl (Q_fieldAddr rfl rfl (fld rfl rfl)) rfl (by decide +kernel) ?_; refine A_at 4 rfl rfl ?_; refine A_load (m' := 31) rfl rfl rfl rfl rfl rfl (by decide +kernel) ?_; refine L_fld (Rd.pers (by assumption)) (ty rfl) rfl ?_; refine A_at 5 rfl rfl ?_; refine A_q (m' := 63) rfl rfl rfl (Q_fieldAddr rfl rfl (fld rfl rfl)) rfl (by decide +kernel) ?_; refine A_at 6 rfl rfl ?_; refine A_load (m' := 127) rfl rfl rfl rfl rfl rfl (by decide +kernel) ?_; refine L_fld (Rd.pers (by assumption)) (ty rfl) rfl ?_; refine A_at 7 rfl rfl ?_; refine A_load (m' := 255) rfl rfl rfl rfl rfl rfl (by decide +kernel) ?_; refine L_agg (Rd.own m0) (ty rfl) (by first | rfl | assumption) ?_; refine A_at 8 rfl rfl ?_; refine A_c (m' := 511) rfl rfl rfl rfl (by decide +kernel) (C_callv (value_s (by assumption)) rfl rfl ⟨_, _, rfl, ⟨_, _, rfl, ⟨_, _, rfl, ⟨_, _, rfl, rfl, rfl⟩, rfl⟩, rfl⟩, rfl⟩ (cal rfl) ?_); refine A_at 9 rfl rfl ?_; refine A_c (m' := 1023) rfl rfl rfl rfl (by decide +kernel) (C_buildSlice rfl (elm rfl) (zer rfl) rfl ⟨_, _, _, rfl, rfl, rfl, rfl, rfl, rfl⟩ rfl rfl ?_); intro b13_4; refine A_at 10 rfl rfl ?_; refine A_w (m' := 2047) rfl rfl rfl rfl rfl (by decide +kernel) (W_app1 [_, _, _, _] _ (by assumption) rfl rfl rfl rfl rfl rfl (elm rfl) (zer rfl) rfl rfl rfl rfl rfl (by (try simp only [List.length_append, List.length_cons, List.length_nil]); omega) (by (try simp only [List.length_append, List.length_cons, List.length_nil]); omega) ?_); rintro p13_5 q13_5 m13_5 o13_5; refine A_at 11 rfl rfl ?_; refine A_q (m' := 4095) rfl rfl rfl (Q_fieldAddr rfl rfl (fld rfl rfl)) rfl (by decide +kernel) ?_; refine A_at 12 rfl rfl ?_; refine A_w0 (m' := 8191) rfl rfl rfl rfl (by decide +kernel) (W_fld rfl rfl rfl (ty rfl) u1 rfl rfl rfl rfl ?_); refine A_done (by decide +kernel) ?_; refine block_n ?_; refine then_n ?_; refine R_region ?_; refine S_q rfl rfl rfl (Q_add rfl rfl rfl (by omega)) ?_; refine S_q rfl rfl rfl (Q_move rfl rfl) ?_; refine OPS_nil ?_))
        refine roundF_n (k + 1, fs ++ [valueOf vs v.machine x.to r], p13_5, q13_5, m13_5) (by simp only; omega) ⟨rfl, by simp only; omega, ?_, o13_5⟩ (by repeat' (first | exact List.Sublist.refl _ | exact List.sublist_append_left _ _ | exact List.nil_sublist _ | apply List.Sublist.cons₂ | apply List.Sublist.cons)) (by repeat' (first | exact trivial | refine ⟨rfl, ?_⟩))
        simp only; rw [hfe, List.take_add_one, er]; simp
      · have hge : k = x.msg.parcel.fields.length := by omega
        subst hge
        rw [List.take_length] at hfe
        refine WP_keepM [_, _, _] M2 _ rfl fun h4 hl4 hm4 => ?_
        have hN : SL h4 4 ValC (.slice p2 fs.length c2) fs := hO2.sl hl4 ValC_mono hm4 (by omega)
        clear hO2 hm4
        (replace a11_k := a11_k.up hl4; replace a10_k := a10_k.up hl4; replace a9_k := a9_k.up hl4; replace hO := hO.up hl4; replace it5_2 := it5_2.up hl4; replace a1_k := a1_k.up hl4; replace ff0_2 := ff0_2.up hl4; replace hs := hs.up hl4; replace ha := ha.up hl4; replace hfs := hfs.up hl4; replace hm := hm.up hl4)
        have hmo : movedOf vs (v, x) = ⟨x.msg.parcel.id, x.msg.parcel.kind, x.msg.parcel.cls, fs⟩ := by rw [movedOf, hfe]
        rw [hmo] at hsn
        (focus (refine WP_seq ?_; refine R_region ?_; refine S_q rfl rfl rfl (Q_cmp rfl rfl rfl rfl) ?_; refine OPS_nil ?_; refine then_n ?_; refine WP_seq ?_; refine WP_cond rfl (fun c15_1 => ?_) (fun c15_1 => ?_) <;> (first | (simp [*] at c15_1; done) | (try simp at c15_1)); refine WP_exit ?_; refine then_e ?_; refine roundF_e ?_; refine block_e ?_; refine then_n ?_; refine R_region ?_; refine S_load rfl rfl rfl rfl rfl ?_; refine L_one (Rd.own m1) (ty rfl) ?_; refine S_load rfl rfl rfl rfl rfl ?_; refine L_agg (Rd.own m0) (ty rfl) (by first | rfl | assumption) ?_; refine S_c rfl rfl rfl (C_buildSlice rfl (elm rfl) (zer rfl) rfl ⟨_, _, _, rfl, rfl, rfl, rfl, rfl, rfl⟩ rfl rfl ?_); intro b15_2; refine S_q rfl rfl rfl (Q_build rfl (by decide +kernel) (zer rfl) ⟨_, _, _, _, _, _, _, rfl, fld rfl rfl, ty rfl, rfl, rfl, rfl, rfl⟩ rfl) ?_; refine S_c rfl rfl rfl (C_buildSlice rfl (elm rfl) (zer rfl) rfl ⟨_, _, _, rfl, rfl, rfl, rfl, rfl, rfl⟩ rfl rfl ?_); intro b15_3))
        (focus (refine OPS_keepM [_] [_] _ rfl ?_; rintro h16_k l16_k k16_k; have a16_k := at_of_keep k16_k; clear k16_k; replace hN := hN.up l16_k; replace a11_k := a11_k.up l16_k; replace a10_k := a10_k.up l16_k; replace a9_k := a9_k.up l16_k; replace hO := hO.up l16_k; replace it5_2 := it5_2.up l16_k; replace a1_k := a1_k.up l16_k; replace ff0_2 := ff0_2.up l16_k; replace hs := hs.up l16_k; replace ha := ha.up l16_k; replace hfs := hfs.up l16_k; replace hm := hm.up l16_k))
        refine S_w rfl rfl rfl (W_app1 (y := [(⟨x.msg.parcel.id, x.msg.parcel.kind, x.msg.parcel.cls, fs⟩ : Nd)]) (by_ := 24) [_, _, _] _ hO rfl rfl rfl rfl rfl rfl (elm rfl) (zer rfl) rfl rfl rfl rfl ⟨_, _, rfl, slb_of_at a16_k (Flat.one rfl rfl ⟨_, _, rfl, hN⟩) (by simp)⟩ (by omega) (by omega) ?_)
        rintro p3 c3 M3 hO3
        (focus (refine S_w0 rfl rfl (W_one rfl rfl rfl (ty rfl) u1 rfl rfl rfl ?_); refine OPS_nil ?_; refine block_n ?_))
        refine bodyS_n (gs ++ [[(⟨x.msg.parcel.id, x.msg.parcel.kind, x.msg.parcel.cls, fs⟩ : Nd)]], p3, c3, M3) ?_ (by repeat' (first | exact List.Sublist.refl _ | exact List.sublist_append_left _ _ | exact List.nil_sublist _ | apply List.Sublist.cons₂ | apply List.Sublist.cons))
        refine ⟨le_trans hl2 (le_trans l9_k (le_trans l10_k (le_trans l11_k (le_trans hl4 l16_k)))), ?_, hO3⟩
        simp only; rw [hsn, hgs, List.append_assoc]
    · clear hO hgl hgs M p c gs
      rintro d h2 ⟨gs, p, c, M⟩ hl1 ⟨hl2, hgs, hO⟩
      simp only at hgs hO
      (replace it5_2 := it5_2.up hl1; replace a1_k := a1_k.up hl1; replace ff0_2 := ff0_2.up hl1; replace hs := hs.up hl1)
      have hb := sm.parts
      have hgr : unionR gs = graphR vs := by rw [graphR, graphParts, hgs]
      have hgl : gs.length ≤ 35 := by
        rw [hgs, List.length_append, List.length_map]; have := movedG_len vs (flightsOf vs); omega
      rw [graphParts, ← hgs] at hb
      (focus (refine block_n ?_; refine then_n ?_; refine WP_seq ?_; refine R_region ?_; refine S_load rfl rfl rfl rfl rfl ?_; refine L_one (Rd.own m0) (ty rfl) ?_))
      refine OPS_keepM [_, _] M [dObj d] rfl fun h3 hl3 hm3 => ?_
      have hSL : SL h3 1 (GraphC 4398046511104) (.slice p gs.length c) gs := hO.sl hl3 (GraphC_mono _) hm3 (by omega)
      refine S_c rfl rfl rfl (C_call (union_s hSL hb) rfl rfl ⟨_, _, rfl, rfl, rfl⟩ (cal rfl) ?_)
      rintro h4 _ hl4 ⟨_, rfl, pg, cg, rfl, hg⟩
      (focus (refine S_q rfl rfl rfl (Q_extract rfl rfl rfl) ?_; refine S_q rfl rfl rfl (Q_extract rfl rfl rfl) ?_; refine S_w0 rfl rfl (W_all rfl rfl rfl (ty rfl) u1 (by first | rfl | assumption) (by first | rfl | assumption) (by first | rfl | assumption | exact ones_sub (by assumption) _ _) ?_); refine S_q rfl rfl rfl (Q_assign rfl rfl) ?_; refine OPS_nil ?_; refine then_n ?_; refine WP_ret ?_))
      refine nretP [_, _] (List.Sublist.refl _) (.inl rfl) rfl ⟨_, _, _, rfl, Loads_agg (Rd.own m1) (ty rfl) rfl, ⟨_, _, rfl, rfl, rfl⟩, rfl⟩ ?_
      rw [← hgr]
      exact ⟨_, rfl, _, _, rfl, hg⟩
    · rintro d e h1 L1 hl1 hx _; exact hx.elim
end Go.Proofs.YtfhoecgiahpddaaGreat
