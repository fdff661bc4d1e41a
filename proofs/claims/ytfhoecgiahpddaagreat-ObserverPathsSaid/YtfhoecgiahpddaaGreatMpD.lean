/-
  Part D of the proof's ground: Oc, Ea, Ga, Oh, Pd, Od, Oe, Pb, Pc, La.
-/
import Derived.Test.YtfhoecgiahpddaaGreatMpA
import Derived.Test.YtfhoecgiahpddaaGreatMpB
import Derived.Test.YtfhoecgiahpddaaGreatMpC
/-
  CONTRACTS: observer.Reachable, observer.Garbage, observer.Home.
-/
set_option linter.all false
namespace Go.Proofs.YtfhoecgiahpddaaGreat
open Go.Mesh Go.RowKit
set_option maxRecDepth 100000
set_option linter.unusedVariables false
set_option maxHeartbeats 4000000
attribute [local irreducible] WP OPS ANY ANYo LG LV FSpec PSpec QOP OPc OPw thenQ blockQ roundQ roundF retQ retM Rd At SLB OS cmpI orI cmpID namedB valB nodeB kindB validG valAux idxI findG zeroV viewOf vwAt idxOf recv flyB scionOf moveOf numberedOf idOf valueOf mget mput localB carriedB stubOf followF followOf flOf flightsOf flPre setL minusL compactL putI mergeN insN insAll unionR NMap Coll retN bodyS GMap Dfs refsV refsOf reachL movedOf movedG graphParts graphR isMove flightIDs mailIDs viewIDs rawRoots rootsR
theorem mergeN_or {o n m : Nd} (h : mergeN o n = some m) : m = o ∨ m = n := by
  unfold mergeN at h
  grind
theorem insN_mem {l l' : List Nd} {n : Nd} (hs : SN l) (h : insN l n = some l') : SN l' ∧ l'.length ≤ l.length + 1 ∧ ∀ z, z ∈ l' → z = n ∨ z ∈ l := by
  have k := insN_spec (n := n) hs
  cases hf : findG l n.id with
  | none =>
    rw [hf] at k
    obtain ⟨l2, e1, e2, e3, e4, _⟩ := k
    rw [h] at e1; cases e1
    exact ⟨e2, by omega, e4⟩
  | some o =>
    rw [hf] at k
    cases hm : mergeN o n with
    | none => simp only [hm] at k; rw [h] at k; cases k
    | some m =>
      simp only [hm] at k
      obtain ⟨l2, e1, e2, e3, e4, _⟩ := k
      rw [h] at e1; cases e1
      refine ⟨e2, by omega, fun z hz => ?_⟩
      rcases e4 z hz with rfl | hz
      · rcases mergeN_or hm with rfl | rfl
        · exact .inr (findG_some hf).1
        · exact .inl rfl
      · exact .inr hz
theorem insAll_mem : ∀ {r acc l' : List Nd}, SN acc → insAll acc r = some l' → SN l' ∧ l'.length ≤ acc.length + r.length ∧ ∀ z, z ∈ l' → z ∈ acc ∨ z ∈ r
  | [], acc, l', hs, h => by
    unfold insAll at h
    cases h
    exact ⟨hs, by simp, fun z hz => .inl hz⟩
  | n :: r, acc, l', hs, h => by
    unfold insAll at h
    cases hi : insN acc n with
    | none => rw [hi] at h; cases h
    | some a =>
      rw [hi] at h
      obtain ⟨h1, h2, h3⟩ := insN_mem hs hi
      obtain ⟨k1, k2, k3⟩ := insAll_mem h1 h
      refine ⟨k1, by simp only [List.length_cons]; omega, fun z hz => ?_⟩
      rcases k3 z hz with hz | hz
      · rcases h3 z hz with rfl | hz
        · exact .inr (by simp)
        · exact .inl hz
      · exact .inr (by simp [hz])
theorem unionR_mem (l : List (List Nd)) : SN (unionR l).1 ∧ (unionR l).1.length ≤ l.flatten.length ∧ ∀ z, z ∈ (unionR l).1 → z ∈ l.flatten := by
  unfold unionR
  split
  · cases hi : insAll [] l.flatten with
    | none => exact ⟨by simp [resU, SN], by simp [resU], by simp [resU]⟩
    | some a =>
      obtain ⟨k1, k2, k3⟩ := insAll_mem List.Pairwise.nil hi
      refine ⟨k1, by simpa [resU] using k2, fun z hz => ?_⟩
      rcases k3 z hz with h | h
      · simp at h
      · exact h
  · exact ⟨by simp [SN], by simp, by simp⟩
theorem Small.graph {vs : List View} (s : Small vs) : SN (graphR vs).1 ∧ (graphR vs).1.length ≤ 1000000 ∧ ∀ n, n ∈ (graphR vs).1 → n.fields.length ≤ 1000 := by
  obtain ⟨h1, h2, h3⟩ := unionR_mem (graphParts vs)
  rw [graphR]
  refine ⟨h1, Nat.le_trans h2 s.parts, fun n hn => ?_⟩
  have := h3 n hn
  rw [graphParts, List.flatten_append, List.mem_append] at this
  rcases this with h | h
  · simp only [List.mem_flatten, List.mem_map] at h
    obtain ⟨_, ⟨v, hv, rfl⟩, hn⟩ := h
    have := s.fields v hv n hn; omega
  · simp only [movedG, List.mem_flatten, List.mem_map, List.mem_filter] at h
    obtain ⟨_, ⟨i, ⟨hi, _⟩, rfl⟩, hn⟩ := h
    obtain ⟨hv, hx⟩ := flightsOf_mem hi
    have := s.moved _ hv _ hx
    simp only [List.mem_singleton] at hn
    subst hn
    simp only [movedOf, List.length_map]; omega
/-- what the fleet reaches -/
noncomputable def reachR (vs : List View) : List ID := if (graphR vs).2 = 0 then reachL (graphR vs).1 (rootsR vs) else []
theorem Small.reach {vs : List View} (s : Small vs) : (reachR vs).length ≤ 1000000 := by
  unfold reachR
  split
  · exact Nat.le_trans (reachL_length _ _) s.graph.2.1
  · simp
attribute [local irreducible] reachR
theorem reachable_s {h : Frag} {a : Value} {vs : List View} (hs : SL h 13 (ViewC 4398046511104) a vs) (sm : Small vs) : PSpec Tryz.prog 12 #[a] h (fun h' v => ∃ p c, v = .slice p (reachR vs).length c ∧ SL h' 2 IDC (.slice p (reachR vs).length c) (reachR vs)) := by
  obtain ⟨_, hgl, hgf⟩ := sm.graph
  have hrl := roots_len sm
  have hrr := sm.reach
  refine pspec_of (vs := [a]) Tryz.func12 Tryz.ntmps12 rfl rfl ?_
  (focus (refine WP_seq ?_; refine R_region ?_; refine S_q rfl rfl rfl (Q_assign rfl rfl) ?_; refine OPS_nil ?_; refine then_n ?_; refine WP_seq ?_; refine R_region ?_; refine S_q rfl rfl rfl (Q_move rfl rfl) ?_; refine S_c rfl rfl rfl (C_call (graph_s (by assumption) (by assumption)) rfl rfl ⟨_, _, rfl, rfl, rfl⟩ (cal rfl) ?_); rintro h0_1 _ l0_1 ⟨_, rfl, pg0_1, qg0_1, rfl, fg0_1⟩; replace hs := hs.up l0_1; refine S_q rfl rfl rfl (Q_move rfl rfl) ?_; refine S_q rfl rfl rfl (Q_extract rfl rfl rfl) ?_; refine S_q rfl rfl rfl (Q_extract rfl rfl rfl) ?_; refine S_c rfl rfl rfl (C_alloc rfl (zer rfl) ?_); intro b0_2; refine S_w0 rfl rfl (W_all rfl rfl rfl (ty rfl) u0 (by first | rfl | assumption) (by first | rfl | assumption) (by first | rfl | assumption | exact ones_sub (by assumption) _ _) ?_); refine S_q rfl rfl rfl (Q_assign rfl rfl) ?_; refine OPS_nil ?_; refine then_n ?_; refine WP_seq ?_; refine WP_seq ?_; refine R_region ?_; refine S_q rfl rfl rfl (Q_move rfl rfl) ?_; refine S_q rfl rfl rfl (Q_cmp rfl rfl rfl rfl) ?_; refine OPS_nil ?_; refine then_n ?_; refine WP_cond rfl (fun c0_3 => ?_) (fun c0_3 => ?_) <;> (first | (simp [*] at c0_3; done) | (try simp at c0_3)); (focus (refine WP_seq ?_; refine R_region ?_; refine S_q rfl rfl rfl (Q_assign rfl rfl) ?_; refine OPS_nil ?_; refine then_n ?_; refine WP_ret ?_; refine then_r ?_)); rotate_left 1; (focus (refine WP_skip ?_; refine then_n ?_; refine WP_seq ?_; refine R_draw (n := 5) mixed rfl ?_; refine A_at 0 rfl rfl ?_; refine A_load (m' := 1) rfl rfl rfl rfl rfl rfl (by decide +kernel) ?_; refine L_agg (Rd.own m0) (ty rfl) (by first | rfl | assumption) ?_; refine A_at 1 rfl rfl ?_; refine A_q (m' := 3) rfl rfl rfl (Q_move rfl rfl) rfl (by decide +kernel) ?_; refine A_at 2 rfl rfl ?_; refine A_c (m' := 7) rfl rfl rfl rfl (by decide +kernel) (C_call (roots_s (by assumption) (by assumption)) rfl rfl ⟨_, _, rfl, rfl, rfl⟩ (cal rfl) ?_); rintro h0_4 _ l0_4 ⟨p0_4, q0_4, rfl, f0_4⟩; replace fg0_1 := fg0_1.up l0_4; replace hs := hs.up l0_4; refine A_at 3 rfl rfl ?_; refine A_c (m' := 15) rfl rfl rfl rfl (by decide +kernel) (C_callF (reach_s ⟨_, _, rfl, by assumption⟩ (by assumption) (by omega) (by omega) (by assumption)) rfl rfl ⟨_, _, rfl, ⟨_, _, rfl, rfl, rfl⟩, rfl⟩ (cal rfl) ?_); rintro h0_5 m0_5 _ l0_5 ⟨p0_5, q0_5, rfl, o0_5⟩; replace f0_4 := f0_4.up l0_5; replace fg0_1 := fg0_1.up l0_5; replace hs := hs.up l0_5; refine A_at 4 rfl rfl ?_; refine A_q (m' := 31) rfl rfl rfl (Q_assign rfl rfl) rfl (by decide +kernel) ?_; refine A_done (by decide +kernel) ?_; refine then_n ?_; refine WP_ret ?_)); rotate_left 1))
  · refine pret (.inl rfl) rfl ⟨_, _, rfl, rfl, rfl⟩ ?_
    rw [reachR, if_neg c0_3]
    exact ⟨_, _, rfl, SLB.nil _ _ _ _ _ _⟩
  · have hre : reachR vs = reachL (graphR vs).1 (rootsR vs) := by rw [reachR, if_pos c0_3]
    rw [hre] at hrr ⊢
    refine pretKM [] m0_5 _ rfl (.inl rfl) rfl ⟨_, _, rfl, rfl, rfl⟩ fun h' hl' hm => ?_
    exact ⟨_, _, rfl, o0_5.sl hl' IDC_mono hm (by omega)⟩
/-- how many are not reached -/
noncomputable def deadN (live : List ID) (l : List ID) : Nat := (l.filter fun x => !decide (x ∈ live)).length
def objsL (l : List Nd) : List ID := (l.filter fun n => decide (n.kind ≠ 3)).map (·.id)
def viewObjs (v : View) : List ID := objsL v.objects
noncomputable def garbageOf (live : List ID) (v : View) : Nat := deadN live (viewObjs v) + deadN live (v.stubs.map (·.id)) + deadN live (v.scions.map (·.id))
noncomputable def garbageR (vs : List View) : Nat := (vs.map (garbageOf (reachR vs))).sum
theorem deadN_nil (live : List ID) : deadN live [] = 0 := rfl
theorem deadN_snoc (live l : List ID) (x : ID) : deadN live (l ++ [x]) = deadN live l + (if x ∈ live then 0 else 1) := by
  rw [deadN, deadN, List.filter_append, List.length_append]
  by_cases h : x ∈ live <;> simp [h]
theorem deadN_le (live l : List ID) : deadN live l ≤ l.length := by rw [deadN]; exact List.length_filter_le _ _
theorem viewObjs_le (v : View) : (viewObjs v).length ≤ v.objects.length := by rw [viewObjs, objsL, List.length_map]; exact List.length_filter_le _ _
theorem garbageOf_le {vs : List View} (s : Small vs) (live : List ID) {v : View} (hv : v ∈ vs) : garbageOf live v ≤ 36 := by
  have h1 := deadN_le live (viewObjs v)
  have h2 := deadN_le live (v.stubs.map (·.id))
  have h3 := deadN_le live (v.scions.map (·.id))
  have h4 := viewObjs_le v
  have h5 := s.objs v hv
  have h6 := s.stubs v hv
  have h7 := s.scions v hv
  rw [List.length_map] at h2 h3
  rw [garbageOf]; omega
theorem sum_le (f : View → Nat) (k : Nat) : ∀ l : List View, (∀ v, v ∈ l → f v ≤ k) → (l.map f).sum ≤ l.length * k
  | [], _ => by simp
  | v :: l, h => by
    have h1 := h v (by simp)
    have h2 := sum_le f k l fun w hw => h w (by simp [hw])
    simp only [List.map_cons, List.sum_cons, List.length_cons, Nat.add_mul, Nat.one_mul]; omega
theorem sum_take (f : View → Nat) {l : List View} {k : Nat} {v : View} (hv : l[k]? = some v) : ((l.take (k + 1)).map f).sum = ((l.take k).map f).sum + f v := by
  rw [List.take_add_one, hv]; simp
theorem objsL_take {l : List Nd} {j : Nat} {n : Nd} (hn : l[j]? = some n) : objsL (l.take (j + 1)) = objsL (l.take j) ++ (if n.kind = 3 then [] else [n.id]) := by
  rw [objsL, objsL, List.take_add_one, hn]
  by_cases h : n.kind = 3 <;> simp [h]
theorem mapid_take {α : Type} (f : α → ID) {l : List α} {j : Nat} {n : α} (hn : l[j]? = some n) : (l.take (j + 1)).map f = (l.take j).map f ++ [f n] := by
  rw [List.take_add_one, hn]; simp
theorem deadN_take_le (live l : List ID) (k : Nat) (h : l.length ≤ k) : deadN live l ≤ k := Nat.le_trans (deadN_le live l) h
theorem objsL_le (l : List Nd) : (objsL l).length ≤ l.length := by rw [objsL, List.length_map]; exact List.length_filter_le _ _
theorem viewObjs_def (v : View) : viewObjs v = objsL v.objects := rfl
theorem garbageOf_def (live : List ID) (v : View) : garbageOf live v = deadN live (viewObjs v) + deadN live (v.stubs.map (·.id)) + deadN live (v.scions.map (·.id)) := rfl
theorem objsL_nil : objsL [] = [] := rfl
attribute [local irreducible] deadN viewObjs garbageOf garbageR objsL
theorem garbage1_s {h : Frag} {a : Value} {live : List ID} {x : ID} {b3 b4 n : Nat} (h3 : At h b3 0 [a]) (hl : SL h 2 IDC a live) (hn : n ≤ 1000000) : FSpec Tryz.prog 70 #[.agg (idc x).toArray, ptr b3 0, ptr b4 0] h [(b4, cells [.int .i64 (n : Int)] 3)]
    (fun h' L' _ => h' = h ∧ L' = [(b4, cells [.int .i64 ((n + (if x ∈ live then 0 else 1) : Nat) : Int)] 3)]) := by
  obtain ⟨x1, x2⟩ := x
  refine spec_of (vs := [.agg (idc (x1, x2)).toArray, ptr b3 0, ptr b4 0]) Tryz.func70 Tryz.ntmps70 rfl rfl rfl ?_
  (focus (refine WP_seq ?_; refine R_region ?_; refine S_c rfl rfl rfl (C_box rfl rfl ?_); intro b0_1; refine OPS_nil ?_; refine then_n ?_; refine WP_seq ?_; refine R_region ?_; refine S_load rfl rfl rfl rfl rfl ?_; refine L_one (Rd.pers (by assumption)) (ty rfl) ?_; refine S_load rfl rfl rfl rfl rfl ?_; refine L_agg (Rd.own m0) (ty rfl) (by first | rfl | assumption) ?_; refine S_c rfl rfl rfl (C_callv (has_s (x := (_, _)) (by assumption)) rfl rfl ⟨_, _, rfl, ⟨_, _, rfl, rfl, rfl⟩, rfl⟩ (cal rfl) ?_); refine S_q rfl rfl rfl (Q_not rfl rfl) ?_; refine OPS_nil ?_; refine then_n ?_; refine WP_cond rfl (fun c0_2 => ?_) (fun c0_2 => ?_) <;> (first | (simp [*] at c0_2; done) | (try simp at c0_2)); (focus (refine R_region ?_; refine S_load rfl rfl rfl rfl rfl ?_; refine L_one (Rd.own m1) (ty rfl) ?_; refine S_q rfl rfl rfl (Q_add rfl rfl rfl (by omega)) ?_; refine S_w0 rfl rfl (W_one rfl rfl rfl (ty rfl) u1 rfl rfl rfl ?_); refine OPS_nil ?_)); rotate_left 1; (focus (refine WP_skip ?_)); rotate_left 1))
  · refine ret_q [(b4, cells [.int .i64 ((n : Int) + 1)] 3)] (.inr rfl) rfl rfl (by repeat' (first | exact List.Sublist.refl _ | exact List.sublist_append_left _ _ | exact List.nil_sublist _ | apply List.Sublist.cons₂ | apply List.Sublist.cons)) ⟨rfl, ?_⟩
    rw [if_neg c0_2]; simp
  · refine ret_q [(b4, cells [.int .i64 (n : Int)] 3)] (.inr rfl) rfl rfl (by repeat' (first | exact List.Sublist.refl _ | exact List.sublist_append_left _ _ | exact List.nil_sublist _ | apply List.Sublist.cons₂ | apply List.Sublist.cons)) ⟨rfl, ?_⟩
    rw [if_pos c0_2]; simp
theorem garbage_s {h : Frag} {a : Value} {vs : List View} (hs : SL h 13 (ViewC 4398046511104) a vs) (sm : Small vs) : PSpec Tryz.prog 27 #[a] h (fun _ v => v = .int .i64 ((garbageR vs : Nat) : Int)) := by
  have hlen := sm.len
  obtain ⟨pv, cv, rfl⟩ := hs.slice
  refine pspec_of (vs := [.slice pv vs.length cv]) Tryz.func27 Tryz.ntmps27 rfl rfl ?_
  (focus (refine WP_seq ?_; refine R_region ?_; refine S_q rfl rfl rfl (Q_assign rfl rfl) ?_; refine OPS_nil ?_; refine then_n ?_; refine WP_seq ?_; refine R_region ?_; refine S_q rfl rfl rfl (Q_move rfl rfl) ?_; refine S_c rfl rfl rfl (C_call (reachable_s (by assumption) (by assumption)) rfl rfl ⟨_, _, rfl, rfl, rfl⟩ (cal rfl) ?_); rintro h0_1 _ l0_1 ⟨p0_1, q0_1, rfl, f0_1⟩; replace hs := hs.up l0_1; refine S_c rfl rfl rfl (C_alloc rfl (zer rfl) ?_); intro b0_2; refine S_w0 rfl rfl (W_one rfl rfl rfl (ty rfl) u0 rfl rfl rfl ?_); refine OPS_nil ?_; refine then_n ?_; refine WP_seq ?_; refine R_region ?_; refine S_c rfl rfl rfl (C_alloc rfl (zer rfl) ?_); intro b0_3; refine S_w0 rfl rfl (W_one rfl rfl rfl (ty rfl) u0 rfl rfl rfl ?_); refine OPS_nil ?_; refine then_n ?_; refine WP_seq ?_; refine R_region ?_; refine S_q rfl rfl rfl (Q_makeFunc rfl rfl ⟨_, _, rfl, ⟨_, _, rfl, rfl, rfl⟩, rfl⟩) ?_; refine S_q rfl rfl rfl (Q_assign rfl rfl) ?_; refine OPS_nil ?_; refine then_n ?_; refine WP_seq ?_; refine WP_seq ?_; refine R_region ?_; refine S_q rfl rfl rfl (Q_move rfl rfl) ?_; refine S_q rfl rfl rfl (Q_len rfl rfl rfl rfl rfl rfl) ?_; refine S_q rfl rfl rfl (Q_move rfl rfl) ?_; refine OPS_nil ?_; refine then_n ?_; refine WP_block ?_))
  (focus (refine WP_keepM [_] [_] _ rfl ?_; rintro h1_k l1_k k1_k; have a1_k := at_of_keep k1_k; clear k1_k; replace f0_1 := f0_1.up l1_k; replace hs := hs.up l1_k))
  (refine WP_loopF (α := Nat × Nat) [18, 17, 5, 4] (fun (s : Nat × Nat) => vs.length - s.1) (fun (s : Nat × Nat) => [(b0_3, cells [.int .i64 (s.2 : Int)] 3)]) (fun (s : Nat × Nat) => [(19, .int .i64 (s.1 : Int))]) (fun hh (s : Nat × Nat) => hh = h1_k ∧ s.1 ≤ vs.length ∧ s.2 = ((vs.take s.1).map (garbageOf (reachR vs))).sum) (0, 0) ⟨_, _, rfl, ⟨_, _, rfl, ⟨_, _, rfl, ⟨_, _, rfl, rfl, rfl⟩, rfl⟩, rfl⟩, rfl⟩ ?_ (by repeat' (first | exact List.Sublist.refl _ | exact List.sublist_append_left _ _ | exact List.nil_sublist _ | apply List.Sublist.cons₂ | apply List.Sublist.cons)) (by repeat' (first | exact trivial | refine ⟨rfl, ?_⟩)) ?_)
  · exact ⟨rfl, Nat.zero_le _, rfl⟩
  rintro h1 ⟨k, n⟩ _ ⟨rfl, hk, hn⟩
  simp only at hk hn
  dsimp only
  have hnl : n ≤ 200 := by
    have := sum_le (garbageOf (reachR vs)) 36 (vs.take k) fun v hv => garbageOf_le sm _ (List.mem_of_mem_take hv)
    rw [List.length_take] at this
    rw [hn]; omega
  by_cases hlt : k < vs.length
  · obtain ⟨v, ev⟩ := get_of hlt
    have hvm : v ∈ vs := List.mem_of_getElem? ev
    have ho := sm.objs v hvm
    have hst := sm.stubs v hvm
    have hsc := sm.scions v hvm
    have hsum := sum_take (garbageOf (reachR vs)) ev
    (focus (refine WP_seq ?_; refine R_region ?_; refine S_q rfl rfl rfl (Q_cmp rfl rfl rfl rfl) ?_; refine OPS_nil ?_; refine then_n ?_; refine WP_seq ?_; refine WP_cond rfl (fun c3_1 => ?_) (fun c3_1 => ?_) <;> (first | (simp [*] at c3_1; done) | (try simp at c3_1)); refine WP_skip ?_; refine then_n ?_; refine WP_seq ?_; refine WP_block ?_; refine WP_seq ?_; refine R_region ?_; refine S_q rfl rfl rfl (Q_indexS (by assumption) (by assumption) rfl rfl rfl (elm rfl) rfl) ?_; refine S_load rfl rfl rfl rfl rfl ?_; refine L_elA (by assumption) (by assumption) (ty rfl) ?_; rintro _ _ _ ⟨xi3_2, xa3_2, po3_2, qo3_2, ps3_2, qs3_2, pc3_2, qc3_2, pn3_2, qn3_2, pm3_2, qm3_2, xw3_2, xv3_2, pf3_2, qf3_2, pr3_2, qr3_2, xe3_2, xf3_2, rfl, vo3_2, vs3_2, vc3_2, vn3_2, vm3_2, vf3_2, vr3_2⟩; refine S_c rfl rfl rfl (C_alloc rfl (zer rfl) ?_); intro b3_3; refine S_w0 rfl rfl (W_all rfl rfl rfl (ty rfl) u0 (by first | rfl | assumption) (by first | rfl | assumption) (by first | rfl | assumption | exact ones_sub (by assumption) _ _) ?_); refine OPS_nil ?_; refine then_n ?_; refine WP_seq ?_; refine WP_seq ?_; refine R_region ?_; refine S_q rfl rfl rfl (Q_fieldAddr rfl rfl (fld rfl rfl)) ?_; refine S_q rfl rfl rfl (Q_fieldAddr rfl rfl (fld rfl rfl)) ?_; refine S_load rfl rfl rfl rfl rfl ?_; refine L_fld2 (Rd.own m0) ?_; refine LV_1 (ty rfl) rfl ?_; refine S_q rfl rfl rfl (Q_len rfl rfl rfl rfl rfl rfl) ?_; refine S_q rfl rfl rfl (Q_move rfl rfl) ?_; refine OPS_nil ?_; refine then_n ?_; refine WP_block ?_))
    (refine WP_loopM (α := Nat × Nat) [_]  _ [26, 25, 7, 19, 18, 17, 5, 4] (fun (s : Nat × Nat) => v.objects.length - s.1) (fun (s : Nat × Nat) =>  [(b0_3, cells [.int .i64 (s.2 : Int)] 3)]) (fun (s : Nat × Nat) => [(27, .int .i64 (s.1 : Int))]) (fun hh (s : Nat × Nat) => hh = h1 ∧ s.1 ≤ v.objects.length ∧ s.2 = n + deadN (reachR vs) (objsL (v.objects.take s.1))) (0, n) rfl ⟨_, _, rfl, ⟨_, _, rfl, ⟨_, _, rfl, ⟨_, _, rfl, ⟨_, _, rfl, ⟨_, _, rfl, ⟨_, _, rfl, ⟨_, _, rfl, rfl, rfl⟩, rfl⟩, rfl⟩, rfl⟩, rfl⟩, rfl⟩, rfl⟩, rfl⟩ (by repeat' (first | exact trivial | refine ⟨rfl, ?_⟩)) ?_ ?_)
    · exact ⟨rfl, Nat.zero_le _, by simp [objsL_nil, deadN_nil]⟩
    rintro h2 ⟨j, n2⟩ _ ⟨rfl, hj, hn2⟩
    simp only at hj hn2
    dsimp only
    have hb2 := deadN_take_le (reachR vs) (objsL (v.objects.take j)) 12 (Nat.le_trans (objsL_le _) (by rw [List.length_take]; omega))
    by_cases hlt2 : j < v.objects.length
    · obtain ⟨x, ex⟩ := get_of hlt2
      have htk := objsL_take ex
      (focus (refine WP_seq ?_; refine R_region ?_; refine S_q rfl rfl rfl (Q_cmp rfl rfl rfl rfl) ?_; refine OPS_nil ?_; refine then_n ?_; refine WP_seq ?_; refine WP_cond rfl (fun c5_1 => ?_) (fun c5_1 => ?_) <;> (first | (simp [*] at c5_1; done) | (try simp at c5_1)); refine WP_skip ?_; refine then_n ?_; refine WP_seq ?_; refine WP_block ?_; refine WP_seq ?_; refine R_region ?_; refine S_q rfl rfl rfl (Q_indexS (by assumption) (by assumption) rfl rfl rfl (elm rfl) rfl) ?_; refine S_load rfl rfl rfl rfl rfl ?_; refine L_elA (by assumption) (by assumption) (ty rfl) ?_; rintro _ _ _ ⟨pn5_2, qn5_2, rfl, fn5_2⟩; refine S_c rfl rfl rfl (C_alloc rfl (zer rfl) ?_); intro b5_3; refine S_w0 rfl rfl (W_all rfl rfl rfl (ty rfl) u0 (by first | rfl | assumption) (by first | rfl | assumption) (by first | rfl | assumption | exact ones_sub (by assumption) _ _) ?_); refine OPS_nil ?_; refine then_n ?_; refine WP_seq ?_; refine R_region ?_; refine S_q rfl rfl rfl (Q_fieldAddr rfl rfl (fld rfl rfl)) ?_; refine S_load rfl rfl rfl rfl rfl ?_; refine L_fld (Rd.own m0) (ty rfl) rfl ?_; refine S_q rfl rfl rfl (Q_cmp rfl rfl rfl rfl) ?_; refine OPS_nil ?_; refine then_n ?_; refine WP_cond rfl (fun c5_4 => ?_) (fun c5_4 => ?_) <;> (first | (simp [*] at c5_4; done) | (try simp at c5_4)); (focus (refine R_region ?_; refine S_q rfl rfl rfl (Q_move rfl rfl) ?_; refine S_q rfl rfl rfl (Q_fieldAddr rfl rfl (fld rfl rfl)) ?_; refine S_load rfl rfl rfl rfl rfl ?_; refine L_sub (Rd.own m0) (ty rfl) rfl ?_)); rotate_left 1; (focus (refine WP_skip ?_; refine block_n ?_; refine then_n ?_; refine R_region ?_; refine S_q rfl rfl rfl (Q_add rfl rfl rfl (by omega)) ?_; refine S_q rfl rfl rfl (Q_move rfl rfl) ?_; refine OPS_nil ?_)); rotate_left 1))
      · refine S_w rfl rfl rfl (W_callC (vs := [.agg (idc x.id).toArray]) (cap := [ptr b0_2 0, ptr b0_3 0]) [_, _] _ (garbage1_s a1_k f0_1 (by omega)) rfl rfl rfl ⟨_, _, rfl, rfl, rfl⟩ (cal rfl) rfl ?_)
        rintro hq Lq _ hlq ⟨rfl, rfl⟩
        (focus (refine OPS_nil ?_; refine block_n ?_; refine then_n ?_; refine R_region ?_; refine S_q rfl rfl rfl (Q_add rfl rfl rfl (by omega)) ?_; refine S_q rfl rfl rfl (Q_move rfl rfl) ?_; refine OPS_nil ?_))
        refine roundF_n (j + 1, _) (by simp only; omega) ⟨rfl, by simp only; omega, ?_⟩ (by repeat' (first | exact List.Sublist.refl _ | exact List.sublist_append_left _ _ | exact List.nil_sublist _ | apply List.Sublist.cons₂ | apply List.Sublist.cons)) (by repeat' (first | exact trivial | refine ⟨rfl, ?_⟩))
        simp only; rw [htk, if_neg c5_4, deadN_snoc, hn2]; omega
      · refine roundF_n (j + 1, n2) (by simp only; omega) ⟨rfl, by simp only; omega, ?_⟩ (by repeat' (first | exact List.Sublist.refl _ | exact List.sublist_append_left _ _ | exact List.nil_sublist _ | apply List.Sublist.cons₂ | apply List.Sublist.cons)) (by repeat' (first | exact trivial | refine ⟨rfl, ?_⟩))
        simp only; rw [htk, if_pos c5_4, List.append_nil, hn2]
    have hge : j = v.objects.length := by omega
    subst hge
    rw [List.take_length, ← viewObjs_def] at hn2
    rw [List.take_length, ← viewObjs_def] at hb2
    (focus (refine WP_seq ?_; refine R_region ?_; refine S_q rfl rfl rfl (Q_cmp rfl rfl rfl rfl) ?_; refine OPS_nil ?_; refine then_n ?_; refine WP_seq ?_; refine WP_cond rfl (fun c7_1 => ?_) (fun c7_1 => ?_) <;> (first | (simp [*] at c7_1; done) | (try simp at c7_1)); refine WP_exit ?_; refine then_e ?_; refine roundF_e ?_; refine block_e ?_; refine then_n ?_; refine WP_seq ?_; refine WP_seq ?_; refine R_region ?_; refine S_q rfl rfl rfl (Q_fieldAddr rfl rfl (fld rfl rfl)) ?_; refine S_load rfl rfl rfl rfl rfl ?_; refine L_fld (Rd.own m0) (ty rfl) rfl ?_; refine S_q rfl rfl rfl (Q_len rfl rfl rfl rfl rfl rfl) ?_; refine S_q rfl rfl rfl (Q_move rfl rfl) ?_; refine OPS_nil ?_; refine then_n ?_; refine WP_block ?_))
    (refine WP_loopM (α := Nat × Nat) [_]  _ [41, 40, 7, 19, 18, 17, 5, 4] (fun (s : Nat × Nat) => v.stubs.length - s.1) (fun (s : Nat × Nat) =>  [(b0_3, cells [.int .i64 (s.2 : Int)] 3)]) (fun (s : Nat × Nat) => [(42, .int .i64 (s.1 : Int))]) (fun hh (s : Nat × Nat) => hh = h2 ∧ s.1 ≤ v.stubs.length ∧ s.2 = n2 + deadN (reachR vs) ((v.stubs.take s.1).map (·.id))) (0, n2) rfl ⟨_, _, rfl, ⟨_, _, rfl, ⟨_, _, rfl, ⟨_, _, rfl, ⟨_, _, rfl, ⟨_, _, rfl, ⟨_, _, rfl, ⟨_, _, rfl, rfl, rfl⟩, rfl⟩, rfl⟩, rfl⟩, rfl⟩, rfl⟩, rfl⟩, rfl⟩ (by repeat' (first | exact trivial | refine ⟨rfl, ?_⟩)) ?_ ?_)
    · exact ⟨rfl, Nat.zero_le _, by simp [deadN_nil]⟩
    rintro h3 ⟨j, n3⟩ _ ⟨rfl, hj, hn3⟩
    simp only at hj hn3
    dsimp only
    have hb3 := deadN_take_le (reachR vs) ((v.stubs.take j).map (·.id)) 12 (by rw [List.length_map, List.length_take]; omega)
    by_cases hlt3 : j < v.stubs.length
    · obtain ⟨x, ex⟩ := get_of hlt3
      have htk := mapid_take (·.id) ex
      (focus (refine WP_seq ?_; refine R_region ?_; refine S_q rfl rfl rfl (Q_cmp rfl rfl rfl rfl) ?_; refine OPS_nil ?_; refine then_n ?_; refine WP_seq ?_; refine WP_cond rfl (fun c9_1 => ?_) (fun c9_1 => ?_) <;> (first | (simp [*] at c9_1; done) | (try simp at c9_1)); refine WP_skip ?_; refine then_n ?_; refine WP_seq ?_; refine WP_block ?_; refine WP_seq ?_; refine R_region ?_; refine S_q rfl rfl rfl (Q_indexS (by assumption) (by assumption) rfl rfl rfl (elm rfl) rfl) ?_; refine S_load rfl rfl rfl rfl rfl ?_; refine L_elA (by assumption) (by assumption) (ty rfl) ?_; rintro _ _ _ ⟨xa9_2, xb9_2, xc9_2, xd9_2, xe9_2, xf9_2, rfl⟩; refine S_c rfl rfl rfl (C_alloc rfl (zer rfl) ?_); intro b9_3; refine S_w0 rfl rfl (W_all rfl rfl rfl (ty rfl) u0 (by first | rfl | assumption) (by first | rfl | assumption) (by first | rfl | assumption | exact ones_sub (by assumption) _ _) ?_); refine OPS_nil ?_; refine then_n ?_; refine R_region ?_; refine S_q rfl rfl rfl (Q_move rfl rfl) ?_; refine S_q rfl rfl rfl (Q_fieldAddr rfl rfl (fld rfl rfl)) ?_; refine S_load rfl rfl rfl rfl rfl ?_; refine L_sub (Rd.own m0) (ty rfl) rfl ?_))
      refine S_w rfl rfl rfl (W_callC (vs := [.agg (idc x.id).toArray]) (cap := [ptr b0_2 0, ptr b0_3 0]) [_, _] _ (garbage1_s a1_k f0_1 (by omega)) rfl rfl rfl ⟨_, _, rfl, rfl, rfl⟩ (cal rfl) rfl ?_)
      rintro hq Lq _ hlq ⟨rfl, rfl⟩
      (focus (refine OPS_nil ?_; refine block_n ?_; refine then_n ?_; refine R_region ?_; refine S_q rfl rfl rfl (Q_add rfl rfl rfl (by omega)) ?_; refine S_q rfl rfl rfl (Q_move rfl rfl) ?_; refine OPS_nil ?_))
      refine roundF_n (j + 1, _) (by simp only; omega) ⟨rfl, by simp only; omega, ?_⟩ (by repeat' (first | exact List.Sublist.refl _ | exact List.sublist_append_left _ _ | exact List.nil_sublist _ | apply List.Sublist.cons₂ | apply List.Sublist.cons)) (by repeat' (first | exact trivial | refine ⟨rfl, ?_⟩))
      simp only; rw [htk, deadN_snoc, hn3]; omega
    have hge : j = v.stubs.length := by omega
    subst hge
    rw [List.take_length] at hn3 hb3
    (focus (refine WP_seq ?_; refine R_region ?_; refine S_q rfl rfl rfl (Q_cmp rfl rfl rfl rfl) ?_; refine OPS_nil ?_; refine then_n ?_; refine WP_seq ?_; refine WP_cond rfl (fun c11_1 => ?_) (fun c11_1 => ?_) <;> (first | (simp [*] at c11_1; done) | (try simp at c11_1)); refine WP_exit ?_; refine then_e ?_; refine roundF_e ?_; refine block_e ?_; refine then_n ?_; refine WP_seq ?_; refine R_region ?_; refine S_q rfl rfl rfl (Q_fieldAddr rfl rfl (fld rfl rfl)) ?_; refine S_load rfl rfl rfl rfl rfl ?_; refine L_fld (Rd.own m0) (ty rfl) rfl ?_; refine S_q rfl rfl rfl (Q_len rfl rfl rfl rfl rfl rfl) ?_; refine S_q rfl rfl rfl (Q_move rfl rfl) ?_; refine OPS_nil ?_; refine then_n ?_; refine WP_block ?_))
    (refine WP_loopM (α := Nat × Nat) [_]  _ [53, 52, 19, 18, 17, 5, 4] (fun (s : Nat × Nat) => v.scions.length - s.1) (fun (s : Nat × Nat) =>  [(b0_3, cells [.int .i64 (s.2 : Int)] 3)]) (fun (s : Nat × Nat) => [(54, .int .i64 (s.1 : Int))]) (fun hh (s : Nat × Nat) => hh = h3 ∧ s.1 ≤ v.scions.length ∧ s.2 = n3 + deadN (reachR vs) ((v.scions.take s.1).map (·.id))) (0, n3) rfl ⟨_, _, rfl, ⟨_, _, rfl, ⟨_, _, rfl, ⟨_, _, rfl, ⟨_, _, rfl, ⟨_, _, rfl, ⟨_, _, rfl, rfl, rfl⟩, rfl⟩, rfl⟩, rfl⟩, rfl⟩, rfl⟩, rfl⟩ (by repeat' (first | exact trivial | refine ⟨rfl, ?_⟩)) ?_ ?_)
    · exact ⟨rfl, Nat.zero_le _, by simp [deadN_nil]⟩
    rintro h4 ⟨j, n4⟩ _ ⟨rfl, hj, hn4⟩
    simp only at hj hn4
    dsimp only
    have hb4 := deadN_take_le (reachR vs) ((v.scions.take j).map (·.id)) 12 (by rw [List.length_map, List.length_take]; omega)
    by_cases hlt4 : j < v.scions.length
    · obtain ⟨x, ex⟩ := get_of hlt4
      have htk := mapid_take (·.id) ex
      (focus (refine WP_seq ?_; refine R_region ?_; refine S_q rfl rfl rfl (Q_cmp rfl rfl rfl rfl) ?_; refine OPS_nil ?_; refine then_n ?_; refine WP_seq ?_; refine WP_cond rfl (fun c13_1 => ?_) (fun c13_1 => ?_) <;> (first | (simp [*] at c13_1; done) | (try simp at c13_1)); refine WP_skip ?_; refine then_n ?_; refine WP_seq ?_; refine WP_block ?_; refine WP_seq ?_; refine R_region ?_; refine S_q rfl rfl rfl (Q_indexS (by assumption) (by assumption) rfl rfl rfl (elm rfl) rfl) ?_; refine S_load rfl rfl rfl rfl rfl ?_; refine L_elA (by assumption) (by assumption) (ty rfl) ?_; rintro _ _ _ ⟨xa13_2, xb13_2, xc13_2, xd13_2, xe13_2, xf13_2, xg13_2, xh13_2, rfl⟩; refine S_c rfl rfl rfl (C_alloc rfl (zer rfl) ?_); intro b13_3; refine S_w0 rfl rfl (W_all rfl rfl rfl (ty rfl) u0 (by first | rfl | assumption) (by first | rfl | assumption) (by first | rfl | assumption | exact ones_sub (by assumption) _ _) ?_); refine OPS_nil ?_; refine then_n ?_; refine R_region ?_; refine S_q rfl rfl rfl (Q_move rfl rfl) ?_; refine S_q rfl rfl rfl (Q_fieldAddr rfl rfl (fld rfl rfl)) ?_; refine S_load rfl rfl rfl rfl rfl ?_; refine L_sub (Rd.own m0) (ty rfl) rfl ?_))
      refine S_w rfl rfl rfl (W_callC (vs := [.agg (idc x.id).toArray]) (cap := [ptr b0_2 0, ptr b0_3 0]) [_, _] _ (garbage1_s a1_k f0_1 (by omega)) rfl rfl rfl ⟨_, _, rfl, rfl, rfl⟩ (cal rfl) rfl ?_)
      rintro hq Lq _ hlq ⟨rfl, rfl⟩
      (focus (refine OPS_nil ?_; refine block_n ?_; refine then_n ?_; refine R_region ?_; refine S_q rfl rfl rfl (Q_add rfl rfl rfl (by omega)) ?_; refine S_q rfl rfl rfl (Q_move rfl rfl) ?_; refine OPS_nil ?_))
      refine roundF_n (j + 1, _) (by simp only; omega) ⟨rfl, by simp only; omega, ?_⟩ (by repeat' (first | exact List.Sublist.refl _ | exact List.sublist_append_left _ _ | exact List.nil_sublist _ | apply List.Sublist.cons₂ | apply List.Sublist.cons)) (by repeat' (first | exact trivial | refine ⟨rfl, ?_⟩))
      simp only; rw [htk, deadN_snoc, hn4]; omega
    have hge : j = v.scions.length := by omega
    subst hge
    rw [List.take_length] at hn4 hb4
    (focus (refine WP_seq ?_; refine R_region ?_; refine S_q rfl rfl rfl (Q_cmp rfl rfl rfl rfl) ?_; refine OPS_nil ?_; refine then_n ?_; refine WP_seq ?_; refine WP_cond rfl (fun c15_1 => ?_) (fun c15_1 => ?_) <;> (first | (simp [*] at c15_1; done) | (try simp at c15_1)); refine WP_exit ?_; refine then_e ?_; refine roundF_e ?_; refine block_e ?_; refine block_n ?_; refine then_n ?_; refine R_region ?_; refine S_q rfl rfl rfl (Q_add rfl rfl rfl (by omega)) ?_; refine S_q rfl rfl rfl (Q_move rfl rfl) ?_; refine OPS_nil ?_))
    refine roundF_n (k + 1, n4) (by simp only; omega) ⟨rfl, by simp only; omega, ?_⟩ (by repeat' (first | exact List.Sublist.refl _ | exact List.sublist_append_left _ _ | exact List.nil_sublist _ | apply List.Sublist.cons₂ | apply List.Sublist.cons)) (by repeat' (first | exact trivial | refine ⟨rfl, ?_⟩))
    simp only; rw [hsum, ← hn, hn4, hn3, hn2, garbageOf_def]; omega
  · have hge : k = vs.length := by omega
    subst hge
    rw [List.take_length] at hn
    (focus (refine WP_seq ?_; refine R_region ?_; refine S_q rfl rfl rfl (Q_cmp rfl rfl rfl rfl) ?_; refine OPS_nil ?_; refine then_n ?_; refine WP_seq ?_; refine WP_cond rfl (fun c16_1 => ?_) (fun c16_1 => ?_) <;> (first | (simp [*] at c16_1; done) | (try simp at c16_1)); refine WP_exit ?_; refine then_e ?_; refine roundF_e ?_; refine block_e ?_; refine then_n ?_; refine WP_seq ?_; refine R_region ?_; refine S_load rfl rfl rfl rfl rfl ?_; refine L_one (Rd.own m0) (ty rfl) ?_; refine S_q rfl rfl rfl (Q_assign rfl rfl) ?_; refine OPS_nil ?_; refine then_n ?_; refine WP_ret ?_))
    refine pret (.inl rfl) rfl ⟨_, _, rfl, rfl, rfl⟩ ?_
    simp only [resOf]; rw [hn, garbageR]
end Go.Proofs.YtfhoecgiahpddaaGreat
/-
  CONTRACT: refmeshref55.Few, at views of any size.
-/
set_option linter.all false
namespace Go.Proofs.YtfhoecgiahpddaaGreat
open Go.Mesh Go.RowKit
set_option maxRecDepth 100000
set_option linter.unusedVariables false
set_option maxHeartbeats 4000000
attribute [local irreducible] WP OPS ANY ANYo LG LV FSpec PSpec QOP OPc OPw thenQ blockQ roundQ roundF retQ retM Rd At SLB OS cmpI orI cmpID namedB valB nodeB kindB validG valAux idxI findG
def msgB (m : Msg) : Bool := decide (m.args.length ≤ 6) && (decide (m.parcel.fields.length ≤ 6) && (decide (m.parcel.mail.length ≤ 4) && m.parcel.mail.all fun l => decide (l.length ≤ 6)))
def sizesB (v : View) : Bool := decide (v.objects.length ≤ 12 ∧ v.stubs.length ≤ 12 ∧ v.scions.length ≤ 12 ∧ v.names.length ≤ 6 ∧ v.mail.length ≤ 6 ∧ v.flights.length ≤ 6 ∧ v.received.length ≤ 10)
def smallV (v : View) : Bool := sizesB v && (v.objects.all (fun n => decide (n.fields.length ≤ 6)) && (v.mail.all (fun m => decide (m.args.length ≤ 6)) && v.flights.all fun x => msgB x.msg))
def fewB (vs : List View) : Bool := vs.all smallV && decide (vs.length ≤ 5)
theorem few_false {vs : List View} {v : View} (hm : v ∈ vs) (hf : smallV v = false) : fewB vs = false := by
  rw [fewB, Bool.and_eq_false_iff]
  exact .inl (by rw [List.all_eq_false]; exact ⟨v, hm, by simp [hf]⟩)
theorem sizes_false {v : View} (h : ¬ (v.objects.length ≤ 12 ∧ v.stubs.length ≤ 12 ∧ v.scions.length ≤ 12 ∧ v.names.length ≤ 6 ∧ v.mail.length ≤ 6 ∧ v.flights.length ≤ 6 ∧ v.received.length ≤ 10)) : smallV v = false := by
  rw [smallV, sizesB, decide_eq_false h]; rfl
theorem objs_false {v : View} (h : (v.objects.all fun n => decide (n.fields.length ≤ 6)) = false) : smallV v = false := by rw [smallV, h]; simp
theorem mail_false {v : View} (h : (v.mail.all fun n => decide (n.args.length ≤ 6)) = false) : smallV v = false := by rw [smallV, h]; simp
theorem fl_false {v : View} (h : (v.flights.all fun x => msgB x.msg) = false) : smallV v = false := by rw [smallV, h]; simp
theorem msg_false {m : Msg} (h : ¬ (m.args.length ≤ 6 ∧ m.parcel.fields.length ≤ 6 ∧ m.parcel.mail.length ≤ 4)) : msgB m = false := by
  rw [msgB]
  by_cases h1 : m.args.length ≤ 6
  · by_cases h2 : m.parcel.fields.length ≤ 6
    · have h3 : ¬ m.parcel.mail.length ≤ 4 := fun h3 => h ⟨h1, h2, h3⟩
      simp [h3]
    · simp [h2]
  · simp [h1]
theorem msgm_false {m : Msg} (h : (m.parcel.mail.all fun l => decide (l.length ≤ 6)) = false) : msgB m = false := by rw [msgB, h]; simp
theorem msg_true {m : Msg} (h : m.args.length ≤ 6 ∧ m.parcel.fields.length ≤ 6 ∧ m.parcel.mail.length ≤ 4) (h2 : (m.parcel.mail.all fun l => decide (l.length ≤ 6)) = true) : msgB m = true := by
  rw [msgB, h2, decide_eq_true h.1, decide_eq_true h.2.1, decide_eq_true h.2.2]; rfl
theorem small_true {v : View} (h : v.objects.length ≤ 12 ∧ v.stubs.length ≤ 12 ∧ v.scions.length ≤ 12 ∧ v.names.length ≤ 6 ∧ v.mail.length ≤ 6 ∧ v.flights.length ≤ 6 ∧ v.received.length ≤ 10) (h1 : (v.objects.all fun n => decide (n.fields.length ≤ 6)) = true)
    (h2 : (v.mail.all fun n => decide (n.args.length ≤ 6)) = true) (h3 : (v.flights.all fun x => msgB x.msg) = true) : smallV v = true := by
  rw [smallV, sizesB, h1, h2, h3, decide_eq_true h]; rfl
attribute [local irreducible] msgB sizesB smallV fewB
theorem few_s {h : Frag} {a : Value} {vs : List View} (hs : SLB 9223372036854775807 h 13 (ViewC 9223372036854775807) a vs) : PSpec Tryz.prog 10 #[a] h (fun _ v => v = .bool (fewB vs)) := by
  have hl := hs.le
  obtain ⟨pv, cv, rfl⟩ := hs.slice
  refine pspec_of (vs := [.slice pv vs.length cv]) Tryz.func10 Tryz.ntmps10 rfl rfl ?_
  (focus (refine WP_seq ?_; refine R_region ?_; refine S_q rfl rfl rfl (Q_assign rfl rfl) ?_; refine OPS_nil ?_; refine then_n ?_; refine WP_seq ?_; refine WP_seq ?_; refine R_region ?_; refine S_q rfl rfl rfl (Q_assign rfl rfl) ?_; refine OPS_nil ?_; refine then_n ?_; refine WP_block ?_))
  (refine WP_loopC (α := Nat) [0] (fun (k : Nat) => vs.length - k) (fun (k : Nat) => [(3, .int .i64 k)]) (fun hh (k : Nat) => hh = h ∧ k ≤ vs.length ∧ (vs.drop k).all smallV = vs.all smallV) 0 ⟨_, _, rfl, rfl, rfl⟩ (by repeat' (first | exact trivial | refine ⟨rfl, ?_⟩)) ?_ ?_)
  · exact ⟨rfl, Nat.zero_le _, rfl⟩
  rintro h1 k _ ⟨rfl, hk, ht⟩
  by_cases hlt : k < vs.length
  · obtain ⟨v, ev⟩ := get_of hlt
    have hod := all_drop (p := smallV) ev
    rw [ht] at hod
    (focus (refine WP_seq ?_; refine WP_seq ?_; refine R_region ?_; refine S_q rfl rfl rfl (Q_move rfl rfl) ?_; refine S_q rfl rfl rfl (Q_move rfl rfl) ?_; refine S_q rfl rfl rfl (Q_len rfl rfl rfl rfl rfl rfl) ?_; refine S_q rfl rfl rfl (Q_cmp rfl rfl rfl rfl) ?_; refine OPS_nil ?_; refine then_n ?_; refine WP_cond rfl (fun c2_1 => ?_) (fun c2_1 => ?_) <;> (first | (simp [*] at c2_1; done) | (try simp at c2_1)); refine WP_skip ?_; refine then_n ?_; refine WP_seq ?_; refine WP_block ?_; refine WP_seq ?_; refine R_region ?_; refine S_q rfl rfl rfl (Q_move rfl rfl) ?_; refine S_q rfl rfl rfl (Q_move rfl rfl) ?_; refine S_q rfl rfl rfl (Q_indexS (by assumption) (by assumption) rfl rfl rfl (elm rfl) rfl) ?_; refine S_load rfl rfl rfl rfl rfl ?_; refine L_elA (by assumption) (by assumption) (ty rfl) ?_; rintro _ _ _ ⟨xi2_2, xa2_2, po2_2, qo2_2, ps2_2, qs2_2, pc2_2, qc2_2, pn2_2, qn2_2, pm2_2, qm2_2, xw2_2, xv2_2, pf2_2, qf2_2, pr2_2, qr2_2, xe2_2, xf2_2, rfl, vo2_2, vs2_2, vc2_2, vn2_2, vm2_2, vf2_2, vr2_2⟩; refine S_c rfl rfl rfl (C_alloc rfl (zer rfl) ?_); intro b2_3; refine S_w0 rfl rfl (W_all rfl rfl rfl (ty rfl) u0 (by first | rfl | assumption) (by first | rfl | assumption) (by first | rfl | assumption | exact ones_sub (by assumption) _ _) ?_); refine OPS_nil ?_; refine then_n ?_; refine WP_seq ?_; refine WP_seq ?_; refine R_region ?_; refine S_q rfl rfl rfl (Q_fieldAddr rfl rfl (fld rfl rfl)) ?_; refine S_q rfl rfl rfl (Q_fieldAddr rfl rfl (fld rfl rfl)) ?_; refine S_load rfl rfl rfl rfl rfl ?_; refine L_fld2 (Rd.own m0) ?_; refine LV_1 (ty rfl) rfl ?_; refine S_q rfl rfl rfl (Q_len rfl rfl rfl rfl rfl rfl) ?_; refine S_q rfl rfl rfl (Q_cmp rfl rfl rfl rfl) ?_; refine S_q rfl rfl rfl (Q_move rfl rfl) ?_; refine S_gsplit rfl rfl rfl rfl (fun c2_4 => ?_) (fun c2_4 => ?_) <;> (first | (simp [*] at c2_4; done) | (try simp at c2_4)); (focus (refine S_gn rfl rfl rfl rfl rfl rfl ?_; refine S_gn rfl rfl rfl rfl rfl rfl ?_; refine S_gn rfl rfl rfl rfl rfl rfl ?_; refine S_gn rfl rfl rfl rfl rfl rfl ?_; refine S_q rfl rfl rfl (Q_pick_t rfl rfl rfl) ?_; refine S_q rfl rfl rfl (Q_move rfl rfl) ?_; refine S_gn rfl rfl rfl rfl rfl rfl ?_; refine S_gn rfl rfl rfl rfl rfl rfl ?_; refine S_gn rfl rfl rfl rfl rfl rfl ?_; refine S_gn rfl rfl rfl rfl rfl rfl ?_; refine S_q rfl rfl rfl (Q_pick_t rfl rfl rfl) ?_; refine S_q rfl rfl rfl (Q_move rfl rfl) ?_; refine S_gn rfl rfl rfl rfl rfl rfl ?_; refine S_gn rfl rfl rfl rfl rfl rfl ?_; refine S_gn rfl rfl rfl rfl rfl rfl ?_; refine S_gn rfl rfl rfl rfl rfl rfl ?_; refine S_q rfl rfl rfl (Q_pick_t rfl rfl rfl) ?_; refine S_q rfl rfl rfl (Q_move rfl rfl) ?_; refine S_gn rfl rfl rfl rfl rfl rfl ?_; refine S_gn rfl rfl rfl rfl rfl rfl ?_; refine S_gn rfl rfl rfl rfl rfl rfl ?_; refine S_gn rfl rfl rfl rfl rfl rfl ?_; refine S_q rfl rfl rfl (Q_pick_t rfl rfl rfl) ?_; refine S_q rfl rfl rfl (Q_move rfl rfl) ?_; refine S_gn rfl rfl rfl rfl rfl rfl ?_; refine S_gn rfl rfl rfl rfl rfl rfl ?_; refine S_gn rfl rfl rfl rfl rfl rfl ?_; refine S_gn rfl rfl rfl rfl rfl rfl ?_; refine S_q rfl rfl rfl (Q_pick_t rfl rfl rfl) ?_; refine S_q rfl rfl rfl (Q_move rfl rfl) ?_; refine S_gn rfl rfl rfl rfl rfl rfl ?_; refine S_gn rfl rfl rfl rfl rfl rfl ?_; refine S_gn rfl rfl rfl rfl rfl rfl ?_; refine S_gn rfl rfl rfl rfl rfl rfl ?_; refine S_q rfl rfl rfl (Q_pick_t rfl rfl rfl) ?_; refine OPS_nil ?_; refine then_n ?_; refine cond_t rfl ?_; refine WP_seq ?_; refine R_region ?_; refine S_q rfl rfl rfl (Q_assign rfl rfl) ?_; refine OPS_nil ?_; refine then_n ?_; refine WP_ret ?_; refine then_r ?_; refine block_r ?_; refine then_r ?_; refine roundF_r ?_; refine block_r ?_; refine then_r ?_)); rotate_left 1; (focus (refine S_gq rfl rfl rfl rfl rfl rfl (Q_fieldAddr rfl rfl (fld rfl rfl)) ?_; refine S_gload rfl rfl rfl rfl rfl rfl rfl rfl ?_; refine L_fld (Rd.own m0) (ty rfl) rfl ?_; refine S_gq rfl rfl rfl rfl rfl rfl (Q_len rfl rfl rfl rfl rfl rfl) ?_; refine S_gq rfl rfl rfl rfl rfl rfl (Q_cmp rfl rfl rfl rfl) ?_; refine S_q rfl rfl rfl (Q_pick_f rfl rfl rfl) ?_; refine S_q rfl rfl rfl (Q_move rfl rfl) ?_; refine S_gsplit rfl rfl rfl rfl (fun c2_5 => ?_) (fun c2_5 => ?_) <;> (first | (simp [*] at c2_5; done) | (try simp at c2_5)); (focus (refine S_gn rfl rfl rfl rfl rfl rfl ?_; refine S_gn rfl rfl rfl rfl rfl rfl ?_; refine S_gn rfl rfl rfl rfl rfl rfl ?_; refine S_gn rfl rfl rfl rfl rfl rfl ?_; refine S_q rfl rfl rfl (Q_pick_t rfl rfl rfl) ?_; refine S_q rfl rfl rfl (Q_move rfl rfl) ?_; refine S_gn rfl rfl rfl rfl rfl rfl ?_; refine S_gn rfl rfl rfl rfl rfl rfl ?_; refine S_gn rfl rfl rfl rfl rfl rfl ?_; refine S_gn rfl rfl rfl rfl rfl rfl ?_; refine S_q rfl rfl rfl (Q_pick_t rfl rfl rfl) ?_; refine S_q rfl rfl rfl (Q_move rfl rfl) ?_; refine S_gn rfl rfl rfl rfl rfl rfl ?_; refine S_gn rfl rfl rfl rfl rfl rfl ?_; refine S_gn rfl rfl rfl rfl rfl rfl ?_; refine S_gn rfl rfl rfl rfl rfl rfl ?_; refine S_q rfl rfl rfl (Q_pick_t rfl rfl rfl) ?_; refine S_q rfl rfl rfl (Q_move rfl rfl) ?_; refine S_gn rfl rfl rfl rfl rfl rfl ?_; refine S_gn rfl rfl rfl rfl rfl rfl ?_; refine S_gn rfl rfl rfl rfl rfl rfl ?_; refine S_gn rfl rfl rfl rfl rfl rfl ?_; refine S_q rfl rfl rfl (Q_pick_t rfl rfl rfl) ?_; refine S_q rfl rfl rfl (Q_move rfl rfl) ?_; refine S_gn rfl rfl rfl rfl rfl rfl ?_; refine S_gn rfl rfl rfl rfl rfl rfl ?_; refine S_gn rfl rfl rfl rfl rfl rfl ?_; refine S_gn rfl rfl rfl rfl rfl rfl ?_; refine S_q rfl rfl rfl (Q_pick_t rfl rfl rfl) ?_; refine OPS_nil ?_; refine then_n ?_; refine cond_t rfl ?_; refine WP_seq ?_; refine R_region ?_; refine S_q rfl rfl rfl (Q_assign rfl rfl) ?_; refine OPS_nil ?_; refine then_n ?_; refine WP_ret ?_; refine then_r ?_; refine block_r ?_; refine then_r ?_; refine roundF_r ?_; refine block_r ?_; refine then_r ?_)); rotate_left 1; (focus (refine S_gq rfl rfl rfl rfl rfl rfl (Q_fieldAddr rfl rfl (fld rfl rfl)) ?_; refine S_gload rfl rfl rfl rfl rfl rfl rfl rfl ?_; refine L_fld (Rd.own m0) (ty rfl) rfl ?_; refine S_gq rfl rfl rfl rfl rfl rfl (Q_len rfl rfl rfl rfl rfl rfl) ?_; refine S_gq rfl rfl rfl rfl rfl rfl (Q_cmp rfl rfl rfl rfl) ?_; refine S_q rfl rfl rfl (Q_pick_f rfl rfl rfl) ?_; refine S_q rfl rfl rfl (Q_move rfl rfl) ?_; refine S_gsplit rfl rfl rfl rfl (fun c2_6 => ?_) (fun c2_6 => ?_) <;> (first | (simp [*] at c2_6; done) | (try simp at c2_6)); (focus (refine S_gn rfl rfl rfl rfl rfl rfl ?_; refine S_gn rfl rfl rfl rfl rfl rfl ?_; refine S_gn rfl rfl rfl rfl rfl rfl ?_; refine S_gn rfl rfl rfl rfl rfl rfl ?_; refine S_q rfl rfl rfl (Q_pick_t rfl rfl rfl) ?_; refine S_q rfl rfl rfl (Q_move rfl rfl) ?_; refine S_gn rfl rfl rfl rfl rfl rfl ?_; refine S_gn rfl rfl rfl rfl rfl rfl ?_; refine S_gn rfl rfl rfl rfl rfl rfl ?_; refine S_gn rfl rfl rfl rfl rfl rfl ?_; refine S_q rfl rfl rfl (Q_pick_t rfl rfl rfl) ?_; refine S_q rfl rfl rfl (Q_move rfl rfl) ?_; refine S_gn rfl rfl rfl rfl rfl rfl ?_; refine S_gn rfl rfl rfl rfl rfl rfl ?_; refine S_gn rfl rfl rfl rfl rfl rfl ?_; refine S_gn rfl rfl rfl rfl rfl rfl ?_; refine S_q rfl rfl rfl (Q_pick_t rfl rfl rfl) ?_; refine S_q rfl rfl rfl (Q_move rfl rfl) ?_; refine S_gn rfl rfl rfl rfl rfl rfl ?_; refine S_gn rfl rfl rfl rfl rfl rfl ?_; refine S_gn rfl rfl rfl rfl rfl rfl ?_; refine S_gn rfl rfl rfl rfl rfl rfl ?_; refine S_q rfl rfl rfl (Q_pick_t rfl rfl rfl) ?_; refine OPS_nil ?_; refine then_n ?_; refine cond_t rfl ?_; refine WP_seq ?_; refine R_region ?_; refine S_q rfl rfl rfl (Q_assign rfl rfl) ?_; refine OPS_nil ?_; refine then_n ?_; refine WP_ret ?_; refine then_r ?_; refine block_r ?_; refine then_r ?_; refine roundF_r ?_; refine block_r ?_; refine then_r ?_)); rotate_left 1; (focus (refine S_gq rfl rfl rfl rfl rfl rfl (Q_fieldAddr rfl rfl (fld rfl rfl)) ?_; refine S_gload rfl rfl rfl rfl rfl rfl rfl rfl ?_; refine L_fld (Rd.own m0) (ty rfl) rfl ?_; refine S_gq rfl rfl rfl rfl rfl rfl (Q_len rfl rfl rfl rfl rfl rfl) ?_; refine S_gq rfl rfl rfl rfl rfl rfl (Q_cmp rfl rfl rfl rfl) ?_; refine S_q rfl rfl rfl (Q_pick_f rfl rfl rfl) ?_; refine S_q rfl rfl rfl (Q_move rfl rfl) ?_; refine S_gsplit rfl rfl rfl rfl (fun c2_7 => ?_) (fun c2_7 => ?_) <;> (first | (simp [*] at c2_7; done) | (try simp at c2_7)); (focus (refine S_gn rfl rfl rfl rfl rfl rfl ?_; refine S_gn rfl rfl rfl rfl rfl rfl ?_; refine S_gn rfl rfl rfl rfl rfl rfl ?_; refine S_gn rfl rfl rfl rfl rfl rfl ?_; refine S_q rfl rfl rfl (Q_pick_t rfl rfl rfl) ?_; refine S_q rfl rfl rfl (Q_move rfl rfl) ?_; refine S_gn rfl rfl rfl rfl rfl rfl ?_; refine S_gn rfl rfl rfl rfl rfl rfl ?_; refine S_gn rfl rfl rfl rfl rfl rfl ?_; refine S_gn rfl rfl rfl rfl rfl rfl ?_; refine S_q rfl rfl rfl (Q_pick_t rfl rfl rfl) ?_; refine S_q rfl rfl rfl (Q_move rfl rfl) ?_; refine S_gn rfl rfl rfl rfl rfl rfl ?_; refine S_gn rfl rfl rfl rfl rfl rfl ?_; refine S_gn rfl rfl rfl rfl rfl rfl ?_; refine S_gn rfl rfl rfl rfl rfl rfl ?_; refine S_q rfl rfl rfl (Q_pick_t rfl rfl rfl) ?_; refine OPS_nil ?_; refine then_n ?_; refine cond_t rfl ?_; refine WP_seq ?_; refine R_region ?_; refine S_q rfl rfl rfl (Q_assign rfl rfl) ?_; refine OPS_nil ?_; refine then_n ?_; refine WP_ret ?_; refine then_r ?_; refine block_r ?_; refine then_r ?_; refine roundF_r ?_; refine block_r ?_; refine then_r ?_)); rotate_left 1; (focus (refine S_gq rfl rfl rfl rfl rfl rfl (Q_fieldAddr rfl rfl (fld rfl rfl)) ?_; refine S_gload rfl rfl rfl rfl rfl rfl rfl rfl ?_; refine L_fld (Rd.own m0) (ty rfl) rfl ?_; refine S_gq rfl rfl rfl rfl rfl rfl (Q_len rfl rfl rfl rfl rfl rfl) ?_; refine S_gq rfl rfl rfl rfl rfl rfl (Q_cmp rfl rfl rfl rfl) ?_; refine S_q rfl rfl rfl (Q_pick_f rfl rfl rfl) ?_; refine S_q rfl rfl rfl (Q_move rfl rfl) ?_; refine S_gsplit rfl rfl rfl rfl (fun c2_8 => ?_) (fun c2_8 => ?_) <;> (first | (simp [*] at c2_8; done) | (try simp at c2_8)); (focus (refine S_gn rfl rfl rfl rfl rfl rfl ?_; refine S_gn rfl rfl rfl rfl rfl rfl ?_; refine S_gn rfl rfl rfl rfl rfl rfl ?_; refine S_gn rfl rfl rfl rfl rfl rfl ?_; refine S_q rfl rfl rfl (Q_pick_t rfl rfl rfl) ?_; refine S_q rfl rfl rfl (Q_move rfl rfl) ?_; refine S_gn rfl rfl rfl rfl rfl rfl ?_; refine S_gn rfl rfl rfl rfl rfl rfl ?_; refine S_gn rfl rfl rfl rfl rfl rfl ?_; refine S_gn rfl rfl rfl rfl rfl rfl ?_; refine S_q rfl rfl rfl (Q_pick_t rfl rfl rfl) ?_; refine OPS_nil ?_; refine then_n ?_; refine cond_t rfl ?_; refine WP_seq ?_; refine R_region ?_; refine S_q rfl rfl rfl (Q_assign rfl rfl) ?_; refine OPS_nil ?_; refine then_n ?_; refine WP_ret ?_; refine then_r ?_; refine block_r ?_; refine then_r ?_; refine roundF_r ?_; refine block_r ?_; refine then_r ?_)); rotate_left 1; (focus (refine S_gq rfl rfl rfl rfl rfl rfl (Q_fieldAddr rfl rfl (fld rfl rfl)) ?_; refine S_gload rfl rfl rfl rfl rfl rfl rfl rfl ?_; refine L_fld (Rd.own m0) (ty rfl) rfl ?_; refine S_gq rfl rfl rfl rfl rfl rfl (Q_len rfl rfl rfl rfl rfl rfl) ?_; refine S_gq rfl rfl rfl rfl rfl rfl (Q_cmp rfl rfl rfl rfl) ?_; refine S_q rfl rfl rfl (Q_pick_f rfl rfl rfl) ?_; refine S_q rfl rfl rfl (Q_move rfl rfl) ?_; refine S_gsplit rfl rfl rfl rfl (fun c2_9 => ?_) (fun c2_9 => ?_) <;> (first | (simp [*] at c2_9; done) | (try simp at c2_9)); (focus (refine S_gn rfl rfl rfl rfl rfl rfl ?_; refine S_gn rfl rfl rfl rfl rfl rfl ?_; refine S_gn rfl rfl rfl rfl rfl rfl ?_; refine S_gn rfl rfl rfl rfl rfl rfl ?_; refine S_q rfl rfl rfl (Q_pick_t rfl rfl rfl) ?_; refine OPS_nil ?_; refine then_n ?_; refine cond_t rfl ?_; refine WP_seq ?_; refine R_region ?_; refine S_q rfl rfl rfl (Q_assign rfl rfl) ?_; refine OPS_nil ?_; refine then_n ?_; refine WP_ret ?_; refine then_r ?_; refine block_r ?_; refine then_r ?_; refine roundF_r ?_; refine block_r ?_; refine then_r ?_)); rotate_left 1; (focus (refine S_gq rfl rfl rfl rfl rfl rfl (Q_fieldAddr rfl rfl (fld rfl rfl)) ?_; refine S_gload rfl rfl rfl rfl rfl rfl rfl rfl ?_; refine L_fld (Rd.own m0) (ty rfl) rfl ?_; refine S_gq rfl rfl rfl rfl rfl rfl (Q_len rfl rfl rfl rfl rfl rfl) ?_; refine S_gq rfl rfl rfl rfl rfl rfl (Q_cmp rfl rfl rfl rfl) ?_; refine S_q rfl rfl rfl (Q_pick_f rfl rfl rfl) ?_; refine OPS_nil ?_; refine then_n ?_; refine WP_cond rfl (fun c2_10 => ?_) (fun c2_10 => ?_) <;> (first | (simp [*] at c2_10; done) | (try simp at c2_10)); (focus (refine WP_seq ?_; refine R_region ?_; refine S_q rfl rfl rfl (Q_assign rfl rfl) ?_; refine OPS_nil ?_; refine then_n ?_; refine WP_ret ?_; refine then_r ?_; refine block_r ?_; refine then_r ?_; refine roundF_r ?_; refine block_r ?_; refine then_r ?_)); rotate_left 1; (focus (refine WP_skip ?_; refine then_n ?_; refine WP_seq ?_; refine WP_seq ?_; refine R_region ?_; refine S_q rfl rfl rfl (Q_assign rfl rfl) ?_; refine OPS_nil ?_; refine then_n ?_; refine WP_block ?_)); rotate_left 1)); rotate_left 2)); rotate_left 3)); rotate_left 4)); rotate_left 5)); rotate_left 6)); rotate_left 7))
    iterate 7
      · refine pret (.inl rfl) rfl ⟨_, _, rfl, rfl, rfl⟩ ?_
        refine congrArg Value.bool (few_false (List.mem_of_getElem? ev) (sizes_false ?_)).symm
        omega
    (refine WP_loopC (α := Nat) [4, 3, 0] (fun (j : Nat) => v.objects.length - j) (fun (j : Nat) => [(5, .int .i64 j)]) (fun hh (j : Nat) => hh = h1 ∧ j ≤ v.objects.length ∧ (v.objects.drop j).all (fun n => decide (n.fields.length ≤ 6)) = v.objects.all (fun n => decide (n.fields.length ≤ 6))) 0 ⟨_, _, rfl, ⟨_, _, rfl, ⟨_, _, rfl, rfl, rfl⟩, rfl⟩, rfl⟩ (by repeat' (first | exact trivial | refine ⟨rfl, ?_⟩)) ?_ ?_)
    · exact ⟨rfl, Nat.zero_le _, rfl⟩
    rintro h2 j _ ⟨rfl, hj, ht2⟩
    by_cases hlt2 : j < v.objects.length
    · obtain ⟨n, en⟩ := get_of hlt2
      have hod2 := all_drop (p := fun n : Nd => decide (n.fields.length ≤ 6)) en
      rw [ht2] at hod2
      (focus (refine WP_seq ?_; refine WP_seq ?_; refine R_region ?_; refine S_q rfl rfl rfl (Q_move rfl rfl) ?_; refine S_q rfl rfl rfl (Q_fieldAddr rfl rfl (fld rfl rfl)) ?_; refine S_q rfl rfl rfl (Q_fieldAddr rfl rfl (fld rfl rfl)) ?_; refine S_load rfl rfl rfl rfl rfl ?_; refine L_fld2 (Rd.own m0) ?_; refine LV_1 (ty rfl) rfl ?_; refine S_q rfl rfl rfl (Q_len rfl rfl rfl rfl rfl rfl) ?_; refine S_q rfl rfl rfl (Q_cmp rfl rfl rfl rfl) ?_; refine OPS_nil ?_; refine then_n ?_; refine WP_cond rfl (fun c4_1 => ?_) (fun c4_1 => ?_) <;> (first | (simp [*] at c4_1; done) | (try simp at c4_1)); refine WP_skip ?_; refine then_n ?_; refine WP_seq ?_; refine WP_block ?_; refine WP_seq ?_; refine R_region ?_; refine S_q rfl rfl rfl (Q_fieldAddr rfl rfl (fld rfl rfl)) ?_; refine S_q rfl rfl rfl (Q_fieldAddr rfl rfl (fld rfl rfl)) ?_; refine S_load rfl rfl rfl rfl rfl ?_; refine L_fld2 (Rd.own m0) ?_; refine LV_1 (ty rfl) rfl ?_; refine S_q rfl rfl rfl (Q_move rfl rfl) ?_; refine S_q rfl rfl rfl (Q_indexS (by assumption) (by assumption) rfl rfl rfl (elm rfl) rfl) ?_; refine S_q rfl rfl rfl (Q_fieldAddr rfl rfl (fld rfl rfl)) ?_; refine S_load rfl rfl rfl rfl rfl ?_; refine L_elF (by assumption) (by assumption) ?_; rintro _ _ _ ⟨pn4_2, qn4_2, rfl, fn4_2⟩; refine LV_1 (ty rfl) rfl ?_; refine S_q rfl rfl rfl (Q_len rfl rfl rfl rfl rfl rfl) ?_; refine S_q rfl rfl rfl (Q_cmp rfl rfl rfl rfl) ?_; refine OPS_nil ?_; refine then_n ?_; refine WP_cond rfl (fun c4_3 => ?_) (fun c4_3 => ?_) <;> (first | (simp [*] at c4_3; done) | (try simp at c4_3)); (focus (refine WP_seq ?_; refine R_region ?_; refine S_q rfl rfl rfl (Q_assign rfl rfl) ?_; refine OPS_nil ?_; refine then_n ?_; refine WP_ret ?_; refine block_r ?_; refine then_r ?_; refine roundF_r ?_; refine block_r ?_; refine then_r ?_; refine block_r ?_; refine then_r ?_; refine roundF_r ?_; refine block_r ?_; refine then_r ?_)); rotate_left 1; (focus (refine WP_skip ?_; refine block_n ?_; refine then_n ?_; refine R_region ?_; refine S_q rfl rfl rfl (Q_move rfl rfl) ?_; refine S_q rfl rfl rfl (Q_add rfl rfl rfl (by omega)) ?_; refine S_q rfl rfl rfl (Q_assign rfl rfl) ?_; refine OPS_nil ?_)); rotate_left 1))
      · refine pret (.inl rfl) rfl ⟨_, _, rfl, rfl, rfl⟩ ?_
        refine congrArg Value.bool (few_false (List.mem_of_getElem? ev) (objs_false ?_)).symm
        rw [hod2, decide_eq_false (by omega)]; rfl
      · refine roundF_n (j + 1) (by omega) ⟨rfl, by omega, ?_⟩ (by repeat' (first | exact List.Sublist.refl _ | exact List.sublist_append_left _ _ | exact List.nil_sublist _ | apply List.Sublist.cons₂ | apply List.Sublist.cons)) (by repeat' (first | exact trivial | refine ⟨rfl, ?_⟩))
        rw [hod2, decide_eq_true (by omega)]; rfl
    have hge : j = v.objects.length := by omega
    subst hge
    rw [List.drop_length] at ht2
    (focus (refine WP_seq ?_; refine WP_seq ?_; refine R_region ?_; refine S_q rfl rfl rfl (Q_move rfl rfl) ?_; refine S_q rfl rfl rfl (Q_fieldAddr rfl rfl (fld rfl rfl)) ?_; refine S_q rfl rfl rfl (Q_fieldAddr rfl rfl (fld rfl rfl)) ?_; refine S_load rfl rfl rfl rfl rfl ?_; refine L_fld2 (Rd.own m0) ?_; refine LV_1 (ty rfl) rfl ?_; refine S_q rfl rfl rfl (Q_len rfl rfl rfl rfl rfl rfl) ?_; refine S_q rfl rfl rfl (Q_cmp rfl rfl rfl rfl) ?_; refine OPS_nil ?_; refine then_n ?_; refine WP_cond rfl (fun c5_1 => ?_) (fun c5_1 => ?_) <;> (first | (simp [*] at c5_1; done) | (try simp at c5_1)); refine WP_exit ?_; refine then_e ?_; refine roundF_e ?_; refine block_e ?_; refine then_n ?_; refine WP_seq ?_; refine WP_seq ?_; refine R_region ?_; refine S_q rfl rfl rfl (Q_assign rfl rfl) ?_; refine OPS_nil ?_; refine then_n ?_; refine WP_block ?_))
    (refine WP_loopC (α := Nat) [4, 3, 0] (fun (j : Nat) => v.mail.length - j) (fun (j : Nat) => [(6, .int .i64 j)]) (fun hh (j : Nat) => hh = h2 ∧ j ≤ v.mail.length ∧ (v.mail.drop j).all (fun m => decide (m.args.length ≤ 6)) = v.mail.all (fun m => decide (m.args.length ≤ 6))) 0 ⟨_, _, rfl, ⟨_, _, rfl, ⟨_, _, rfl, rfl, rfl⟩, rfl⟩, rfl⟩ (by repeat' (first | exact trivial | refine ⟨rfl, ?_⟩)) ?_ ?_)
    · exact ⟨rfl, Nat.zero_le _, rfl⟩
    rintro h3 j _ ⟨rfl, hj, ht3⟩
    by_cases hlt3 : j < v.mail.length
    · obtain ⟨n, en⟩ := get_of hlt3
      have hod3 := all_drop (p := fun n : MailE => decide (n.args.length ≤ 6)) en
      rw [ht3] at hod3
      (focus (refine WP_seq ?_; refine WP_seq ?_; refine R_region ?_; refine S_q rfl rfl rfl (Q_move rfl rfl) ?_; refine S_q rfl rfl rfl (Q_fieldAddr rfl rfl (fld rfl rfl)) ?_; refine S_load rfl rfl rfl rfl rfl ?_; refine L_fld (Rd.own m0) (ty rfl) rfl ?_; refine S_q rfl rfl rfl (Q_len rfl rfl rfl rfl rfl rfl) ?_; refine S_q rfl rfl rfl (Q_cmp rfl rfl rfl rfl) ?_; refine OPS_nil ?_; refine then_n ?_; refine WP_cond rfl (fun c7_1 => ?_) (fun c7_1 => ?_) <;> (first | (simp [*] at c7_1; done) | (try simp at c7_1)); refine WP_skip ?_; refine then_n ?_; refine WP_seq ?_; refine WP_block ?_; refine WP_seq ?_; refine R_region ?_; refine S_q rfl rfl rfl (Q_fieldAddr rfl rfl (fld rfl rfl)) ?_; refine S_load rfl rfl rfl rfl rfl ?_; refine L_fld (Rd.own m0) (ty rfl) rfl ?_; refine S_q rfl rfl rfl (Q_move rfl rfl) ?_; refine S_q rfl rfl rfl (Q_indexS (by assumption) (by assumption) rfl rfl rfl (elm rfl) rfl) ?_; refine S_q rfl rfl rfl (Q_fieldAddr rfl rfl (fld rfl rfl)) ?_; refine S_load rfl rfl rfl rfl rfl ?_; refine L_elF (by assumption) (by assumption) ?_; rintro _ _ _ ⟨xa7_2, xb7_2, xm7_2, pl7_2, ql7_2, rfl, fl7_2⟩; refine LV_1 (ty rfl) rfl ?_; refine S_q rfl rfl rfl (Q_len rfl rfl rfl rfl rfl rfl) ?_; refine S_q rfl rfl rfl (Q_cmp rfl rfl rfl rfl) ?_; refine OPS_nil ?_; refine then_n ?_; refine WP_cond rfl (fun c7_3 => ?_) (fun c7_3 => ?_) <;> (first | (simp [*] at c7_3; done) | (try simp at c7_3)); (focus (refine WP_seq ?_; refine R_region ?_; refine S_q rfl rfl rfl (Q_assign rfl rfl) ?_; refine OPS_nil ?_; refine then_n ?_; refine WP_ret ?_; refine block_r ?_; refine then_r ?_; refine roundF_r ?_; refine block_r ?_; refine then_r ?_; refine block_r ?_; refine then_r ?_; refine roundF_r ?_; refine block_r ?_; refine then_r ?_)); rotate_left 1; (focus (refine WP_skip ?_; refine block_n ?_; refine then_n ?_; refine R_region ?_; refine S_q rfl rfl rfl (Q_move rfl rfl) ?_; refine S_q rfl rfl rfl (Q_add rfl rfl rfl (by omega)) ?_; refine S_q rfl rfl rfl (Q_assign rfl rfl) ?_; refine OPS_nil ?_)); rotate_left 1))
      · refine pret (.inl rfl) rfl ⟨_, _, rfl, rfl, rfl⟩ ?_
        refine congrArg Value.bool (few_false (List.mem_of_getElem? ev) (mail_false ?_)).symm
        rw [hod3, decide_eq_false (by omega)]; rfl
      · refine roundF_n (j + 1) (by omega) ⟨rfl, by omega, ?_⟩ (by repeat' (first | exact List.Sublist.refl _ | exact List.sublist_append_left _ _ | exact List.nil_sublist _ | apply List.Sublist.cons₂ | apply List.Sublist.cons)) (by repeat' (first | exact trivial | refine ⟨rfl, ?_⟩))
        rw [hod3, decide_eq_true (by omega)]; rfl
    have hge : j = v.mail.length := by omega
    subst hge
    rw [List.drop_length] at ht3
    (focus (refine WP_seq ?_; refine WP_seq ?_; refine R_region ?_; refine S_q rfl rfl rfl (Q_move rfl rfl) ?_; refine S_q rfl rfl rfl (Q_fieldAddr rfl rfl (fld rfl rfl)) ?_; refine S_load rfl rfl rfl rfl rfl ?_; refine L_fld (Rd.own m0) (ty rfl) rfl ?_; refine S_q rfl rfl rfl (Q_len rfl rfl rfl rfl rfl rfl) ?_; refine S_q rfl rfl rfl (Q_cmp rfl rfl rfl rfl) ?_; refine OPS_nil ?_; refine then_n ?_; refine WP_cond rfl (fun c8_1 => ?_) (fun c8_1 => ?_) <;> (first | (simp [*] at c8_1; done) | (try simp at c8_1)); refine WP_exit ?_; refine then_e ?_; refine roundF_e ?_; refine block_e ?_; refine then_n ?_; refine WP_seq ?_; refine R_region ?_; refine S_q rfl rfl rfl (Q_assign rfl rfl) ?_; refine OPS_nil ?_; refine then_n ?_; refine WP_block ?_))
    (refine WP_loopC (α := Nat) [4, 3, 0] (fun (j : Nat) => v.flights.length - j) (fun (j : Nat) => [(7, .int .i64 j)]) (fun hh (j : Nat) => hh = h3 ∧ j ≤ v.flights.length ∧ (v.flights.drop j).all (fun x => msgB x.msg) = v.flights.all (fun x => msgB x.msg)) 0 ⟨_, _, rfl, ⟨_, _, rfl, ⟨_, _, rfl, rfl, rfl⟩, rfl⟩, rfl⟩ (by repeat' (first | exact trivial | refine ⟨rfl, ?_⟩)) ?_ ?_)
    · exact ⟨rfl, Nat.zero_le _, rfl⟩
    rintro h4 j _ ⟨rfl, hj, ht4⟩
    by_cases hlt4 : j < v.flights.length
    · obtain ⟨x, ex⟩ := get_of hlt4
      have hod4 := all_drop (p := fun x : Flight => msgB x.msg) ex
      rw [ht4] at hod4
      (focus (refine WP_seq ?_; refine WP_seq ?_; refine R_region ?_; refine S_q rfl rfl rfl (Q_move rfl rfl) ?_; refine S_q rfl rfl rfl (Q_fieldAddr rfl rfl (fld rfl rfl)) ?_; refine S_load rfl rfl rfl rfl rfl ?_; refine L_fld (Rd.own m0) (ty rfl) rfl ?_; refine S_q rfl rfl rfl (Q_len rfl rfl rfl rfl rfl rfl) ?_; refine S_q rfl rfl rfl (Q_cmp rfl rfl rfl rfl) ?_; refine OPS_nil ?_; refine then_n ?_; refine WP_cond rfl (fun c10_1 => ?_) (fun c10_1 => ?_) <;> (first | (simp [*] at c10_1; done) | (try simp at c10_1)); refine WP_skip ?_; refine then_n ?_; refine WP_seq ?_; refine WP_block ?_; refine WP_seq ?_; refine R_region ?_; refine S_q rfl rfl rfl (Q_fieldAddr rfl rfl (fld rfl rfl)) ?_; refine S_load rfl rfl rfl rfl rfl ?_; refine L_fld (Rd.own m0) (ty rfl) rfl ?_; refine S_q rfl rfl rfl (Q_move rfl rfl) ?_; refine S_q rfl rfl rfl (Q_indexS (by assumption) (by assumption) rfl rfl rfl (elm rfl) rfl) ?_; refine S_q rfl rfl rfl (Q_fieldAddr rfl rfl (fld rfl rfl)) ?_; refine S_load rfl rfl rfl rfl rfl ?_; refine L_elF (by assumption) (by assumption) ?_; rintro _ _ _ ⟨xa10_2, xb10_2, xc10_2, xd10_2, xe10_2, pa10_2, qa10_2, pf10_2, qf10_2, pm10_2, qm10_2, xw10_2, y110_2, y210_2, y310_2, y410_2, y510_2, y610_2, y710_2, y810_2, y910_2, y1010_2, y1110_2, y1210_2, y1310_2, y1410_2, y1510_2, rfl, ha10_2, hf10_2, hm10_2⟩; refine LV_a (ty rfl) rfl ?_; refine S_c rfl rfl rfl (C_alloc rfl (zer rfl) ?_); intro b10_3; refine S_w0 rfl rfl (W_all rfl rfl rfl (ty rfl) u0 (by first | rfl | assumption) (by first | rfl | assumption) (by first | rfl | assumption | exact ones_sub (by assumption) _ _) ?_); refine OPS_nil ?_; refine then_n ?_; refine WP_seq ?_; refine WP_seq ?_; refine R_region ?_; refine S_q rfl rfl rfl (Q_fieldAddr rfl rfl (fld rfl rfl)) ?_; refine S_q rfl rfl rfl (Q_fieldAddr rfl rfl (fld rfl rfl)) ?_; refine S_load rfl rfl rfl rfl rfl ?_; refine L_fld2 (Rd.own m0) ?_; refine LV_1 (ty rfl) rfl ?_; refine S_q rfl rfl rfl (Q_len rfl rfl rfl rfl rfl rfl) ?_; refine S_q rfl rfl rfl (Q_cmp rfl rfl rfl rfl) ?_; refine S_q rfl rfl rfl (Q_move rfl rfl) ?_; refine S_gsplit rfl rfl rfl rfl (fun c10_4 => ?_) (fun c10_4 => ?_) <;> (first | (simp [*] at c10_4; done) | (try simp at c10_4)); (focus (refine S_gn rfl rfl rfl rfl rfl rfl ?_; refine S_gn rfl rfl rfl rfl rfl rfl ?_; refine S_gn rfl rfl rfl rfl rfl rfl ?_; refine S_gn rfl rfl rfl rfl rfl rfl ?_; refine S_gn rfl rfl rfl rfl rfl rfl ?_; refine S_q rfl rfl rfl (Q_pick_t rfl rfl rfl) ?_; refine S_q rfl rfl rfl (Q_move rfl rfl) ?_; refine S_gn rfl rfl rfl rfl rfl rfl ?_; refine S_gn rfl rfl rfl rfl rfl rfl ?_; refine S_gn rfl rfl rfl rfl rfl rfl ?_; refine S_gn rfl rfl rfl rfl rfl rfl ?_; refine S_gn rfl rfl rfl rfl rfl rfl ?_; refine S_q rfl rfl rfl (Q_pick_t rfl rfl rfl) ?_; refine OPS_nil ?_; refine then_n ?_; refine cond_t rfl ?_; refine WP_seq ?_; refine R_region ?_; refine S_q rfl rfl rfl (Q_assign rfl rfl) ?_; refine OPS_nil ?_; refine then_n ?_; refine WP_ret ?_; refine then_r ?_; refine block_r ?_; refine then_r ?_; refine roundF_r ?_; refine block_r ?_; refine block_r ?_; refine then_r ?_; refine roundF_r ?_; refine block_r ?_; refine then_r ?_)); rotate_left 1; (focus (refine S_gq rfl rfl rfl rfl rfl rfl (Q_fieldAddr rfl rfl (fld rfl rfl)) ?_; refine S_gq rfl rfl rfl rfl rfl rfl (Q_fieldAddr rfl rfl (fld rfl rfl)) ?_; refine S_gload rfl rfl rfl rfl rfl rfl rfl rfl ?_; refine L_fld2 (Rd.own m0) ?_; refine LV_1 (ty rfl) rfl ?_; refine S_gq rfl rfl rfl rfl rfl rfl (Q_len rfl rfl rfl rfl rfl rfl) ?_; refine S_gq rfl rfl rfl rfl rfl rfl (Q_cmp rfl rfl rfl rfl) ?_; refine S_q rfl rfl rfl (Q_pick_f rfl rfl rfl) ?_; refine S_q rfl rfl rfl (Q_move rfl rfl) ?_; refine S_gsplit rfl rfl rfl rfl (fun c10_5 => ?_) (fun c10_5 => ?_) <;> (first | (simp [*] at c10_5; done) | (try simp at c10_5)); (focus (refine S_gn rfl rfl rfl rfl rfl rfl ?_; refine S_gn rfl rfl rfl rfl rfl rfl ?_; refine S_gn rfl rfl rfl rfl rfl rfl ?_; refine S_gn rfl rfl rfl rfl rfl rfl ?_; refine S_gn rfl rfl rfl rfl rfl rfl ?_; refine S_q rfl rfl rfl (Q_pick_t rfl rfl rfl) ?_; refine OPS_nil ?_; refine then_n ?_; refine cond_t rfl ?_; refine WP_seq ?_; refine R_region ?_; refine S_q rfl rfl rfl (Q_assign rfl rfl) ?_; refine OPS_nil ?_; refine then_n ?_; refine WP_ret ?_; refine then_r ?_; refine block_r ?_; refine then_r ?_; refine roundF_r ?_; refine block_r ?_; refine block_r ?_; refine then_r ?_; refine roundF_r ?_; refine block_r ?_; refine then_r ?_)); rotate_left 1; (focus (refine S_gq rfl rfl rfl rfl rfl rfl (Q_fieldAddr rfl rfl (fld rfl rfl)) ?_; refine S_gq rfl rfl rfl rfl rfl rfl (Q_fieldAddr rfl rfl (fld rfl rfl)) ?_; refine S_gload rfl rfl rfl rfl rfl rfl rfl rfl ?_; refine L_fld2 (Rd.own m0) ?_; refine LV_1 (ty rfl) rfl ?_; refine S_gq rfl rfl rfl rfl rfl rfl (Q_len rfl rfl rfl rfl rfl rfl) ?_; refine S_gq rfl rfl rfl rfl rfl rfl (Q_cmp rfl rfl rfl rfl) ?_; refine S_q rfl rfl rfl (Q_pick_f rfl rfl rfl) ?_; refine OPS_nil ?_; refine then_n ?_; refine WP_cond rfl (fun c10_6 => ?_) (fun c10_6 => ?_) <;> (first | (simp [*] at c10_6; done) | (try simp at c10_6)); (focus (refine WP_seq ?_; refine R_region ?_; refine S_q rfl rfl rfl (Q_assign rfl rfl) ?_; refine OPS_nil ?_; refine then_n ?_; refine WP_ret ?_; refine then_r ?_; refine block_r ?_; refine then_r ?_; refine roundF_r ?_; refine block_r ?_; refine block_r ?_; refine then_r ?_; refine roundF_r ?_; refine block_r ?_; refine then_r ?_)); rotate_left 1; (focus (refine WP_skip ?_; refine then_n ?_; refine WP_seq ?_; refine R_region ?_; refine S_q rfl rfl rfl (Q_assign rfl rfl) ?_; refine OPS_nil ?_; refine then_n ?_; refine WP_block ?_)); rotate_left 1)); rotate_left 2)); rotate_left 3))
      iterate 3
        · refine pret (.inl rfl) rfl ⟨_, _, rfl, rfl, rfl⟩ ?_
          refine congrArg Value.bool (few_false (List.mem_of_getElem? ev) (fl_false ?_)).symm
          rw [hod4, msg_false (by omega)]; rfl
      (refine WP_loopC (α := Nat) [8, 7, 4, 3, 0] (fun (i : Nat) => x.msg.parcel.mail.length - i) (fun (i : Nat) => [(9, .int .i64 i)]) (fun hh (i : Nat) => hh = h4 ∧ i ≤ x.msg.parcel.mail.length ∧ (x.msg.parcel.mail.drop i).all (fun l => decide (l.length ≤ 6)) = x.msg.parcel.mail.all (fun l => decide (l.length ≤ 6))) 0 ⟨_, _, rfl, ⟨_, _, rfl, ⟨_, _, rfl, ⟨_, _, rfl, ⟨_, _, rfl, rfl, rfl⟩, rfl⟩, rfl⟩, rfl⟩, rfl⟩ (by repeat' (first | exact trivial | refine ⟨rfl, ?_⟩)) ?_ ?_)
      · exact ⟨rfl, Nat.zero_le _, rfl⟩
      rintro h5 i _ ⟨rfl, hi, ht5⟩
      by_cases hlt5 : i < x.msg.parcel.mail.length
      · obtain ⟨l, el⟩ := get_of hlt5
        have hod5 := all_drop (p := fun l : List Ref => decide (l.length ≤ 6)) el
        rw [ht5] at hod5
        (focus (refine WP_seq ?_; refine WP_seq ?_; refine R_region ?_; refine S_q rfl rfl rfl (Q_move rfl rfl) ?_; refine S_q rfl rfl rfl (Q_fieldAddr rfl rfl (fld rfl rfl)) ?_; refine S_q rfl rfl rfl (Q_fieldAddr rfl rfl (fld rfl rfl)) ?_; refine S_load rfl rfl rfl rfl rfl ?_; refine L_fld2 (Rd.own m0) ?_; refine LV_1 (ty rfl) rfl ?_; refine S_q rfl rfl rfl (Q_len rfl rfl rfl rfl rfl rfl) ?_; refine S_q rfl rfl rfl (Q_cmp rfl rfl rfl rfl) ?_; refine OPS_nil ?_; refine then_n ?_; refine WP_cond rfl (fun c12_1 => ?_) (fun c12_1 => ?_) <;> (first | (simp [*] at c12_1; done) | (try simp at c12_1)); refine WP_skip ?_; refine then_n ?_; refine WP_seq ?_; refine WP_block ?_; refine WP_seq ?_; refine R_region ?_; refine S_q rfl rfl rfl (Q_fieldAddr rfl rfl (fld rfl rfl)) ?_; refine S_q rfl rfl rfl (Q_fieldAddr rfl rfl (fld rfl rfl)) ?_; refine S_load rfl rfl rfl rfl rfl ?_; refine L_fld2 (Rd.own m0) ?_; refine LV_1 (ty rfl) rfl ?_; refine S_q rfl rfl rfl (Q_move rfl rfl) ?_; refine S_q rfl rfl rfl (Q_indexS (by assumption) (by assumption) rfl rfl rfl (elm rfl) rfl) ?_; refine S_q rfl rfl rfl (Q_fieldAddr rfl rfl (fld rfl rfl)) ?_; refine S_load rfl rfl rfl rfl rfl ?_; refine L_elF (by assumption) (by assumption) ?_; rintro _ _ _ ⟨xa12_2, xb12_2, xm12_2, pl12_2, ql12_2, rfl, fl12_2⟩; refine LV_1 (ty rfl) rfl ?_; refine S_q rfl rfl rfl (Q_len rfl rfl rfl rfl rfl rfl) ?_; refine S_q rfl rfl rfl (Q_cmp rfl rfl rfl rfl) ?_; refine OPS_nil ?_; refine then_n ?_; refine WP_cond rfl (fun c12_3 => ?_) (fun c12_3 => ?_) <;> (first | (simp [*] at c12_3; done) | (try simp at c12_3)); (focus (refine WP_seq ?_; refine R_region ?_; refine S_q rfl rfl rfl (Q_assign rfl rfl) ?_; refine OPS_nil ?_; refine then_n ?_; refine WP_ret ?_; refine block_r ?_; refine then_r ?_; refine roundF_r ?_; refine block_r ?_; refine block_r ?_; refine then_r ?_; refine roundF_r ?_; refine block_r ?_; refine block_r ?_; refine then_r ?_; refine roundF_r ?_; refine block_r ?_; refine then_r ?_)); rotate_left 1; (focus (refine WP_skip ?_; refine block_n ?_; refine then_n ?_; refine R_region ?_; refine S_q rfl rfl rfl (Q_move rfl rfl) ?_; refine S_q rfl rfl rfl (Q_add rfl rfl rfl (by omega)) ?_; refine S_q rfl rfl rfl (Q_assign rfl rfl) ?_; refine OPS_nil ?_)); rotate_left 1))
        · refine pret (.inl rfl) rfl ⟨_, _, rfl, rfl, rfl⟩ ?_
          refine congrArg Value.bool (few_false (List.mem_of_getElem? ev) (fl_false ?_)).symm
          rw [hod4, msgm_false (by rw [hod5, decide_eq_false (by omega)]; rfl)]; rfl
        · refine roundF_n (i + 1) (by omega) ⟨rfl, by omega, ?_⟩ (by repeat' (first | exact List.Sublist.refl _ | exact List.sublist_append_left _ _ | exact List.nil_sublist _ | apply List.Sublist.cons₂ | apply List.Sublist.cons)) (by repeat' (first | exact trivial | refine ⟨rfl, ?_⟩))
          rw [hod5, decide_eq_true (by omega)]; rfl
      · have hge : i = x.msg.parcel.mail.length := by omega
        subst hge
        rw [List.drop_length] at ht5
        (focus (refine WP_seq ?_; refine WP_seq ?_; refine R_region ?_; refine S_q rfl rfl rfl (Q_move rfl rfl) ?_; refine S_q rfl rfl rfl (Q_fieldAddr rfl rfl (fld rfl rfl)) ?_; refine S_q rfl rfl rfl (Q_fieldAddr rfl rfl (fld rfl rfl)) ?_; refine S_load rfl rfl rfl rfl rfl ?_; refine L_fld2 (Rd.own m0) ?_; refine LV_1 (ty rfl) rfl ?_; refine S_q rfl rfl rfl (Q_len rfl rfl rfl rfl rfl rfl) ?_; refine S_q rfl rfl rfl (Q_cmp rfl rfl rfl rfl) ?_; refine OPS_nil ?_; refine then_n ?_; refine WP_cond rfl (fun c13_1 => ?_) (fun c13_1 => ?_) <;> (first | (simp [*] at c13_1; done) | (try simp at c13_1)); refine WP_exit ?_; refine then_e ?_; refine roundF_e ?_; refine block_e ?_; refine block_n ?_; refine then_n ?_; refine R_region ?_; refine S_q rfl rfl rfl (Q_move rfl rfl) ?_; refine S_q rfl rfl rfl (Q_add rfl rfl rfl (by omega)) ?_; refine S_q rfl rfl rfl (Q_assign rfl rfl) ?_; refine OPS_nil ?_))
        refine roundF_n (j + 1) (by omega) ⟨rfl, by omega, ?_⟩ (by repeat' (first | exact List.Sublist.refl _ | exact List.sublist_append_left _ _ | exact List.nil_sublist _ | apply List.Sublist.cons₂ | apply List.Sublist.cons)) (by repeat' (first | exact trivial | refine ⟨rfl, ?_⟩))
        rw [hod4, msg_true (by omega) ht5.symm]; rfl
    have hge : j = v.flights.length := by omega
    subst hge
    rw [List.drop_length] at ht4
    (focus (refine WP_seq ?_; refine WP_seq ?_; refine R_region ?_; refine S_q rfl rfl rfl (Q_move rfl rfl) ?_; refine S_q rfl rfl rfl (Q_fieldAddr rfl rfl (fld rfl rfl)) ?_; refine S_load rfl rfl rfl rfl rfl ?_; refine L_fld (Rd.own m0) (ty rfl) rfl ?_; refine S_q rfl rfl rfl (Q_len rfl rfl rfl rfl rfl rfl) ?_; refine S_q rfl rfl rfl (Q_cmp rfl rfl rfl rfl) ?_; refine OPS_nil ?_; refine then_n ?_; refine WP_cond rfl (fun c14_1 => ?_) (fun c14_1 => ?_) <;> (first | (simp [*] at c14_1; done) | (try simp at c14_1)); refine WP_exit ?_; refine then_e ?_; refine roundF_e ?_; refine block_e ?_; refine block_n ?_; refine then_n ?_; refine R_region ?_; refine S_q rfl rfl rfl (Q_move rfl rfl) ?_; refine S_q rfl rfl rfl (Q_add rfl rfl rfl (by omega)) ?_; refine S_q rfl rfl rfl (Q_assign rfl rfl) ?_; refine OPS_nil ?_))
    refine roundF_n (k + 1) (by omega) ⟨rfl, by omega, ?_⟩ (by repeat' (first | exact List.Sublist.refl _ | exact List.sublist_append_left _ _ | exact List.nil_sublist _ | apply List.Sublist.cons₂ | apply List.Sublist.cons)) (by repeat' (first | exact trivial | refine ⟨rfl, ?_⟩))
    rw [hod, small_true (by omega) ht2.symm ht3.symm ht4.symm]; rfl
  · have hge : k = vs.length := by omega
    subst hge
    rw [List.drop_length] at ht
    (focus (refine WP_seq ?_; refine WP_seq ?_; refine R_region ?_; refine S_q rfl rfl rfl (Q_move rfl rfl) ?_; refine S_q rfl rfl rfl (Q_move rfl rfl) ?_; refine S_q rfl rfl rfl (Q_len rfl rfl rfl rfl rfl rfl) ?_; refine S_q rfl rfl rfl (Q_cmp rfl rfl rfl rfl) ?_; refine OPS_nil ?_; refine then_n ?_; refine WP_cond rfl (fun c15_1 => ?_) (fun c15_1 => ?_) <;> (first | (simp [*] at c15_1; done) | (try simp at c15_1)); refine WP_exit ?_; refine then_e ?_; refine roundF_e ?_; refine block_e ?_; refine then_n ?_; refine WP_seq ?_; refine R_region ?_; refine S_q rfl rfl rfl (Q_move rfl rfl) ?_; refine S_q rfl rfl rfl (Q_len rfl rfl rfl rfl rfl rfl) ?_; refine S_q rfl rfl rfl (Q_cmp rfl rfl rfl rfl) ?_; refine S_q rfl rfl rfl (Q_assign rfl rfl) ?_; refine OPS_nil ?_; refine then_n ?_; refine WP_ret ?_))
    refine pret (.inl rfl) rfl ⟨_, _, rfl, rfl, rfl⟩ ?_
    simp only [resOf, fewB, ← ht, List.all_nil, Bool.true_and]
    exact congrArg Value.bool (decide_eq_decide.2 (by omega))
end Go.Proofs.YtfhoecgiahpddaaGreat
/-
  CONTRACTS: the reference's comparisons and searches (refmeshref16, 21, 55).
-/
set_option linter.all false
namespace Go.Proofs.YtfhoecgiahpddaaGreat
open Go.Mesh Go.RowKit
set_option maxRecDepth 100000
set_option linter.unusedVariables false
set_option maxHeartbeats 4000000
attribute [local irreducible] WP OPS ANY ANYo LG LV FSpec PSpec QOP OPc OPw thenQ blockQ roundQ roundF retQ retM Rd At SLB OS cmpI orI cmpID namedB valB nodeB kindB validG valAux idxI findG zeroV viewOf vwAt idxOf recv flyB scionOf moveOf numberedOf idOf valueOf mget mput localB carriedB msgB sizesB smallV fewB
theorem ints_s {h : Frag} {a b : Value} {xs ys : List Int} (hx : SL h 1 IntC a xs) (hy : SL h 1 IntC b ys) : PSpec Tryz.prog 32 #[a, b] h (fun _ v => v = .bool (decide (xs = ys))) := by
  have hxl := hx.le
  have hyl := hy.le
  refine pspec_of (vs := [a, b]) Tryz.func32 Tryz.ntmps32 rfl rfl ?_
  (focus (refine WP_seq ?_; refine R_region ?_; refine S_q rfl rfl rfl (Q_assign rfl rfl) ?_; refine OPS_nil ?_; refine then_n ?_; refine WP_seq ?_; refine WP_seq ?_; refine R_region ?_; refine S_q rfl rfl rfl (Q_move rfl rfl) ?_; refine S_q rfl rfl rfl (Q_lenS rfl rfl rfl rfl rfl rfl (by assumption)) ?_; refine S_q rfl rfl rfl (Q_move rfl rfl) ?_; refine S_q rfl rfl rfl (Q_lenS rfl rfl rfl rfl rfl rfl (by assumption)) ?_; refine S_q rfl rfl rfl (Q_cmp rfl rfl rfl rfl) ?_; refine OPS_nil ?_; refine then_n ?_; refine WP_cond rfl (fun c0_1 => ?_) (fun c0_1 => ?_) <;> (first | (simp [*] at c0_1; done) | (try simp at c0_1)); (focus (refine WP_seq ?_; refine R_region ?_; refine S_q rfl rfl rfl (Q_assign rfl rfl) ?_; refine OPS_nil ?_; refine then_n ?_; refine WP_ret ?_; refine then_r ?_)); rotate_left 1; (focus (refine WP_skip ?_; refine then_n ?_; refine WP_seq ?_; refine WP_seq ?_; refine R_region ?_; refine S_q rfl rfl rfl (Q_assign rfl rfl) ?_; refine OPS_nil ?_; refine then_n ?_; refine WP_block ?_)); rotate_left 1))
  · have : xs ≠ ys := fun e => by rw [e] at c0_1; simp at c0_1
    refine pret (.inl rfl) rfl ⟨_, _, rfl, rfl, rfl⟩ ?_
    simp [resOf, this]
  have hlen : xs.length = ys.length := by omega
  (refine WP_loopC (α := Nat) [0, 1] (fun (k : Nat) => xs.length - k) (fun (k : Nat) => [(5, .int .i64 k)]) (fun hh (k : Nat) => hh = h ∧ k ≤ xs.length ∧ xs.take k = ys.take k) 0 ⟨_, _, rfl, ⟨_, _, rfl, rfl, rfl⟩, rfl⟩ (by repeat' (first | exact trivial | refine ⟨rfl, ?_⟩)) ?_ ?_)
  · exact ⟨rfl, Nat.zero_le _, rfl⟩
  rintro h1 k _ ⟨rfl, hk, ht⟩
  by_cases hlt : k < xs.length
  · obtain ⟨x, ex⟩ := get_of hlt
    obtain ⟨y, ey⟩ := get_of (xs := ys) (k := k) (by omega)
    (focus (refine WP_seq ?_; refine WP_seq ?_; refine R_region ?_; refine S_q rfl rfl rfl (Q_move rfl rfl) ?_; refine S_q rfl rfl rfl (Q_move rfl rfl) ?_; refine S_q rfl rfl rfl (Q_lenS rfl rfl rfl rfl rfl rfl (by assumption)) ?_; refine S_q rfl rfl rfl (Q_cmp rfl rfl rfl rfl) ?_; refine OPS_nil ?_; refine then_n ?_; refine WP_cond rfl (fun c2_1 => ?_) (fun c2_1 => ?_) <;> (first | (simp [*] at c2_1; done) | (try simp at c2_1)); (focus (refine WP_skip ?_; refine then_n ?_; refine WP_seq ?_; refine WP_block ?_; refine WP_seq ?_; refine R_draw (n := 9) mixed rfl ?_; refine A_at 0 rfl rfl ?_; refine A_q (m' := 1) rfl rfl rfl (Q_move rfl rfl) rfl (by decide +kernel) ?_; refine A_at 1 rfl rfl ?_; refine A_q (m' := 3) rfl rfl rfl (Q_move rfl rfl) rfl (by decide +kernel) ?_; refine A_at 2 rfl rfl ?_; refine A_q (m' := 7) rfl rfl rfl (Q_indexS (by assumption) (by assumption) rfl rfl rfl (elm rfl) rfl) rfl (by decide +kernel) ?_; refine A_at 3 rfl rfl ?_; refine A_load (m' := 15) rfl rfl rfl rfl rfl rfl (by decide +kernel) ?_; refine L_el1 (by assumption) (by assumption) (ty rfl) ?_; rintro _ ⟨⟩; refine A_at 4 rfl rfl ?_; refine A_q (m' := 31) rfl rfl rfl (Q_move rfl rfl) rfl (by decide +kernel) ?_; refine A_at 5 rfl rfl ?_; refine A_q (m' := 63) rfl rfl rfl (Q_move rfl rfl) rfl (by decide +kernel) ?_; refine A_at 6 rfl rfl ?_; refine A_q (m' := 127) rfl rfl rfl (Q_indexS (by assumption) (by assumption) rfl rfl rfl (elm rfl) rfl) rfl (by decide +kernel) ?_; refine A_at 7 rfl rfl ?_; refine A_load (m' := 255) rfl rfl rfl rfl rfl rfl (by decide +kernel) ?_; refine L_el1 (by assumption) (by assumption) (ty rfl) ?_; rintro _ ⟨⟩; refine A_at 8 rfl rfl ?_; refine A_q (m' := 511) rfl rfl rfl (Q_cmp rfl rfl rfl rfl) rfl (by decide +kernel) ?_; refine A_done (by decide +kernel) ?_; refine then_n ?_; refine WP_cond rfl (fun c2_4 => ?_) (fun c2_4 => ?_) <;> (first | (simp [*] at c2_4; done) | (try simp at c2_4)); (focus (refine WP_seq ?_; refine R_region ?_; refine S_q rfl rfl rfl (Q_assign rfl rfl) ?_; refine OPS_nil ?_; refine then_n ?_; refine WP_ret ?_; refine block_r ?_; refine then_r ?_; refine roundF_r ?_; refine block_r ?_; refine then_r ?_)); rotate_left 1; (focus (refine WP_skip ?_; refine block_n ?_; refine then_n ?_; refine R_region ?_; refine S_q rfl rfl rfl (Q_move rfl rfl) ?_; refine S_q rfl rfl rfl (Q_add rfl rfl rfl (by omega)) ?_; refine S_q rfl rfl rfl (Q_assign rfl rfl) ?_; refine OPS_nil ?_)); rotate_left 1)); rotate_left 2; (focus (exfalso; omega))))
    · refine pret (.inl rfl) rfl ⟨_, _, rfl, rfl, rfl⟩ ?_
      have : xs ≠ ys := fun e => by subst e; rw [ex] at ey; cases ey; simp_all
      simp [resOf, this]
    · refine roundF_n (k + 1) (by omega) ⟨rfl, by omega, take_eq (x := x) ht ex ?_⟩ (List.Sublist.refl _) (by repeat' (first | exact trivial | refine ⟨rfl, ?_⟩))
      rw [ey]; simp_all
  · have hge : k = xs.length := by omega
    subst hge
    (focus (refine WP_seq ?_; refine WP_seq ?_; refine R_region ?_; refine S_q rfl rfl rfl (Q_move rfl rfl) ?_; refine S_q rfl rfl rfl (Q_move rfl rfl) ?_; refine S_q rfl rfl rfl (Q_lenS rfl rfl rfl rfl rfl rfl (by assumption)) ?_; refine S_q rfl rfl rfl (Q_cmp rfl rfl rfl rfl) ?_; refine OPS_nil ?_; refine then_n ?_; refine WP_cond rfl (fun c3_1 => ?_) (fun c3_1 => ?_) <;> (first | (simp [*] at c3_1; done) | (try simp at c3_1)); refine WP_exit ?_; refine then_e ?_; refine roundF_e ?_; refine block_e ?_; refine then_n ?_; refine WP_seq ?_; refine R_region ?_; refine S_q rfl rfl rfl (Q_assign rfl rfl) ?_; refine OPS_nil ?_; refine then_n ?_; refine WP_ret ?_))
    · refine pret (.inl rfl) rfl ⟨_, _, rfl, rfl, rfl⟩ ?_
      have : xs = ys := by rw [List.take_of_length_le (Nat.le_refl _), List.take_of_length_le (by omega)] at ht; exact ht
      simp [resOf, this]
theorem sameIDs_s {h : Frag} {a b : Value} {xs ys : List ID} (hx : SL h 2 IDC a xs) (hy : SL h 2 IDC b ys) : PSpec Tryz.prog 18 #[a, b] h (fun _ v => v = .bool (decide (xs = ys))) := by
  have hxl := hx.le
  have hyl := hy.le
  refine pspec_of (vs := [a, b]) Tryz.func18 Tryz.ntmps18 rfl rfl ?_
  (focus (refine WP_seq ?_; refine R_region ?_; refine S_q rfl rfl rfl (Q_assign rfl rfl) ?_; refine OPS_nil ?_; refine then_n ?_; refine WP_seq ?_; refine WP_seq ?_; refine R_region ?_; refine S_q rfl rfl rfl (Q_move rfl rfl) ?_; refine S_q rfl rfl rfl (Q_lenS rfl rfl rfl rfl rfl rfl (by assumption)) ?_; refine S_q rfl rfl rfl (Q_move rfl rfl) ?_; refine S_q rfl rfl rfl (Q_lenS rfl rfl rfl rfl rfl rfl (by assumption)) ?_; refine S_q rfl rfl rfl (Q_cmp rfl rfl rfl rfl) ?_; refine OPS_nil ?_; refine then_n ?_; refine WP_cond rfl (fun c0_1 => ?_) (fun c0_1 => ?_) <;> (first | (simp [*] at c0_1; done) | (try simp at c0_1)); (focus (refine WP_seq ?_; refine R_region ?_; refine S_q rfl rfl rfl (Q_assign rfl rfl) ?_; refine OPS_nil ?_; refine then_n ?_; refine WP_ret ?_; refine then_r ?_)); rotate_left 1; (focus (refine WP_skip ?_; refine then_n ?_; refine WP_seq ?_; refine WP_seq ?_; refine R_region ?_; refine S_q rfl rfl rfl (Q_assign rfl rfl) ?_; refine OPS_nil ?_; refine then_n ?_; refine WP_block ?_)); rotate_left 1))
  · have : xs ≠ ys := fun e => by rw [e] at c0_1; simp at c0_1
    refine pret (.inl rfl) rfl ⟨_, _, rfl, rfl, rfl⟩ ?_
    simp [resOf, this]
  have hlen : xs.length = ys.length := by omega
  (refine WP_loopC (α := Nat) [0, 1] (fun (k : Nat) => xs.length - k) (fun (k : Nat) => [(5, .int .i64 k)]) (fun hh (k : Nat) => hh = h ∧ k ≤ xs.length ∧ xs.take k = ys.take k) 0 ⟨_, _, rfl, ⟨_, _, rfl, rfl, rfl⟩, rfl⟩ (by repeat' (first | exact trivial | refine ⟨rfl, ?_⟩)) ?_ ?_)
  · exact ⟨rfl, Nat.zero_le _, rfl⟩
  rintro h1 k _ ⟨rfl, hk, ht⟩
  by_cases hlt : k < xs.length
  · obtain ⟨⟨x1, x2⟩, ex⟩ := get_of hlt
    obtain ⟨⟨y1, y2⟩, ey⟩ := get_of (xs := ys) (k := k) (by omega)
    (focus (refine WP_seq ?_; refine WP_seq ?_; refine R_region ?_; refine S_q rfl rfl rfl (Q_move rfl rfl) ?_; refine S_q rfl rfl rfl (Q_move rfl rfl) ?_; refine S_q rfl rfl rfl (Q_lenS rfl rfl rfl rfl rfl rfl (by assumption)) ?_; refine S_q rfl rfl rfl (Q_cmp rfl rfl rfl rfl) ?_; refine OPS_nil ?_; refine then_n ?_; refine WP_cond rfl (fun c2_1 => ?_) (fun c2_1 => ?_) <;> (first | (simp [*] at c2_1; done) | (try simp at c2_1)); (focus (refine WP_skip ?_; refine then_n ?_; refine WP_seq ?_; refine WP_block ?_; refine WP_seq ?_; refine R_draw (n := 9) mixed rfl ?_; refine A_at 0 rfl rfl ?_; refine A_q (m' := 1) rfl rfl rfl (Q_move rfl rfl) rfl (by decide +kernel) ?_; refine A_at 1 rfl rfl ?_; refine A_q (m' := 3) rfl rfl rfl (Q_move rfl rfl) rfl (by decide +kernel) ?_; refine A_at 2 rfl rfl ?_; refine A_q (m' := 7) rfl rfl rfl (Q_indexS (by assumption) (by assumption) rfl rfl rfl (elm rfl) rfl) rfl (by decide +kernel) ?_; refine A_at 3 rfl rfl ?_; refine A_load (m' := 15) rfl rfl rfl rfl rfl rfl (by decide +kernel) ?_; refine L_elA (by assumption) (by assumption) (ty rfl) ?_; rintro _ _ _ rfl; refine A_at 4 rfl rfl ?_; refine A_q (m' := 31) rfl rfl rfl (Q_move rfl rfl) rfl (by decide +kernel) ?_; refine A_at 5 rfl rfl ?_; refine A_q (m' := 63) rfl rfl rfl (Q_move rfl rfl) rfl (by decide +kernel) ?_; refine A_at 6 rfl rfl ?_; refine A_q (m' := 127) rfl rfl rfl (Q_indexS (by assumption) (by assumption) rfl rfl rfl (elm rfl) rfl) rfl (by decide +kernel) ?_; refine A_at 7 rfl rfl ?_; refine A_load (m' := 255) rfl rfl rfl rfl rfl rfl (by decide +kernel) ?_; refine L_elA (by assumption) (by assumption) (ty rfl) ?_; rintro _ _ _ rfl; refine A_at 8 rfl rfl ?_; refine A_q (m' := 511) rfl rfl rfl (Q_neI eqID rfl rfl rfl rfl rfl) rfl (by decide +kernel) ?_; refine A_done (by decide +kernel) ?_; refine then_n ?_; refine WP_cond rfl (fun c2_4 => ?_) (fun c2_4 => ?_) <;> (first | (simp [*] at c2_4; done) | (try simp at c2_4)); (focus (refine WP_seq ?_; refine R_region ?_; refine S_q rfl rfl rfl (Q_assign rfl rfl) ?_; refine OPS_nil ?_; refine then_n ?_; refine WP_ret ?_; refine block_r ?_; refine then_r ?_; refine roundF_r ?_; refine block_r ?_; refine then_r ?_)); rotate_left 1; (focus (refine WP_skip ?_; refine block_n ?_; refine then_n ?_; refine R_region ?_; refine S_q rfl rfl rfl (Q_move rfl rfl) ?_; refine S_q rfl rfl rfl (Q_add rfl rfl rfl (by omega)) ?_; refine S_q rfl rfl rfl (Q_assign rfl rfl) ?_; refine OPS_nil ?_)); rotate_left 1)); rotate_left 2; (focus (exfalso; omega))))
    · refine pret (.inl rfl) rfl ⟨_, _, rfl, rfl, rfl⟩ ?_
      have : xs ≠ ys := fun e => by subst e; rw [ex] at ey; cases ey; simp_all
      simp [resOf, this]
    · refine roundF_n (k + 1) (by omega) ⟨rfl, by omega, take_eq (x := (x1, x2)) ht ex ?_⟩ (List.Sublist.refl _) (by repeat' (first | exact trivial | refine ⟨rfl, ?_⟩))
      rw [ey]; simp_all
  · have hge : k = xs.length := by omega
    subst hge
    (focus (refine WP_seq ?_; refine WP_seq ?_; refine R_region ?_; refine S_q rfl rfl rfl (Q_move rfl rfl) ?_; refine S_q rfl rfl rfl (Q_move rfl rfl) ?_; refine S_q rfl rfl rfl (Q_lenS rfl rfl rfl rfl rfl rfl (by assumption)) ?_; refine S_q rfl rfl rfl (Q_cmp rfl rfl rfl rfl) ?_; refine OPS_nil ?_; refine then_n ?_; refine WP_cond rfl (fun c3_1 => ?_) (fun c3_1 => ?_) <;> (first | (simp [*] at c3_1; done) | (try simp at c3_1)); refine WP_exit ?_; refine then_e ?_; refine roundF_e ?_; refine block_e ?_; refine then_n ?_; refine WP_seq ?_; refine R_region ?_; refine S_q rfl rfl rfl (Q_assign rfl rfl) ?_; refine OPS_nil ?_; refine then_n ?_; refine WP_ret ?_))
    · refine pret (.inl rfl) rfl ⟨_, _, rfl, rfl, rfl⟩ ?_
      have : xs = ys := by rw [List.take_of_length_le (Nat.le_refl _), List.take_of_length_le (by omega)] at ht; exact ht
      simp [resOf, this]
theorem eqIDs_s {h : Frag} {a b : Value} {xs ys : List ID} (hx : SL h 2 IDC a xs) (hy : SL h 2 IDC b ys) : PSpec Tryz.prog 71 #[a, b] h (fun _ v => v = .bool (decide (xs = ys))) := by
  have hxl := hx.le
  have hyl := hy.le
  refine pspec_of (vs := [a, b]) Tryz.func71 Tryz.ntmps71 rfl rfl ?_
  (focus (refine WP_seq ?_; refine R_region ?_; refine S_q rfl rfl rfl (Q_assign rfl rfl) ?_; refine OPS_nil ?_; refine then_n ?_; refine WP_seq ?_; refine WP_seq ?_; refine R_region ?_; refine S_q rfl rfl rfl (Q_move rfl rfl) ?_; refine S_q rfl rfl rfl (Q_lenS rfl rfl rfl rfl rfl rfl (by assumption)) ?_; refine S_q rfl rfl rfl (Q_move rfl rfl) ?_; refine S_q rfl rfl rfl (Q_lenS rfl rfl rfl rfl rfl rfl (by assumption)) ?_; refine S_q rfl rfl rfl (Q_cmp rfl rfl rfl rfl) ?_; refine OPS_nil ?_; refine then_n ?_; refine WP_cond rfl (fun c0_1 => ?_) (fun c0_1 => ?_) <;> (first | (simp [*] at c0_1; done) | (try simp at c0_1)); (focus (refine WP_seq ?_; refine R_region ?_; refine S_q rfl rfl rfl (Q_assign rfl rfl) ?_; refine OPS_nil ?_; refine then_n ?_; refine WP_ret ?_; refine then_r ?_)); rotate_left 1; (focus (refine WP_skip ?_; refine then_n ?_; refine WP_seq ?_; refine WP_seq ?_; refine R_region ?_; refine S_q rfl rfl rfl (Q_move rfl rfl) ?_; refine S_q rfl rfl rfl (Q_lenS rfl rfl rfl rfl rfl rfl (by assumption)) ?_; refine S_q rfl rfl rfl (Q_move rfl rfl) ?_; refine OPS_nil ?_; refine then_n ?_; refine WP_block ?_)); rotate_left 1))
  · have : xs ≠ ys := fun e => by rw [e] at c0_1; simp at c0_1
    refine pret (.inl rfl) rfl ⟨_, _, rfl, rfl, rfl⟩ ?_
    simp [resOf, this]
  have hlen : xs.length = ys.length := by omega
  (refine WP_loopC (α := Nat) [12, 0, 1] (fun (k : Nat) => xs.length - k) (fun (k : Nat) => [(13, .int .i64 k)]) (fun hh (k : Nat) => hh = h ∧ k ≤ xs.length ∧ xs.take k = ys.take k) 0 ⟨_, _, rfl, ⟨_, _, rfl, ⟨_, _, rfl, rfl, rfl⟩, rfl⟩, rfl⟩ (by repeat' (first | exact trivial | refine ⟨rfl, ?_⟩)) ?_ ?_)
  · exact ⟨rfl, Nat.zero_le _, rfl⟩
  rintro h1 k _ ⟨rfl, hk, ht⟩
  by_cases hlt : k < xs.length
  · obtain ⟨⟨x1, x2⟩, ex⟩ := get_of hlt
    obtain ⟨⟨y1, y2⟩, ey⟩ := get_of (xs := ys) (k := k) (by omega)
    (focus (refine WP_seq ?_; refine R_region ?_; refine S_q rfl rfl rfl (Q_cmp rfl rfl rfl rfl) ?_; refine OPS_nil ?_; refine then_n ?_; refine WP_seq ?_; refine WP_cond rfl (fun c2_1 => ?_) (fun c2_1 => ?_) <;> (first | (simp [*] at c2_1; done) | (try simp at c2_1)); (focus (refine WP_skip ?_; refine then_n ?_; refine WP_seq ?_; refine WP_block ?_; refine WP_seq ?_; refine R_region ?_; refine S_q rfl rfl rfl (Q_move rfl rfl) ?_; refine S_q rfl rfl rfl (Q_assign rfl rfl) ?_; refine OPS_nil ?_; refine then_n ?_; refine WP_seq ?_; refine R_draw (n := 9) mixed rfl ?_; refine A_at 0 rfl rfl ?_; refine A_q (m' := 1) rfl rfl rfl (Q_move rfl rfl) rfl (by decide +kernel) ?_; refine A_at 1 rfl rfl ?_; refine A_q (m' := 3) rfl rfl rfl (Q_move rfl rfl) rfl (by decide +kernel) ?_; refine A_at 2 rfl rfl ?_; refine A_q (m' := 7) rfl rfl rfl (Q_indexS (by assumption) (by assumption) rfl rfl rfl (elm rfl) rfl) rfl (by decide +kernel) ?_; refine A_at 3 rfl rfl ?_; refine A_load (m' := 15) rfl rfl rfl rfl rfl rfl (by decide +kernel) ?_; refine L_elA (by assumption) (by assumption) (ty rfl) ?_; rintro _ _ _ rfl; refine A_at 4 rfl rfl ?_; refine A_q (m' := 31) rfl rfl rfl (Q_move rfl rfl) rfl (by decide +kernel) ?_; refine A_at 5 rfl rfl ?_; refine A_q (m' := 63) rfl rfl rfl (Q_move rfl rfl) rfl (by decide +kernel) ?_; refine A_at 6 rfl rfl ?_; refine A_q (m' := 127) rfl rfl rfl (Q_indexS (by assumption) (by assumption) rfl rfl rfl (elm rfl) rfl) rfl (by decide +kernel) ?_; refine A_at 7 rfl rfl ?_; refine A_load (m' := 255) rfl rfl rfl rfl rfl rfl (by decide +kernel) ?_; refine L_elA (by assumption) (by assumption) (ty rfl) ?_; rintro _ _ _ rfl; refine A_at 8 rfl rfl ?_; refine A_q (m' := 511) rfl rfl rfl (Q_neI eqID rfl rfl rfl rfl rfl) rfl (by decide +kernel) ?_; refine A_done (by decide +kernel) ?_; refine then_n ?_; refine WP_cond rfl (fun c2_4 => ?_) (fun c2_4 => ?_) <;> (first | (simp [*] at c2_4; done) | (try simp at c2_4)); (focus (refine WP_seq ?_; refine R_region ?_; refine S_q rfl rfl rfl (Q_assign rfl rfl) ?_; refine OPS_nil ?_; refine then_n ?_; refine WP_ret ?_; refine block_r ?_; refine then_r ?_; refine roundF_r ?_; refine block_r ?_; refine then_r ?_)); rotate_left 1; (focus (refine WP_skip ?_; refine block_n ?_; refine then_n ?_; refine R_region ?_; refine S_q rfl rfl rfl (Q_add rfl rfl rfl (by omega)) ?_; refine S_q rfl rfl rfl (Q_move rfl rfl) ?_; refine OPS_nil ?_)); rotate_left 1)); rotate_left 2; (focus (exfalso; omega))))
    · refine pret (.inl rfl) rfl ⟨_, _, rfl, rfl, rfl⟩ ?_
      have : xs ≠ ys := fun e => by subst e; rw [ex] at ey; cases ey; simp_all
      simp [resOf, this]
    · refine roundF_n (k + 1) (by omega) ⟨rfl, by omega, take_eq (x := (x1, x2)) ht ex ?_⟩ (List.Sublist.refl _) (by repeat' (first | exact trivial | refine ⟨rfl, ?_⟩))
      rw [ey]; simp_all
  · have hge : k = xs.length := by omega
    subst hge
    (focus (refine WP_seq ?_; refine R_region ?_; refine S_q rfl rfl rfl (Q_cmp rfl rfl rfl rfl) ?_; refine OPS_nil ?_; refine then_n ?_; refine WP_seq ?_; refine WP_cond rfl (fun c3_1 => ?_) (fun c3_1 => ?_) <;> (first | (simp [*] at c3_1; done) | (try simp at c3_1)); refine WP_exit ?_; refine then_e ?_; refine roundF_e ?_; refine block_e ?_; refine then_n ?_; refine WP_seq ?_; refine R_region ?_; refine S_q rfl rfl rfl (Q_assign rfl rfl) ?_; refine OPS_nil ?_; refine then_n ?_; refine WP_ret ?_))
    · refine pret (.inl rfl) rfl ⟨_, _, rfl, rfl, rfl⟩ ?_
      have : xs = ys := by rw [List.take_of_length_le (Nat.le_refl _), List.take_of_length_le (by omega)] at ht; exact ht
      simp [resOf, this]
theorem find_drop {α : Type} {p : α → Bool} {xs : List α} {k : Nat} {x : α} (hx : xs[k]? = some x) : (xs.drop k).find? p = if p x then some x else (xs.drop (k + 1)).find? p := by
  rw [drop_get hx, List.find?_cons]; cases p x <;> rfl
theorem viewOf_def (vs : List View) (m : Int) : viewOf vs m = vs.find? fun v => decide (v.machine = m) := by rw [viewOf]
theorem refView_s {h : Frag} {a : Value} {vs : List View} {m : Int} (hs : SL h 13 (ViewC 4398046511104) a vs) : PSpec Tryz.prog 23 #[a, .int .i64 m] h (fun _ v => ∃ us, v = .tuple #[.agg us.toArray, .bool (viewOf vs m).isSome] ∧ us.length = 13 ∧ ones us = true ∧ ViewC 4398046511104 h (vwAt vs m) us) := by
  have hl := hs.le
  refine pspec_of (vs := [a, .int .i64 m]) Tryz.func23 Tryz.ntmps23 rfl rfl ?_
  (focus (refine WP_seq ?_; refine R_region ?_; refine S_c rfl rfl rfl (C_alloc rfl (zer rfl) ?_); intro b0_1; refine S_q rfl rfl rfl (Q_assign rfl rfl) ?_; refine OPS_nil ?_; refine then_n ?_; refine WP_seq ?_; refine WP_seq ?_; refine R_region ?_; refine S_q rfl rfl rfl (Q_assign rfl rfl) ?_; refine OPS_nil ?_; refine then_n ?_; refine WP_block ?_))
  (refine WP_loopC (α := Nat) [4, 0, 1] (fun (k : Nat) => vs.length - k) (fun (k : Nat) => [(6, .int .i64 k)]) (fun hh (k : Nat) => hh = h ∧ k ≤ vs.length ∧ (vs.drop k).find? (fun v => decide (v.machine = m)) = viewOf vs m) 0 ⟨_, _, rfl, ⟨_, _, rfl, ⟨_, _, rfl, rfl, rfl⟩, rfl⟩, rfl⟩ (by repeat' (first | exact trivial | refine ⟨rfl, ?_⟩)) ?_ ?_)
  · exact ⟨rfl, Nat.zero_le _, by rw [viewOf_def]; rfl⟩
  rintro h1 k _ ⟨rfl, hk, ht⟩
  by_cases hlt : k < vs.length
  · obtain ⟨v, ev⟩ := get_of hlt
    rw [find_drop ev] at ht
    (focus (refine WP_seq ?_; refine WP_seq ?_; refine R_region ?_; refine S_q rfl rfl rfl (Q_move rfl rfl) ?_; refine S_q rfl rfl rfl (Q_move rfl rfl) ?_; refine S_q rfl rfl rfl (Q_lenS rfl rfl rfl rfl rfl rfl (by assumption)) ?_; refine S_q rfl rfl rfl (Q_cmp rfl rfl rfl rfl) ?_; refine OPS_nil ?_; refine then_n ?_; refine WP_cond rfl (fun c2_1 => ?_) (fun c2_1 => ?_) <;> (first | (simp [*] at c2_1; done) | (try simp at c2_1)); refine WP_skip ?_; refine then_n ?_; refine WP_seq ?_; refine WP_block ?_; refine WP_seq ?_; refine R_region ?_; refine S_q rfl rfl rfl (Q_move rfl rfl) ?_; refine S_q rfl rfl rfl (Q_move rfl rfl) ?_; refine S_q rfl rfl rfl (Q_indexS (by assumption) (by assumption) rfl rfl rfl (elm rfl) rfl) ?_; refine S_q rfl rfl rfl (Q_fieldAddr rfl rfl (fld rfl rfl)) ?_; refine S_load rfl rfl rfl rfl rfl ?_; refine L_elF (by assumption) (by assumption) ?_; rintro _ _ _ ⟨xi2_2, xa2_2, po2_2, qo2_2, ps2_2, qs2_2, pc2_2, qc2_2, pn2_2, qn2_2, pm2_2, qm2_2, xw2_2, xv2_2, pf2_2, qf2_2, pr2_2, qr2_2, xe2_2, xf2_2, rfl, vo2_2, vs2_2, vc2_2, vn2_2, vm2_2, vf2_2, vr2_2⟩; refine LV_1 (ty rfl) rfl ?_; refine S_q rfl rfl rfl (Q_move rfl rfl) ?_; refine S_q rfl rfl rfl (Q_cmp rfl rfl rfl rfl) ?_; refine OPS_nil ?_; refine then_n ?_; refine WP_cond rfl (fun c2_3 => ?_) (fun c2_3 => ?_) <;> (first | (simp [*] at c2_3; done) | (try simp at c2_3)); (focus (refine WP_seq ?_; refine R_region ?_; refine S_q rfl rfl rfl (Q_move rfl rfl) ?_; refine S_q rfl rfl rfl (Q_move rfl rfl) ?_; refine S_q rfl rfl rfl (Q_indexS (by assumption) (by assumption) rfl rfl rfl (elm rfl) rfl) ?_; refine S_load rfl rfl rfl rfl rfl ?_; refine L_elA (by assumption) (by assumption) (ty rfl) ?_; rintro _ _ _ ⟨xi2_4, xa2_4, po2_4, qo2_4, ps2_4, qs2_4, pc2_4, qc2_4, pn2_4, qn2_4, pm2_4, qm2_4, xw2_4, xv2_4, pf2_4, qf2_4, pr2_4, qr2_4, xe2_4, xf2_4, rfl, vo2_4, vs2_4, vc2_4, vn2_4, vm2_4, vf2_4, vr2_4⟩; refine S_w0 rfl rfl (W_all rfl rfl rfl (ty rfl) u0 (by first | rfl | assumption) (by first | rfl | assumption) (by first | rfl | assumption | exact ones_sub (by assumption) _ _) ?_); refine S_q rfl rfl rfl (Q_assign rfl rfl) ?_; refine OPS_nil ?_; refine then_n ?_; refine WP_ret ?_; refine block_r ?_; refine then_r ?_; refine roundF_r ?_; refine block_r ?_; refine then_r ?_)); rotate_left 1; (focus (refine WP_skip ?_; refine block_n ?_; refine then_n ?_; refine R_region ?_; refine S_q rfl rfl rfl (Q_move rfl rfl) ?_; refine S_q rfl rfl rfl (Q_add rfl rfl rfl (by omega)) ?_; refine S_q rfl rfl rfl (Q_assign rfl rfl) ?_; refine OPS_nil ?_)); rotate_left 1))
    · have hv : viewOf vs m = some v := by rw [← ht, if_pos (by simpa using c2_3)]
      refine pret (.inl rfl) rfl ⟨_, _, _, rfl, Loads_agg (Rd.own m0) (ty rfl) rfl, ⟨_, _, rfl, rfl, rfl⟩, rfl⟩ ?_
      have hz : vwAt vs m = v := by rw [vwAt, hv]; rfl
      rw [hz, hv]
      exact ⟨_, rfl, rfl, by assumption, xi2_4, _, _, _, _, _, _, _, _, _, _, _, _, _, _, _, _, _, _, _, rfl, vo2_4, vs2_4, vc2_4, vn2_4, vm2_4, vf2_4, vr2_4⟩
    · refine roundF_n (k + 1) (by omega) ⟨rfl, by omega, ?_⟩ (by repeat' (first | exact List.Sublist.refl _ | exact List.sublist_append_left _ _ | exact List.nil_sublist _ | apply List.Sublist.cons₂ | apply List.Sublist.cons)) (by repeat' (first | exact trivial | refine ⟨rfl, ?_⟩))
      rw [← ht, if_neg (by simpa using c2_3)]
  · have hge : k = vs.length := by omega
    subst hge
    rw [List.drop_length] at ht
    (focus (refine WP_seq ?_; refine WP_seq ?_; refine R_region ?_; refine S_q rfl rfl rfl (Q_move rfl rfl) ?_; refine S_q rfl rfl rfl (Q_move rfl rfl) ?_; refine S_q rfl rfl rfl (Q_lenS rfl rfl rfl rfl rfl rfl (by assumption)) ?_; refine S_q rfl rfl rfl (Q_cmp rfl rfl rfl rfl) ?_; refine OPS_nil ?_; refine then_n ?_; refine WP_cond rfl (fun c3_1 => ?_) (fun c3_1 => ?_) <;> (first | (simp [*] at c3_1; done) | (try simp at c3_1)); refine WP_exit ?_; refine then_e ?_; refine roundF_e ?_; refine block_e ?_; refine then_n ?_; refine WP_seq ?_; refine R_region ?_; refine S_q rfl rfl rfl (Q_build rfl (by decide +kernel) (zer rfl) rfl rfl) ?_; refine S_w0 rfl rfl (W_all rfl rfl rfl (ty rfl) u0 (by first | rfl | assumption) (by first | rfl | assumption) (by first | rfl | assumption | exact ones_sub (by assumption) _ _) ?_); refine S_q rfl rfl rfl (Q_assign rfl rfl) ?_; refine OPS_nil ?_; refine then_n ?_; refine WP_ret ?_))
    have hv : viewOf vs m = none := ht.symm
    refine pret (.inl rfl) rfl ⟨_, _, _, rfl, Loads_agg (Rd.own m0) (ty rfl) rfl, ⟨_, _, rfl, rfl, rfl⟩, rfl⟩ ?_
    have hz : vwAt vs m = zeroV := by rw [vwAt, hv]; rfl
    rw [hz, hv, zeroV]
    refine ⟨_, rfl, rfl, rfl, by unfold inI64; decide, _, _, _, _, _, _, _, _, _, _, _, _, _, _, _, _, _, _, _, rfl, ?_⟩
    exact ⟨SLB.nil _ _ _ _ _ _, SLB.nil _ _ _ _ _ _, SLB.nil _ _ _ _ _ _, SLB.nil _ _ _ _ _ _, SLB.nil _ _ _ _ _ _, SLB.nil _ _ _ _ _ _, SLB.nil _ _ _ _ _ _⟩
theorem findG_def (g : List Nd) (id : ID) : findG g id = g.find? fun n => decide (n.id = id) := by rw [findG]
theorem refFind_s {h : Frag} {g : List Nd} {vs : List Value} {id : ID} (hg : GraphC 4398046511104 h g vs) : PSpec Tryz.prog 62 #[.agg vs.toArray, .agg (idc id).toArray] h
    (fun _ v => ∃ us, v = .tuple #[.agg us.toArray, .bool (findG g id).isSome] ∧ us.length = 5 ∧ ones us = true ∧ NodeC 4398046511104 h ((findG g id).getD zeroN) us) := by
  obtain ⟨p, c, rfl, hf⟩ := hg
  have hl := hf.le
  obtain ⟨i1, i2⟩ := id
  refine pspec_of (vs := [.agg [Value.slice p g.length c].toArray, .agg (idc (i1, i2)).toArray]) Tryz.func62 Tryz.ntmps62 rfl rfl ?_
  (focus (refine WP_seq ?_; refine R_region ?_; refine S_c rfl rfl rfl (C_box rfl rfl ?_); intro b0_1; refine S_c rfl rfl rfl (C_box rfl rfl ?_); intro b0_2; refine S_c rfl rfl rfl (C_alloc rfl (zer rfl) ?_); intro b0_3; refine S_q rfl rfl rfl (Q_assign rfl rfl) ?_; refine OPS_nil ?_; refine then_n ?_; refine WP_seq ?_; refine WP_seq ?_; refine R_region ?_; refine S_q rfl rfl rfl (Q_assign rfl rfl) ?_; refine OPS_nil ?_; refine then_n ?_; refine WP_block ?_))
  (refine WP_loopC (α := Nat) [4, 3, 2] (fun (k : Nat) => g.length - k) (fun (k : Nat) => [(6, .int .i64 k)]) (fun hh (k : Nat) => hh = h ∧ k ≤ g.length ∧ (g.drop k).find? (fun n => decide (n.id = (i1, i2))) = findG g (i1, i2)) 0 ⟨_, _, rfl, ⟨_, _, rfl, ⟨_, _, rfl, rfl, rfl⟩, rfl⟩, rfl⟩ (by repeat' (first | exact trivial | refine ⟨rfl, ?_⟩)) ?_ ?_)
  · exact ⟨rfl, Nat.zero_le _, by rw [findG_def]; rfl⟩
  rintro h1 k _ ⟨rfl, hk, ht⟩
  by_cases hlt : k < g.length
  · obtain ⟨⟨⟨n1, n2⟩, kd, cl, fs⟩, en⟩ := get_of hlt
    rw [find_drop en] at ht
    (focus (refine WP_seq ?_; refine WP_seq ?_; refine R_region ?_; refine S_q rfl rfl rfl (Q_move rfl rfl) ?_; refine S_q rfl rfl rfl (Q_fieldAddr rfl rfl (fld rfl rfl)) ?_; refine S_load rfl rfl rfl rfl rfl ?_; refine L_one (Rd.own m2) (ty rfl) ?_; refine S_q rfl rfl rfl (Q_len rfl rfl rfl rfl rfl rfl) ?_; refine S_q rfl rfl rfl (Q_cmp rfl rfl rfl rfl) ?_; refine OPS_nil ?_; refine then_n ?_; refine WP_cond rfl (fun c2_1 => ?_) (fun c2_1 => ?_) <;> (first | (simp [*] at c2_1; done) | (try simp at c2_1)); refine WP_skip ?_; refine then_n ?_; refine WP_seq ?_; refine WP_block ?_; refine WP_seq ?_; refine R_draw (n := 8) mixed rfl ?_; refine A_at 0 rfl rfl ?_; refine A_q (m' := 1) rfl rfl rfl (Q_fieldAddr rfl rfl (fld rfl rfl)) rfl (by decide +kernel) ?_; refine A_at 1 rfl rfl ?_; refine A_load (m' := 3) rfl rfl rfl rfl rfl rfl (by decide +kernel) ?_; refine L_one (Rd.own m2) (ty rfl) ?_; refine A_at 2 rfl rfl ?_; refine A_q (m' := 7) rfl rfl rfl (Q_move rfl rfl) rfl (by decide +kernel) ?_; refine A_at 3 rfl rfl ?_; refine A_q (m' := 15) rfl rfl rfl (Q_indexS (by assumption) (by assumption) rfl rfl rfl (elm rfl) rfl) rfl (by decide +kernel) ?_; refine A_at 4 rfl rfl ?_; refine A_q (m' := 31) rfl rfl rfl (Q_fieldAddr rfl rfl (fld rfl rfl)) rfl (by decide +kernel) ?_; refine A_at 5 rfl rfl ?_; refine A_load (m' := 63) rfl rfl rfl rfl rfl rfl (by decide +kernel) ?_; refine L_elF (by assumption) (by assumption) ?_; rintro _ _ _ ⟨pn2_2, qn2_2, rfl, fn2_2⟩; refine LV_a (ty rfl) rfl ?_; refine A_at 6 rfl rfl ?_; refine A_load (m' := 127) rfl rfl rfl rfl rfl rfl (by decide +kernel) ?_; refine L_agg (Rd.own m1) (ty rfl) (by first | rfl | assumption) ?_; refine A_at 7 rfl rfl ?_; refine A_q (m' := 255) rfl rfl rfl (Q_eqI eqID rfl rfl rfl rfl rfl) rfl (by decide +kernel) ?_; refine A_done (by decide +kernel) ?_; refine then_n ?_; refine WP_cond rfl (fun c2_3 => ?_) (fun c2_3 => ?_) <;> (first | (simp [*] at c2_3; done) | (try simp at c2_3)); (focus (refine WP_seq ?_; refine R_region ?_; refine S_q rfl rfl rfl (Q_fieldAddr rfl rfl (fld rfl rfl)) ?_; refine S_load rfl rfl rfl rfl rfl ?_; refine L_one (Rd.own m2) (ty rfl) ?_; refine S_q rfl rfl rfl (Q_move rfl rfl) ?_; refine S_q rfl rfl rfl (Q_indexS (by assumption) (by assumption) rfl rfl rfl (elm rfl) rfl) ?_; refine S_load rfl rfl rfl rfl rfl ?_; refine L_elA (by assumption) (by assumption) (ty rfl) ?_; rintro _ _ _ ⟨pn2_4, qn2_4, rfl, fn2_4⟩; refine S_w0 rfl rfl (W_all rfl rfl rfl (ty rfl) u0 (by first | rfl | assumption) (by first | rfl | assumption) (by first | rfl | assumption | exact ones_sub (by assumption) _ _) ?_); refine S_q rfl rfl rfl (Q_assign rfl rfl) ?_; refine OPS_nil ?_; refine then_n ?_; refine WP_ret ?_; refine block_r ?_; refine then_r ?_; refine roundF_r ?_; refine block_r ?_; refine then_r ?_)); rotate_left 1; (focus (refine WP_skip ?_; refine block_n ?_; refine then_n ?_; refine R_region ?_; refine S_q rfl rfl rfl (Q_move rfl rfl) ?_; refine S_q rfl rfl rfl (Q_add rfl rfl rfl (by omega)) ?_; refine S_q rfl rfl rfl (Q_assign rfl rfl) ?_; refine OPS_nil ?_)); rotate_left 1))
    · have hv : findG g (i1, i2) = some ⟨(n1, n2), kd, cl, fs⟩ := by rw [← ht, if_pos (by simpa using c2_3)]
      refine pret (.inl rfl) rfl ⟨_, _, _, rfl, Loads_agg (Rd.own m0) (ty rfl) rfl, ⟨_, _, rfl, rfl, rfl⟩, rfl⟩ ?_
      rw [hv]
      exact ⟨_, rfl, rfl, by assumption, _, _, rfl, by assumption⟩
    · refine roundF_n (k + 1) (by omega) ⟨rfl, by omega, ?_⟩ (by repeat' (first | exact List.Sublist.refl _ | exact List.sublist_append_left _ _ | exact List.nil_sublist _ | apply List.Sublist.cons₂ | apply List.Sublist.cons)) (by repeat' (first | exact trivial | refine ⟨rfl, ?_⟩))
      rw [← ht, if_neg (by simpa using c2_3)]
  · have hge : k = g.length := by omega
    subst hge
    rw [List.drop_length] at ht
    (focus (refine WP_seq ?_; refine WP_seq ?_; refine R_region ?_; refine S_q rfl rfl rfl (Q_move rfl rfl) ?_; refine S_q rfl rfl rfl (Q_fieldAddr rfl rfl (fld rfl rfl)) ?_; refine S_load rfl rfl rfl rfl rfl ?_; refine L_one (Rd.own m2) (ty rfl) ?_; refine S_q rfl rfl rfl (Q_len rfl rfl rfl rfl rfl rfl) ?_; refine S_q rfl rfl rfl (Q_cmp rfl rfl rfl rfl) ?_; refine OPS_nil ?_; refine then_n ?_; refine WP_cond rfl (fun c3_1 => ?_) (fun c3_1 => ?_) <;> (first | (simp [*] at c3_1; done) | (try simp at c3_1)); refine WP_exit ?_; refine then_e ?_; refine roundF_e ?_; refine block_e ?_; refine then_n ?_; refine WP_seq ?_; refine R_region ?_; refine S_q rfl rfl rfl (Q_build rfl (by decide +kernel) (zer rfl) rfl rfl) ?_; refine S_w0 rfl rfl (W_all rfl rfl rfl (ty rfl) u0 (by first | rfl | assumption) (by first | rfl | assumption) (by first | rfl | assumption | exact ones_sub (by assumption) _ _) ?_); refine S_q rfl rfl rfl (Q_assign rfl rfl) ?_; refine OPS_nil ?_; refine then_n ?_; refine WP_ret ?_))
    have hv : findG g (i1, i2) = none := ht.symm
    refine pret (.inl rfl) rfl ⟨_, _, _, rfl, Loads_agg (Rd.own m0) (ty rfl) rfl, ⟨_, _, rfl, rfl, rfl⟩, rfl⟩ ?_
    rw [hv]
    exact ⟨_, rfl, rfl, rfl, none, 0, rfl, SLB.nil _ _ _ _ _ _⟩
theorem refLocal_s {h : Frag} {us : List Value} {v : View} {id : ID} (hv : ViewC 4398046511104 h v us) : PSpec Tryz.prog 22 #[.agg us.toArray, .agg (idc id).toArray] h (fun _ u => u = .bool (localB v id)) := by
  obtain ⟨hi, xa, po, qo, qs, qt, pc, qc, pn, qn, pm, qm, xw, xv, pf, qf, pr, qr, xe, xf, rfl, vo, -⟩ := hv
  obtain ⟨i1, i2⟩ := id
  refine pspec_of (vs := [.agg _, .agg (idc (i1, i2)).toArray]) Tryz.func22 Tryz.ntmps22 rfl rfl ?_
  (focus (refine WP_seq ?_; refine R_region ?_; refine S_c rfl rfl rfl (C_box rfl rfl ?_); intro b0_1; refine S_c rfl rfl rfl (C_box rfl rfl ?_); intro b0_2; refine S_q rfl rfl rfl (Q_assign rfl rfl) ?_; refine OPS_nil ?_; refine then_n ?_; refine WP_seq ?_; refine R_region ?_; refine S_q rfl rfl rfl (Q_fieldAddr rfl rfl (fld rfl rfl)) ?_; refine S_load rfl rfl rfl rfl rfl ?_; refine L_sub (Rd.own m1) (ty rfl) rfl ?_; refine S_load rfl rfl rfl rfl rfl ?_; refine L_agg (Rd.own m0) (ty rfl) (by first | rfl | assumption) ?_; refine S_c rfl rfl rfl (C_call0 (refFind_s ⟨_, _, rfl, by assumption⟩) rfl rfl ⟨_, _, rfl, ⟨_, _, rfl, rfl, rfl⟩, rfl⟩ (cal rfl) ?_); rintro _ ⟨cv0_3, rfl, cl0_3, co0_3, ⟨pn0_3, qn0_3, rfl, fn0_3⟩⟩; refine S_q rfl rfl rfl (Q_move rfl rfl) ?_; refine S_q rfl rfl rfl (Q_extract rfl rfl rfl) ?_; refine S_q rfl rfl rfl (Q_extract rfl rfl rfl) ?_; refine S_c rfl rfl rfl (C_alloc rfl (zer rfl) ?_); intro b0_4; refine S_w0 rfl rfl (W_all rfl rfl rfl (ty rfl) u0 (by first | rfl | assumption) (by first | rfl | assumption) (by first | rfl | assumption | exact ones_sub (by assumption) _ _) ?_); refine S_q rfl rfl rfl (Q_assign rfl rfl) ?_; refine OPS_nil ?_; refine then_n ?_; refine WP_seq ?_; refine R_region ?_; refine S_q rfl rfl rfl (Q_move rfl rfl) ?_; refine S_q rfl rfl rfl (Q_move rfl rfl) ?_; refine S_gsplit rfl rfl rfl rfl (fun c0_5 => ?_) (fun c0_5 => ?_) <;> (first | (simp [*] at c0_5; done) | (try simp at c0_5)); (focus (refine S_gq rfl rfl rfl rfl rfl rfl (Q_fieldAddr rfl rfl (fld rfl rfl)) ?_; refine S_gload rfl rfl rfl rfl rfl rfl rfl rfl ?_; refine L_fld (Rd.own m0) (ty rfl) rfl ?_; refine S_gq rfl rfl rfl rfl rfl rfl (Q_cmp rfl rfl rfl rfl) ?_; refine S_q rfl rfl rfl (Q_pick_t rfl rfl rfl) ?_; refine S_q rfl rfl rfl (Q_assign rfl rfl) ?_; refine OPS_nil ?_; refine then_n ?_; refine WP_ret ?_)); rotate_left 1; (focus (refine S_gn rfl rfl rfl rfl rfl rfl ?_; refine S_gn rfl rfl rfl rfl rfl rfl ?_; refine S_gn rfl rfl rfl rfl rfl rfl ?_; refine S_q rfl rfl rfl (Q_pick_f rfl rfl rfl) ?_; refine S_q rfl rfl rfl (Q_assign rfl rfl) ?_; refine OPS_nil ?_; refine then_n ?_; refine WP_ret ?_)); rotate_left 1))
  all_goals refine pret (.inl rfl) rfl ⟨_, _, rfl, rfl, rfl⟩ ?_
  all_goals (rw [localB]; cases hx : findG v.objects (i1, i2) <;> simp_all [resOf]; try rfl)
theorem refSameNode_s {h : Frag} {n m : Nd} {vs us : List Value} (hn : NodeC 4398046511104 h n vs) (hm : NodeC 4398046511104 h m us) : PSpec Tryz.prog 116 #[.agg vs.toArray, .agg us.toArray] h (fun _ v => v = .bool (decide (n = m))) := by
  obtain ⟨p, c, rfl, hf⟩ := hn
  obtain ⟨p', c', rfl, hg⟩ := hm
  obtain ⟨⟨i1, i2⟩, kd, cl, fs⟩ := n
  obtain ⟨⟨j1, j2⟩, kd', cl', fs'⟩ := m
  simp only at hf hg
  have hnl := hf.le
  have hml := hg.le
  refine pspec_of (vs := [.agg [Value.int .i64 i1, .int .i64 i2, .int .i64 kd, .int .i64 cl, .slice p fs.length c].toArray, .agg [Value.int .i64 j1, .int .i64 j2, .int .i64 kd', .int .i64 cl', .slice p' fs'.length c'].toArray]) Tryz.func116 Tryz.ntmps116 rfl rfl ?_
  (focus (refine WP_seq ?_; refine R_region ?_; refine S_c rfl rfl rfl (C_box rfl rfl ?_); intro b0_1; refine S_c rfl rfl rfl (C_box rfl rfl ?_); intro b0_2; refine S_q rfl rfl rfl (Q_assign rfl rfl) ?_; refine OPS_nil ?_; refine then_n ?_; refine WP_seq ?_; refine WP_seq ?_; refine R_region ?_; refine S_q rfl rfl rfl (Q_fieldAddr rfl rfl (fld rfl rfl)) ?_; refine S_load rfl rfl rfl rfl rfl ?_; refine L_sub (Rd.own m1) (ty rfl) rfl ?_; refine S_q rfl rfl rfl (Q_fieldAddr rfl rfl (fld rfl rfl)) ?_; refine S_load rfl rfl rfl rfl rfl ?_; refine L_sub (Rd.own m0) (ty rfl) rfl ?_; refine S_q rfl rfl rfl (Q_neI eqID rfl rfl rfl rfl rfl) ?_; refine S_q rfl rfl rfl (Q_move rfl rfl) ?_; refine S_gsplit rfl rfl rfl rfl (fun c0_3 => ?_) (fun c0_3 => ?_) <;> (first | (simp [*] at c0_3; done) | (try simp at c0_3)); (focus (refine S_gn rfl rfl rfl rfl rfl rfl ?_; refine S_gn rfl rfl rfl rfl rfl rfl ?_; refine S_gn rfl rfl rfl rfl rfl rfl ?_; refine S_gn rfl rfl rfl rfl rfl rfl ?_; refine S_gn rfl rfl rfl rfl rfl rfl ?_; refine S_q rfl rfl rfl (Q_pick_t rfl rfl rfl) ?_; refine S_q rfl rfl rfl (Q_move rfl rfl) ?_; refine S_gn rfl rfl rfl rfl rfl rfl ?_; refine S_gn rfl rfl rfl rfl rfl rfl ?_; refine S_gn rfl rfl rfl rfl rfl rfl ?_; refine S_gn rfl rfl rfl rfl rfl rfl ?_; refine S_gn rfl rfl rfl rfl rfl rfl ?_; refine S_q rfl rfl rfl (Q_pick_t rfl rfl rfl) ?_; refine S_q rfl rfl rfl (Q_move rfl rfl) ?_; refine S_gn rfl rfl rfl rfl rfl rfl ?_; refine S_gn rfl rfl rfl rfl rfl rfl ?_; refine S_gn rfl rfl rfl rfl rfl rfl ?_; refine S_gn rfl rfl rfl rfl rfl rfl ?_; refine S_gn rfl rfl rfl rfl rfl rfl ?_; refine S_gn rfl rfl rfl rfl rfl rfl ?_; refine S_gn rfl rfl rfl rfl rfl rfl ?_; refine S_q rfl rfl rfl (Q_pick_t rfl rfl rfl) ?_; refine OPS_nil ?_; refine then_n ?_; refine cond_t rfl ?_; refine WP_seq ?_; refine R_region ?_; refine S_q rfl rfl rfl (Q_assign rfl rfl) ?_; refine OPS_nil ?_; refine then_n ?_; refine WP_ret ?_; refine then_r ?_)); rotate_left 1; (focus (refine S_gq rfl rfl rfl rfl rfl rfl (Q_fieldAddr rfl rfl (fld rfl rfl)) ?_; refine S_gload rfl rfl rfl rfl rfl rfl rfl rfl ?_; refine L_fld (Rd.own m1) (ty rfl) rfl ?_; refine S_gq rfl rfl rfl rfl rfl rfl (Q_fieldAddr rfl rfl (fld rfl rfl)) ?_; refine S_gload rfl rfl rfl rfl rfl rfl rfl rfl ?_; refine L_fld (Rd.own m0) (ty rfl) rfl ?_; refine S_gq rfl rfl rfl rfl rfl rfl (Q_cmp rfl rfl rfl rfl) ?_; refine S_q rfl rfl rfl (Q_pick_f rfl rfl rfl) ?_; refine S_q rfl rfl rfl (Q_move rfl rfl) ?_; refine S_gsplit rfl rfl rfl rfl (fun c0_4 => ?_) (fun c0_4 => ?_) <;> (first | (simp [*] at c0_4; done) | (try simp at c0_4)); (focus (refine S_gn rfl rfl rfl rfl rfl rfl ?_; refine S_gn rfl rfl rfl rfl rfl rfl ?_; refine S_gn rfl rfl rfl rfl rfl rfl ?_; refine S_gn rfl rfl rfl rfl rfl rfl ?_; refine S_gn rfl rfl rfl rfl rfl rfl ?_; refine S_q rfl rfl rfl (Q_pick_t rfl rfl rfl) ?_; refine S_q rfl rfl rfl (Q_move rfl rfl) ?_; refine S_gn rfl rfl rfl rfl rfl rfl ?_; refine S_gn rfl rfl rfl rfl rfl rfl ?_; refine S_gn rfl rfl rfl rfl rfl rfl ?_; refine S_gn rfl rfl rfl rfl rfl rfl ?_; refine S_gn rfl rfl rfl rfl rfl rfl ?_; refine S_gn rfl rfl rfl rfl rfl rfl ?_; refine S_gn rfl rfl rfl rfl rfl rfl ?_; refine S_q rfl rfl rfl (Q_pick_t rfl rfl rfl) ?_; refine OPS_nil ?_; refine then_n ?_; refine cond_t rfl ?_; refine WP_seq ?_; refine R_region ?_; refine S_q rfl rfl rfl (Q_assign rfl rfl) ?_; refine OPS_nil ?_; refine then_n ?_; refine WP_ret ?_; refine then_r ?_)); rotate_left 1; (focus (refine S_gq rfl rfl rfl rfl rfl rfl (Q_fieldAddr rfl rfl (fld rfl rfl)) ?_; refine S_gload rfl rfl rfl rfl rfl rfl rfl rfl ?_; refine L_fld (Rd.own m1) (ty rfl) rfl ?_; refine S_gq rfl rfl rfl rfl rfl rfl (Q_fieldAddr rfl rfl (fld rfl rfl)) ?_; refine S_gload rfl rfl rfl rfl rfl rfl rfl rfl ?_; refine L_fld (Rd.own m0) (ty rfl) rfl ?_; refine S_gq rfl rfl rfl rfl rfl rfl (Q_cmp rfl rfl rfl rfl) ?_; refine S_q rfl rfl rfl (Q_pick_f rfl rfl rfl) ?_; refine S_q rfl rfl rfl (Q_move rfl rfl) ?_; refine S_gsplit rfl rfl rfl rfl (fun c0_5 => ?_) (fun c0_5 => ?_) <;> (first | (simp [*] at c0_5; done) | (try simp at c0_5)); (focus (refine S_gn rfl rfl rfl rfl rfl rfl ?_; refine S_gn rfl rfl rfl rfl rfl rfl ?_; refine S_gn rfl rfl rfl rfl rfl rfl ?_; refine S_gn rfl rfl rfl rfl rfl rfl ?_; refine S_gn rfl rfl rfl rfl rfl rfl ?_; refine S_gn rfl rfl rfl rfl rfl rfl ?_; refine S_gn rfl rfl rfl rfl rfl rfl ?_; refine S_q rfl rfl rfl (Q_pick_t rfl rfl rfl) ?_; refine OPS_nil ?_; refine then_n ?_; refine cond_t rfl ?_; refine WP_seq ?_; refine R_region ?_; refine S_q rfl rfl rfl (Q_assign rfl rfl) ?_; refine OPS_nil ?_; refine then_n ?_; refine WP_ret ?_; refine then_r ?_)); rotate_left 1; (focus (refine S_gq rfl rfl rfl rfl rfl rfl (Q_fieldAddr rfl rfl (fld rfl rfl)) ?_; refine S_gload rfl rfl rfl rfl rfl rfl rfl rfl ?_; refine L_fld (Rd.own m1) (ty rfl) rfl ?_; refine S_gq rfl rfl rfl rfl rfl rfl (Q_len rfl rfl rfl rfl rfl rfl) ?_; refine S_gq rfl rfl rfl rfl rfl rfl (Q_fieldAddr rfl rfl (fld rfl rfl)) ?_; refine S_gload rfl rfl rfl rfl rfl rfl rfl rfl ?_; refine L_fld (Rd.own m0) (ty rfl) rfl ?_; refine S_gq rfl rfl rfl rfl rfl rfl (Q_len rfl rfl rfl rfl rfl rfl) ?_; refine S_gq rfl rfl rfl rfl rfl rfl (Q_cmp rfl rfl rfl rfl) ?_; refine S_q rfl rfl rfl (Q_pick_f rfl rfl rfl) ?_; refine OPS_nil ?_; refine then_n ?_; refine WP_cond rfl (fun c0_6 => ?_) (fun c0_6 => ?_) <;> (first | (simp [*] at c0_6; done) | (try simp at c0_6)); (focus (refine WP_seq ?_; refine R_region ?_; refine S_q rfl rfl rfl (Q_assign rfl rfl) ?_; refine OPS_nil ?_; refine then_n ?_; refine WP_ret ?_; refine then_r ?_)); rotate_left 1; (focus (refine WP_skip ?_; refine then_n ?_; refine WP_seq ?_; refine WP_seq ?_; refine R_region ?_; refine S_q rfl rfl rfl (Q_assign rfl rfl) ?_; refine OPS_nil ?_; refine then_n ?_; refine WP_block ?_)); rotate_left 1)); rotate_left 2)); rotate_left 3)); rotate_left 4))
  iterate 3
    · refine pret (.inl rfl) rfl ⟨_, _, rfl, rfl, rfl⟩ ?_
      simp only [resOf]; refine congrArg Value.bool (decide_eq_false fun e => ?_).symm
      simp only [Nd.mk.injEq, Prod.mk.injEq] at e; omega
  · refine pret (.inl rfl) rfl ⟨_, _, rfl, rfl, rfl⟩ ?_
    simp only [resOf]; refine congrArg Value.bool (decide_eq_false fun e => ?_).symm
    simp only [Nd.mk.injEq, Prod.mk.injEq] at e; rw [e.2.2.2] at c0_6; exact c0_6 rfl
  obtain ⟨rfl, rfl⟩ := c0_3
  subst c0_4
  subst c0_5
  have hlen : fs.length = fs'.length := by omega
  (refine WP_loopC (α := Nat) [3, 2] (fun (k : Nat) => fs.length - k) (fun (k : Nat) => [(5, .int .i64 k)]) (fun hh (k : Nat) => hh = h ∧ k ≤ fs.length ∧ fs.take k = fs'.take k) 0 ⟨_, _, rfl, ⟨_, _, rfl, rfl, rfl⟩, rfl⟩ (by repeat' (first | exact trivial | refine ⟨rfl, ?_⟩)) ?_ ?_)
  · exact ⟨rfl, Nat.zero_le _, rfl⟩
  rintro h1 k _ ⟨rfl, hk, ht⟩
  by_cases hlt : k < fs.length
  · obtain ⟨⟨x1, x2, x3, x4⟩, ex⟩ := get_of hlt
    obtain ⟨⟨y1, y2, y3, y4⟩, ey⟩ := get_of (xs := fs') (k := k) (by omega)
    (focus (refine WP_seq ?_; refine WP_seq ?_; refine R_region ?_; refine S_q rfl rfl rfl (Q_move rfl rfl) ?_; refine S_q rfl rfl rfl (Q_fieldAddr rfl rfl (fld rfl rfl)) ?_; refine S_load rfl rfl rfl rfl rfl ?_; refine L_fld (Rd.own m1) (ty rfl) rfl ?_; refine S_q rfl rfl rfl (Q_len rfl rfl rfl rfl rfl rfl) ?_; refine S_q rfl rfl rfl (Q_cmp rfl rfl rfl rfl) ?_; refine OPS_nil ?_; refine then_n ?_; refine WP_cond rfl (fun c2_1 => ?_) (fun c2_1 => ?_) <;> (first | (simp [*] at c2_1; done) | (try simp at c2_1)); (focus (refine WP_skip ?_; refine then_n ?_; refine WP_seq ?_; refine WP_block ?_; refine WP_seq ?_; refine R_draw (n := 11) mixed rfl ?_; refine A_at 0 rfl rfl ?_; refine A_q (m' := 1) rfl rfl rfl (Q_fieldAddr rfl rfl (fld rfl rfl)) rfl (by decide +kernel) ?_; refine A_at 1 rfl rfl ?_; refine A_load (m' := 3) rfl rfl rfl rfl rfl rfl (by decide +kernel) ?_; refine L_fld (Rd.own m1) (ty rfl) rfl ?_; refine A_at 2 rfl rfl ?_; refine A_q (m' := 7) rfl rfl rfl (Q_move rfl rfl) rfl (by decide +kernel) ?_; refine A_at 3 rfl rfl ?_; refine A_q (m' := 15) rfl rfl rfl (Q_indexS (by assumption) (by assumption) rfl rfl rfl (elm rfl) rfl) rfl (by decide +kernel) ?_; refine A_at 4 rfl rfl ?_; refine A_load (m' := 31) rfl rfl rfl rfl rfl rfl (by decide +kernel) ?_; refine L_elA (by assumption) (by assumption) (ty rfl) ?_; rintro _ _ _ rfl; refine A_at 5 rfl rfl ?_; refine A_q (m' := 63) rfl rfl rfl (Q_fieldAddr rfl rfl (fld rfl rfl)) rfl (by decide +kernel) ?_; refine A_at 6 rfl rfl ?_; refine A_load (m' := 127) rfl rfl rfl rfl rfl rfl (by decide +kernel) ?_; refine L_fld (Rd.own m0) (ty rfl) rfl ?_; refine A_at 7 rfl rfl ?_; refine A_q (m' := 255) rfl rfl rfl (Q_move rfl rfl) rfl (by decide +kernel) ?_; refine A_at 8 rfl rfl ?_; refine A_q (m' := 511) rfl rfl rfl (Q_indexS (by assumption) (by assumption) rfl rfl rfl (elm rfl) rfl) rfl (by decide +kernel) ?_; refine A_at 9 rfl rfl ?_; refine A_load (m' := 1023) rfl rfl rfl rfl rfl rfl (by decide +kernel) ?_; refine L_elA (by assumption) (by assumption) (ty rfl) ?_; rintro _ _ _ rfl; refine A_at 10 rfl rfl ?_; refine A_q (m' := 2047) rfl rfl rfl (Q_neV eqVal rfl rfl rfl rfl rfl) rfl (by decide +kernel) ?_; refine A_done (by decide +kernel) ?_; refine then_n ?_; refine WP_cond rfl (fun c2_4 => ?_) (fun c2_4 => ?_) <;> (first | (simp [*] at c2_4; done) | (try simp at c2_4)); (focus (refine WP_seq ?_; refine R_region ?_; refine S_q rfl rfl rfl (Q_assign rfl rfl) ?_; refine OPS_nil ?_; refine then_n ?_; refine WP_ret ?_; refine block_r ?_; refine then_r ?_; refine roundF_r ?_; refine block_r ?_; refine then_r ?_)); rotate_left 1; (focus (refine WP_skip ?_; refine block_n ?_; refine then_n ?_; refine R_region ?_; refine S_q rfl rfl rfl (Q_move rfl rfl) ?_; refine S_q rfl rfl rfl (Q_add rfl rfl rfl (by omega)) ?_; refine S_q rfl rfl rfl (Q_assign rfl rfl) ?_; refine OPS_nil ?_)); rotate_left 1)); rotate_left 2; (focus (exfalso; omega))))
    · refine pret (.inl rfl) rfl ⟨_, _, rfl, rfl, rfl⟩ ?_
      have : fs ≠ fs' := fun e => by subst e; rw [ex] at ey; cases ey; simp_all
      simp [resOf, this]
    · refine roundF_n (k + 1) (by omega) ⟨rfl, by omega, take_eq (x := (x1, x2, x3, x4)) ht ex ?_⟩ (by repeat' (first | exact List.Sublist.refl _ | exact List.sublist_append_left _ _ | exact List.nil_sublist _ | apply List.Sublist.cons₂ | apply List.Sublist.cons)) (by repeat' (first | exact trivial | refine ⟨rfl, ?_⟩))
      rw [ey]; simp_all
  · have hge : k = fs.length := by omega
    subst hge
    (focus (refine WP_seq ?_; refine WP_seq ?_; refine R_region ?_; refine S_q rfl rfl rfl (Q_move rfl rfl) ?_; refine S_q rfl rfl rfl (Q_fieldAddr rfl rfl (fld rfl rfl)) ?_; refine S_load rfl rfl rfl rfl rfl ?_; refine L_fld (Rd.own m1) (ty rfl) rfl ?_; refine S_q rfl rfl rfl (Q_len rfl rfl rfl rfl rfl rfl) ?_; refine S_q rfl rfl rfl (Q_cmp rfl rfl rfl rfl) ?_; refine OPS_nil ?_; refine then_n ?_; refine WP_cond rfl (fun c3_1 => ?_) (fun c3_1 => ?_) <;> (first | (simp [*] at c3_1; done) | (try simp at c3_1)); refine WP_exit ?_; refine then_e ?_; refine roundF_e ?_; refine block_e ?_; refine then_n ?_; refine WP_seq ?_; refine R_region ?_; refine S_q rfl rfl rfl (Q_assign rfl rfl) ?_; refine OPS_nil ?_; refine then_n ?_; refine WP_ret ?_))
    · refine pret (.inl rfl) rfl ⟨_, _, rfl, rfl, rfl⟩ ?_
      have : fs = fs' := by rw [List.take_of_length_le (Nat.le_refl _), List.take_of_length_le (by omega)] at ht; exact ht
      simp [resOf, this]
theorem refEqual_s {h : Frag} {g k : List Nd} {vs us : List Value} (hg : GraphC 4398046511104 h g vs) (hk : GraphC 4398046511104 h k us) : PSpec Tryz.prog 76 #[.agg vs.toArray, .agg us.toArray] h (fun _ v => v = .bool (decide (g = k))) := by
  obtain ⟨p, c, rfl, hf⟩ := hg
  obtain ⟨p', c', rfl, hg⟩ := hk
  have hnl := hf.le
  have hml := hg.le
  refine pspec_of (vs := [.agg [Value.slice p g.length c].toArray, .agg [Value.slice p' k.length c'].toArray]) Tryz.func76 Tryz.ntmps76 rfl rfl ?_
  (focus (refine WP_seq ?_; refine R_region ?_; refine S_c rfl rfl rfl (C_box rfl rfl ?_); intro b0_1; refine S_c rfl rfl rfl (C_box rfl rfl ?_); intro b0_2; refine S_q rfl rfl rfl (Q_assign rfl rfl) ?_; refine OPS_nil ?_; refine then_n ?_; refine WP_seq ?_; refine WP_seq ?_; refine R_region ?_; refine S_q rfl rfl rfl (Q_fieldAddr rfl rfl (fld rfl rfl)) ?_; refine S_load rfl rfl rfl rfl rfl ?_; refine L_one (Rd.own m1) (ty rfl) ?_; refine S_q rfl rfl rfl (Q_len rfl rfl rfl rfl rfl rfl) ?_; refine S_q rfl rfl rfl (Q_fieldAddr rfl rfl (fld rfl rfl)) ?_; refine S_load rfl rfl rfl rfl rfl ?_; refine L_one (Rd.own m0) (ty rfl) ?_; refine S_q rfl rfl rfl (Q_len rfl rfl rfl rfl rfl rfl) ?_; refine S_q rfl rfl rfl (Q_cmp rfl rfl rfl rfl) ?_; refine OPS_nil ?_; refine then_n ?_; refine WP_cond rfl (fun c0_3 => ?_) (fun c0_3 => ?_) <;> (first | (simp [*] at c0_3; done) | (try simp at c0_3)); (focus (refine WP_seq ?_; refine R_region ?_; refine S_q rfl rfl rfl (Q_assign rfl rfl) ?_; refine OPS_nil ?_; refine then_n ?_; refine WP_ret ?_; refine then_r ?_)); rotate_left 1; (focus (refine WP_skip ?_; refine then_n ?_; refine WP_seq ?_; refine WP_seq ?_; refine R_region ?_; refine S_q rfl rfl rfl (Q_assign rfl rfl) ?_; refine OPS_nil ?_; refine then_n ?_; refine WP_block ?_)); rotate_left 1))
  · refine pret (.inl rfl) rfl ⟨_, _, rfl, rfl, rfl⟩ ?_
    simp only [resOf]; refine congrArg Value.bool (decide_eq_false fun e => ?_).symm
    rw [e] at c0_3; exact c0_3 rfl
  have hlen : g.length = k.length := by omega
  (refine WP_loopC (α := Nat) [3, 2] (fun (i : Nat) => g.length - i) (fun (i : Nat) => [(5, .int .i64 i)]) (fun hh (i : Nat) => hh = h ∧ i ≤ g.length ∧ g.take i = k.take i) 0 ⟨_, _, rfl, ⟨_, _, rfl, rfl, rfl⟩, rfl⟩ (by repeat' (first | exact trivial | refine ⟨rfl, ?_⟩)) ?_ ?_)
  · exact ⟨rfl, Nat.zero_le _, rfl⟩
  rintro h1 i _ ⟨rfl, hi, ht⟩
  by_cases hlt : i < g.length
  · obtain ⟨x, ex⟩ := get_of hlt
    obtain ⟨y, ey⟩ := get_of (xs := k) (k := i) (by omega)
    (focus (refine WP_seq ?_; refine WP_seq ?_; refine R_region ?_; refine S_q rfl rfl rfl (Q_move rfl rfl) ?_; refine S_q rfl rfl rfl (Q_fieldAddr rfl rfl (fld rfl rfl)) ?_; refine S_load rfl rfl rfl rfl rfl ?_; refine L_one (Rd.own m1) (ty rfl) ?_; refine S_q rfl rfl rfl (Q_len rfl rfl rfl rfl rfl rfl) ?_; refine S_q rfl rfl rfl (Q_cmp rfl rfl rfl rfl) ?_; refine OPS_nil ?_; refine then_n ?_; refine WP_cond rfl (fun c2_1 => ?_) (fun c2_1 => ?_) <;> (first | (simp [*] at c2_1; done) | (try simp at c2_1)); (focus (refine WP_skip ?_; refine then_n ?_; refine WP_seq ?_; refine WP_block ?_; refine WP_seq ?_; refine R_draw (n := 12) mixed rfl ?_; refine A_at 0 rfl rfl ?_; refine A_q (m' := 1) rfl rfl rfl (Q_fieldAddr rfl rfl (fld rfl rfl)) rfl (by decide +kernel) ?_; refine A_at 1 rfl rfl ?_; refine A_load (m' := 3) rfl rfl rfl rfl rfl rfl (by decide +kernel) ?_; refine L_one (Rd.own m1) (ty rfl) ?_; refine A_at 2 rfl rfl ?_; refine A_q (m' := 7) rfl rfl rfl (Q_move rfl rfl) rfl (by decide +kernel) ?_; refine A_at 3 rfl rfl ?_; refine A_q (m' := 15) rfl rfl rfl (Q_indexS (by assumption) (by assumption) rfl rfl rfl (elm rfl) rfl) rfl (by decide +kernel) ?_; refine A_at 4 rfl rfl ?_; refine A_load (m' := 31) rfl rfl rfl rfl rfl rfl (by decide +kernel) ?_; refine L_elA (by assumption) (by assumption) (ty rfl) ?_; rintro _ _ _ ⟨pn2_2, qn2_2, rfl, fn2_2⟩; refine A_at 5 rfl rfl ?_; refine A_q (m' := 63) rfl rfl rfl (Q_fieldAddr rfl rfl (fld rfl rfl)) rfl (by decide +kernel) ?_; refine A_at 6 rfl rfl ?_; refine A_load (m' := 127) rfl rfl rfl rfl rfl rfl (by decide +kernel) ?_; refine L_one (Rd.own m0) (ty rfl) ?_; refine A_at 7 rfl rfl ?_; refine A_q (m' := 255) rfl rfl rfl (Q_move rfl rfl) rfl (by decide +kernel) ?_; refine A_at 8 rfl rfl ?_; refine A_q (m' := 511) rfl rfl rfl (Q_indexS (by assumption) (by assumption) rfl rfl rfl (elm rfl) rfl) rfl (by decide +kernel) ?_; refine A_at 9 rfl rfl ?_; refine A_load (m' := 1023) rfl rfl rfl rfl rfl rfl (by decide +kernel) ?_; refine L_elA (by assumption) (by assumption) (ty rfl) ?_; rintro _ _ _ ⟨pn2_3, qn2_3, rfl, fn2_3⟩; refine A_at 10 rfl rfl ?_; refine A_c (m' := 2047) rfl rfl rfl rfl (by decide +kernel) (C_callv (refSameNode_s ⟨_, _, rfl, by assumption⟩ ⟨_, _, rfl, by assumption⟩) rfl rfl ⟨_, _, rfl, ⟨_, _, rfl, rfl, rfl⟩, rfl⟩ (cal rfl) ?_); refine A_at 11 rfl rfl ?_; refine A_q (m' := 4095) rfl rfl rfl (Q_not rfl rfl) rfl (by decide +kernel) ?_; refine A_done (by decide +kernel) ?_; refine then_n ?_; refine WP_cond rfl (fun c2_4 => ?_) (fun c2_4 => ?_) <;> (first | (simp [*] at c2_4; done) | (try simp at c2_4)); (focus (refine WP_seq ?_; refine R_region ?_; refine S_q rfl rfl rfl (Q_assign rfl rfl) ?_; refine OPS_nil ?_; refine then_n ?_; refine WP_ret ?_; refine block_r ?_; refine then_r ?_; refine roundF_r ?_; refine block_r ?_; refine then_r ?_)); rotate_left 1; (focus (refine WP_skip ?_; refine block_n ?_; refine then_n ?_; refine R_region ?_; refine S_q rfl rfl rfl (Q_move rfl rfl) ?_; refine S_q rfl rfl rfl (Q_add rfl rfl rfl (by omega)) ?_; refine S_q rfl rfl rfl (Q_assign rfl rfl) ?_; refine OPS_nil ?_)); rotate_left 1)); rotate_left 2; (focus (exfalso; omega))))
    · refine pret (.inl rfl) rfl ⟨_, _, rfl, rfl, rfl⟩ ?_
      have : g ≠ k := fun e => by subst e; rw [ex] at ey; cases ey; simp_all
      simp [resOf, this]
    · refine roundF_n (i + 1) (by omega) ⟨rfl, by omega, take_eq (x := x) ht ex ?_⟩ (by repeat' (first | exact List.Sublist.refl _ | exact List.sublist_append_left _ _ | exact List.nil_sublist _ | apply List.Sublist.cons₂ | apply List.Sublist.cons)) (by repeat' (first | exact trivial | refine ⟨rfl, ?_⟩))
      rw [ey]; simp_all
  · have hge : i = g.length := by omega
    subst hge
    (focus (refine WP_seq ?_; refine WP_seq ?_; refine R_region ?_; refine S_q rfl rfl rfl (Q_move rfl rfl) ?_; refine S_q rfl rfl rfl (Q_fieldAddr rfl rfl (fld rfl rfl)) ?_; refine S_load rfl rfl rfl rfl rfl ?_; refine L_one (Rd.own m1) (ty rfl) ?_; refine S_q rfl rfl rfl (Q_len rfl rfl rfl rfl rfl rfl) ?_; refine S_q rfl rfl rfl (Q_cmp rfl rfl rfl rfl) ?_; refine OPS_nil ?_; refine then_n ?_; refine WP_cond rfl (fun c3_1 => ?_) (fun c3_1 => ?_) <;> (first | (simp [*] at c3_1; done) | (try simp at c3_1)); refine WP_exit ?_; refine then_e ?_; refine roundF_e ?_; refine block_e ?_; refine then_n ?_; refine WP_seq ?_; refine R_region ?_; refine S_q rfl rfl rfl (Q_assign rfl rfl) ?_; refine OPS_nil ?_; refine then_n ?_; refine WP_ret ?_))
    · refine pret (.inl rfl) rfl ⟨_, _, rfl, rfl, rfl⟩ ?_
      have : g = k := by rw [List.take_of_length_le (Nat.le_refl _), List.take_of_length_le (by omega)] at ht; exact ht
      simp [resOf, this]
theorem refCmp16_s (h : Frag) (a b : ID) : PSpec Tryz.prog 125 #[.agg (idc a).toArray, .agg (idc b).toArray] h (fun _ v => v = .int .i64 (cmpID a b)) := by
  obtain ⟨a1, a2⟩ := a
  obtain ⟨b1, b2⟩ := b
  refine pspec_of (vs := [.agg (idc (a1, a2)).toArray, .agg (idc (b1, b2)).toArray]) Tryz.func125 Tryz.ntmps125 rfl rfl ?_
  (focus (refine WP_seq ?_; refine R_region ?_; refine S_c rfl rfl rfl (C_box rfl rfl ?_); intro b0_1; refine S_c rfl rfl rfl (C_box rfl rfl ?_); intro b0_2; refine S_q rfl rfl rfl (Q_assign rfl rfl) ?_; refine OPS_nil ?_; refine then_n ?_; refine WP_seq ?_; refine WP_seq ?_; refine R_region ?_; refine S_load rfl rfl rfl rfl rfl ?_; refine L_agg (Rd.own m1) (ty rfl) (by first | rfl | assumption) ?_; refine S_load rfl rfl rfl rfl rfl ?_; refine L_agg (Rd.own m0) (ty rfl) (by first | rfl | assumption) ?_; refine S_q rfl rfl rfl (Q_eqI eqID rfl rfl rfl rfl rfl) ?_; refine OPS_nil ?_; refine then_n ?_; refine WP_cond rfl (fun c0_3 => ?_) (fun c0_3 => ?_) <;> (first | (simp [*] at c0_3; done) | (try simp at c0_3)); (focus (refine WP_seq ?_; refine R_region ?_; refine S_q rfl rfl rfl (Q_assign rfl rfl) ?_; refine OPS_nil ?_; refine then_n ?_; refine WP_ret ?_; refine then_r ?_)); rotate_left 1; (focus (refine WP_skip ?_; refine then_n ?_; refine WP_seq ?_; refine WP_seq ?_; refine R_region ?_; refine S_q rfl rfl rfl (Q_fieldAddr rfl rfl (fld rfl rfl)) ?_; refine S_load rfl rfl rfl rfl rfl ?_; refine L_fld (Rd.own m1) (ty rfl) rfl ?_; refine S_q rfl rfl rfl (Q_fieldAddr rfl rfl (fld rfl rfl)) ?_; refine S_load rfl rfl rfl rfl rfl ?_; refine L_fld (Rd.own m0) (ty rfl) rfl ?_; refine S_q rfl rfl rfl (Q_cmp rfl rfl rfl rfl) ?_; refine S_q rfl rfl rfl (Q_move rfl rfl) ?_; refine S_gsplit rfl rfl rfl rfl (fun c0_4 => ?_) (fun c0_4 => ?_) <;> (first | (simp [*] at c0_4; done) | (try simp at c0_4)); (focus (refine S_gn rfl rfl rfl rfl rfl rfl ?_; refine S_gn rfl rfl rfl rfl rfl rfl ?_; refine S_gn rfl rfl rfl rfl rfl rfl ?_; refine S_gn rfl rfl rfl rfl rfl rfl ?_; refine S_gn rfl rfl rfl rfl rfl rfl ?_; refine S_gn rfl rfl rfl rfl rfl rfl ?_; refine S_gu rfl rfl rfl rfl rfl rfl ?_; refine S_gu rfl rfl rfl rfl rfl rfl ?_; refine S_gu rfl rfl rfl rfl rfl rfl ?_; refine S_gu rfl rfl rfl rfl rfl rfl ?_; refine S_gu rfl rfl rfl rfl rfl rfl ?_; refine S_gn rfl rfl rfl rfl rfl rfl ?_; refine S_q rfl rfl rfl (Q_pick_t rfl rfl rfl) ?_; refine OPS_nil ?_; refine then_n ?_; refine cond_t rfl ?_; refine WP_seq ?_; refine R_region ?_; refine S_q rfl rfl rfl (Q_assign rfl rfl) ?_; refine OPS_nil ?_; refine then_n ?_; refine WP_ret ?_; refine then_r ?_)); rotate_left 1; (focus (refine S_gq rfl rfl rfl rfl rfl rfl (Q_fieldAddr rfl rfl (fld rfl rfl)) ?_; refine S_gload rfl rfl rfl rfl rfl rfl rfl rfl ?_; refine L_fld (Rd.own m1) (ty rfl) rfl ?_; refine S_gq rfl rfl rfl rfl rfl rfl (Q_fieldAddr rfl rfl (fld rfl rfl)) ?_; refine S_gload rfl rfl rfl rfl rfl rfl rfl rfl ?_; refine L_fld (Rd.own m0) (ty rfl) rfl ?_; refine S_gq rfl rfl rfl rfl rfl rfl (Q_cmp rfl rfl rfl rfl) ?_; refine S_gq rfl rfl rfl rfl rfl rfl (Q_move rfl rfl) ?_; refine S_gsplit rfl rfl rfl rfl (fun c0_5 => ?_) (fun c0_5 => ?_) <;> (first | (simp [*] at c0_5; done) | (try simp at c0_5)); (focus (refine S_gq rfl rfl rfl rfl rfl rfl (Q_fieldAddr rfl rfl (fld rfl rfl)) ?_; refine S_gload rfl rfl rfl rfl rfl rfl rfl rfl ?_; refine L_fld (Rd.own m1) (ty rfl) rfl ?_; refine S_gq rfl rfl rfl rfl rfl rfl (Q_fieldAddr rfl rfl (fld rfl rfl)) ?_; refine S_gload rfl rfl rfl rfl rfl rfl rfl rfl ?_; refine L_fld (Rd.own m0) (ty rfl) rfl ?_; refine S_gq rfl rfl rfl rfl rfl rfl (Q_cmp rfl rfl rfl rfl) ?_; refine S_gq rfl rfl rfl rfl rfl rfl (Q_pick_t rfl rfl rfl) ?_; refine S_q rfl rfl rfl (Q_pick_f rfl rfl rfl) ?_; refine OPS_nil ?_; refine then_n ?_; refine WP_cond rfl (fun c0_6 => ?_) (fun c0_6 => ?_) <;> (first | (simp [*] at c0_6; done) | (try simp at c0_6)); (focus (refine WP_seq ?_; refine R_region ?_; refine S_q rfl rfl rfl (Q_assign rfl rfl) ?_; refine OPS_nil ?_; refine then_n ?_; refine WP_ret ?_; refine then_r ?_)); rotate_left 1; (focus (refine WP_skip ?_; refine then_n ?_; refine WP_seq ?_; refine R_region ?_; refine S_q rfl rfl rfl (Q_assign rfl rfl) ?_; refine OPS_nil ?_; refine then_n ?_; refine WP_ret ?_)); rotate_left 1)); rotate_left 2; (focus (refine S_gn rfl rfl rfl rfl rfl rfl ?_; refine S_gn rfl rfl rfl rfl rfl rfl ?_; refine S_gn rfl rfl rfl rfl rfl rfl ?_; refine S_gn rfl rfl rfl rfl rfl rfl ?_; refine S_gn rfl rfl rfl rfl rfl rfl ?_; refine S_gq rfl rfl rfl rfl rfl rfl (Q_pick_f rfl rfl rfl) ?_; refine S_q rfl rfl rfl (Q_pick_f rfl rfl rfl) ?_; refine OPS_nil ?_; refine then_n ?_; refine cond_f rfl ?_; refine WP_skip ?_; refine then_n ?_; refine WP_seq ?_; refine R_region ?_; refine S_q rfl rfl rfl (Q_assign rfl rfl) ?_; refine OPS_nil ?_; refine then_n ?_; refine WP_ret ?_)); rotate_left 1)); rotate_left 3)); rotate_left 4))
  all_goals refine pret (.inl rfl) rfl ⟨_, _, rfl, rfl, rfl⟩ ?_
  all_goals (refine congrArg (Value.int .i64) ?_; simp only [cmpID, orI, cmpI]; grind)
theorem refCmp21_s (h : Frag) (a b : ID) : PSpec Tryz.prog 127 #[.agg (idc a).toArray, .agg (idc b).toArray] h (fun _ v => v = .int .i64 (cmpID a b)) := by
  obtain ⟨a1, a2⟩ := a
  obtain ⟨b1, b2⟩ := b
  refine pspec_of (vs := [.agg (idc (a1, a2)).toArray, .agg (idc (b1, b2)).toArray]) Tryz.func127 Tryz.ntmps127 rfl rfl ?_
  (focus (refine WP_seq ?_; refine R_region ?_; refine S_c rfl rfl rfl (C_box rfl rfl ?_); intro b0_1; refine S_c rfl rfl rfl (C_box rfl rfl ?_); intro b0_2; refine S_q rfl rfl rfl (Q_assign rfl rfl) ?_; refine OPS_nil ?_; refine then_n ?_; refine WP_seq ?_; refine WP_seq ?_; refine R_region ?_; refine S_load rfl rfl rfl rfl rfl ?_; refine L_agg (Rd.own m1) (ty rfl) (by first | rfl | assumption) ?_; refine S_load rfl rfl rfl rfl rfl ?_; refine L_agg (Rd.own m0) (ty rfl) (by first | rfl | assumption) ?_; refine S_q rfl rfl rfl (Q_eqI eqID rfl rfl rfl rfl rfl) ?_; refine OPS_nil ?_; refine then_n ?_; refine WP_cond rfl (fun c0_3 => ?_) (fun c0_3 => ?_) <;> (first | (simp [*] at c0_3; done) | (try simp at c0_3)); (focus (refine WP_seq ?_; refine R_region ?_; refine S_q rfl rfl rfl (Q_assign rfl rfl) ?_; refine OPS_nil ?_; refine then_n ?_; refine WP_ret ?_; refine then_r ?_)); rotate_left 1; (focus (refine WP_skip ?_; refine then_n ?_; refine WP_seq ?_; refine WP_seq ?_; refine R_region ?_; refine S_q rfl rfl rfl (Q_fieldAddr rfl rfl (fld rfl rfl)) ?_; refine S_load rfl rfl rfl rfl rfl ?_; refine L_fld (Rd.own m1) (ty rfl) rfl ?_; refine S_q rfl rfl rfl (Q_fieldAddr rfl rfl (fld rfl rfl)) ?_; refine S_load rfl rfl rfl rfl rfl ?_; refine L_fld (Rd.own m0) (ty rfl) rfl ?_; refine S_q rfl rfl rfl (Q_cmp rfl rfl rfl rfl) ?_; refine S_q rfl rfl rfl (Q_move rfl rfl) ?_; refine S_gsplit rfl rfl rfl rfl (fun c0_4 => ?_) (fun c0_4 => ?_) <;> (first | (simp [*] at c0_4; done) | (try simp at c0_4)); (focus (refine S_gn rfl rfl rfl rfl rfl rfl ?_; refine S_gn rfl rfl rfl rfl rfl rfl ?_; refine S_gn rfl rfl rfl rfl rfl rfl ?_; refine S_gn rfl rfl rfl rfl rfl rfl ?_; refine S_gn rfl rfl rfl rfl rfl rfl ?_; refine S_gn rfl rfl rfl rfl rfl rfl ?_; refine S_gu rfl rfl rfl rfl rfl rfl ?_; refine S_gu rfl rfl rfl rfl rfl rfl ?_; refine S_gu rfl rfl rfl rfl rfl rfl ?_; refine S_gu rfl rfl rfl rfl rfl rfl ?_; refine S_gu rfl rfl rfl rfl rfl rfl ?_; refine S_gn rfl rfl rfl rfl rfl rfl ?_; refine S_q rfl rfl rfl (Q_pick_t rfl rfl rfl) ?_; refine OPS_nil ?_; refine then_n ?_; refine cond_t rfl ?_; refine WP_seq ?_; refine R_region ?_; refine S_q rfl rfl rfl (Q_assign rfl rfl) ?_; refine OPS_nil ?_; refine then_n ?_; refine WP_ret ?_; refine then_r ?_)); rotate_left 1; (focus (refine S_gq rfl rfl rfl rfl rfl rfl (Q_fieldAddr rfl rfl (fld rfl rfl)) ?_; refine S_gload rfl rfl rfl rfl rfl rfl rfl rfl ?_; refine L_fld (Rd.own m1) (ty rfl) rfl ?_; refine S_gq rfl rfl rfl rfl rfl rfl (Q_fieldAddr rfl rfl (fld rfl rfl)) ?_; refine S_gload rfl rfl rfl rfl rfl rfl rfl rfl ?_; refine L_fld (Rd.own m0) (ty rfl) rfl ?_; refine S_gq rfl rfl rfl rfl rfl rfl (Q_cmp rfl rfl rfl rfl) ?_; refine S_gq rfl rfl rfl rfl rfl rfl (Q_move rfl rfl) ?_; refine S_gsplit rfl rfl rfl rfl (fun c0_5 => ?_) (fun c0_5 => ?_) <;> (first | (simp [*] at c0_5; done) | (try simp at c0_5)); (focus (refine S_gq rfl rfl rfl rfl rfl rfl (Q_fieldAddr rfl rfl (fld rfl rfl)) ?_; refine S_gload rfl rfl rfl rfl rfl rfl rfl rfl ?_; refine L_fld (Rd.own m1) (ty rfl) rfl ?_; refine S_gq rfl rfl rfl rfl rfl rfl (Q_fieldAddr rfl rfl (fld rfl rfl)) ?_; refine S_gload rfl rfl rfl rfl rfl rfl rfl rfl ?_; refine L_fld (Rd.own m0) (ty rfl) rfl ?_; refine S_gq rfl rfl rfl rfl rfl rfl (Q_cmp rfl rfl rfl rfl) ?_; refine S_gq rfl rfl rfl rfl rfl rfl (Q_pick_t rfl rfl rfl) ?_; refine S_q rfl rfl rfl (Q_pick_f rfl rfl rfl) ?_; refine OPS_nil ?_; refine then_n ?_; refine WP_cond rfl (fun c0_6 => ?_) (fun c0_6 => ?_) <;> (first | (simp [*] at c0_6; done) | (try simp at c0_6)); (focus (refine WP_seq ?_; refine R_region ?_; refine S_q rfl rfl rfl (Q_assign rfl rfl) ?_; refine OPS_nil ?_; refine then_n ?_; refine WP_ret ?_; refine then_r ?_)); rotate_left 1; (focus (refine WP_skip ?_; refine then_n ?_; refine WP_seq ?_; refine R_region ?_; refine S_q rfl rfl rfl (Q_assign rfl rfl) ?_; refine OPS_nil ?_; refine then_n ?_; refine WP_ret ?_)); rotate_left 1)); rotate_left 2; (focus (refine S_gn rfl rfl rfl rfl rfl rfl ?_; refine S_gn rfl rfl rfl rfl rfl rfl ?_; refine S_gn rfl rfl rfl rfl rfl rfl ?_; refine S_gn rfl rfl rfl rfl rfl rfl ?_; refine S_gn rfl rfl rfl rfl rfl rfl ?_; refine S_gq rfl rfl rfl rfl rfl rfl (Q_pick_f rfl rfl rfl) ?_; refine S_q rfl rfl rfl (Q_pick_f rfl rfl rfl) ?_; refine OPS_nil ?_; refine then_n ?_; refine cond_f rfl ?_; refine WP_skip ?_; refine then_n ?_; refine WP_seq ?_; refine R_region ?_; refine S_q rfl rfl rfl (Q_assign rfl rfl) ?_; refine OPS_nil ?_; refine then_n ?_; refine WP_ret ?_)); rotate_left 1)); rotate_left 3)); rotate_left 4))
  all_goals refine pret (.inl rfl) rfl ⟨_, _, rfl, rfl, rfl⟩ ?_
  all_goals (refine congrArg (Value.int .i64) ?_; simp only [cmpID, orI, cmpI]; grind)
end Go.Proofs.YtfhoecgiahpddaaGreat
/-
  CONTRACT: observer.Home.
-/
set_option linter.all false
namespace Go.Proofs.YtfhoecgiahpddaaGreat
open Go.Mesh Go.RowKit
set_option maxRecDepth 100000
set_option linter.unusedVariables false
set_option maxHeartbeats 4000000
attribute [local irreducible] WP OPS ANY ANYo LG LV FSpec PSpec QOP OPc OPw thenQ blockQ roundQ roundF retQ retM Rd At SLB OS cmpI orI cmpID namedB valB nodeB kindB validG valAux idxI findG zeroV viewOf vwAt idxOf recv flyB scionOf moveOf numberedOf idOf valueOf mget mput localB carriedB stubOf followF followOf flOf flightsOf flPre setL minusL compactL putI mergeN insN insAll unionR NMap Coll retN bodyS GMap Dfs refsV refsOf reachL movedOf movedG graphParts graphR isMove flightIDs mailIDs viewIDs rawRoots rootsR reachR deadN viewObjs garbageOf garbageR objsL msgB sizesB smallV fewB
def carries (id : ID) (i : View × Flight) : Bool := decide (i.2.msg.kind = 1) && decide (i.2.msg.parcel.id = id)
def homeF (vs : List View) (id : ID) : Int × Bool := match (flightsOf vs).find? (carries id) with
  | some i => (i.2.to, true)
  | none => (0, false)
def homeR (vs : List View) (id : ID) : Int × Bool := match vs.find? fun v => localB v id with
  | some v => (v.machine, true)
  | none => homeF vs id
theorem homeR_local {vs : List View} {id : ID} {v : View} (h : vs.find? (fun v => localB v id) = some v) : homeR vs id = (v.machine, true) := by rw [homeR, h]
theorem homeR_none {vs : List View} {id : ID} (h : vs.find? (fun v => localB v id) = none) : homeR vs id = homeF vs id := by rw [homeR, h]
theorem homeF_some {vs : List View} {id : ID} {i : View × Flight} (h : (flightsOf vs).find? (carries id) = some i) : homeF vs id = (i.2.to, true) := by rw [homeF, h]
theorem homeF_none {vs : List View} {id : ID} (h : (flightsOf vs).find? (carries id) = none) : homeF vs id = (0, false) := by rw [homeF, h]
theorem carries_def (id : ID) (i : View × Flight) : carries id i = (decide (i.2.msg.kind = 1) && decide (i.2.msg.parcel.id = id)) := rfl
theorem find_snoc {α : Type} (p : α → Bool) (l : List α) (x : α) (h : l.find? p = none) : (l ++ [x]).find? p = if p x then some x else none := by
  rw [List.find?_append, h]; simp [List.find?_cons]; cases p x <;> rfl
theorem find_prefix {α : Type} {p : α → Bool} {l l' : List α} {x : α} (h : l <+: l') (hx : l.find? p = some x) : l'.find? p = some x := by
  obtain ⟨t, rfl⟩ := h
  rw [List.find?_append, hx]; rfl
attribute [local irreducible] homeR homeF carries
theorem home_s {h : Frag} {a : Value} {vs : List View} {id : ID} (hs : SL h 13 (ViewC 4398046511104) a vs) (hlen : vs.length ≤ 1000) : PSpec Tryz.prog 24 #[a, .agg (idc id).toArray] h (fun _ v => v = .tuple #[.int .i64 (homeR vs id).1, .bool (homeR vs id).2]) := by
  obtain ⟨pv, cv, rfl⟩ := hs.slice
  obtain ⟨i1, i2⟩ := id
  refine pspec_ofN (vs := [.slice pv vs.length cv, .agg (idc (i1, i2)).toArray]) Tryz.func24 Tryz.ntmps24 rfl rfl ?_
  (focus (refine WP_seq ?_; refine R_region ?_; refine S_c rfl rfl rfl (C_box rfl rfl ?_); intro b0_1; refine S_c rfl rfl rfl (C_alloc rfl (zer rfl) ?_); intro b0_2; refine S_c rfl rfl rfl (C_alloc rfl (zer rfl) ?_); intro b0_3; refine OPS_nil ?_; refine then_n ?_; refine WP_seq ?_; refine WP_seq ?_; refine R_region ?_; refine S_q rfl rfl rfl (Q_move rfl rfl) ?_; refine S_q rfl rfl rfl (Q_len rfl rfl rfl rfl rfl rfl) ?_; refine S_q rfl rfl rfl (Q_move rfl rfl) ?_; refine OPS_nil ?_; refine then_n ?_; refine WP_block ?_))
  (refine WP_loopC (α := Nat) [11, 10, 5, 4, 3, 0] (fun (k : Nat) => vs.length - k) (fun (k : Nat) => [(12, .int .i64 (k : Int))]) (fun hh (k : Nat) => hh = h ∧ k ≤ vs.length ∧ (vs.drop k).find? (fun v => localB v (i1, i2)) = vs.find? (fun v => localB v (i1, i2))) 0 ⟨_, _, rfl, ⟨_, _, rfl, ⟨_, _, rfl, ⟨_, _, rfl, ⟨_, _, rfl, ⟨_, _, rfl, rfl, rfl⟩, rfl⟩, rfl⟩, rfl⟩, rfl⟩, rfl⟩ (by repeat' (first | exact trivial | refine ⟨rfl, ?_⟩)) ?_ ?_)
  · exact ⟨rfl, Nat.zero_le _, rfl⟩
  rintro h1 k _ ⟨rfl, hk, ht⟩
  by_cases hlt : k < vs.length
  · obtain ⟨v, ev⟩ := get_of hlt
    rw [find_drop ev] at ht
    (focus (refine WP_seq ?_; refine R_region ?_; refine S_q rfl rfl rfl (Q_cmp rfl rfl rfl rfl) ?_; refine OPS_nil ?_; refine then_n ?_; refine WP_seq ?_; refine WP_cond rfl (fun c2_1 => ?_) (fun c2_1 => ?_) <;> (first | (simp [*] at c2_1; done) | (try simp at c2_1)); refine WP_skip ?_; refine then_n ?_; refine WP_seq ?_; refine WP_block ?_; refine WP_seq ?_; refine R_region ?_; refine S_q rfl rfl rfl (Q_indexS (by assumption) (by assumption) rfl rfl rfl (elm rfl) rfl) ?_; refine S_load rfl rfl rfl rfl rfl ?_; refine L_elA (by assumption) (by assumption) (ty rfl) ?_; rintro _ _ _ ⟨xi2_2, xa2_2, po2_2, qo2_2, ps2_2, qs2_2, pc2_2, qc2_2, pn2_2, qn2_2, pm2_2, qm2_2, xw2_2, xv2_2, pf2_2, qf2_2, pr2_2, qr2_2, xe2_2, xf2_2, rfl, vo2_2, vs2_2, vc2_2, vn2_2, vm2_2, vf2_2, vr2_2⟩; refine S_c rfl rfl rfl (C_alloc rfl (zer rfl) ?_); intro b2_3; refine S_w0 rfl rfl (W_all rfl rfl rfl (ty rfl) u0 (by first | rfl | assumption) (by first | rfl | assumption) (by first | rfl | assumption | exact ones_sub (by assumption) _ _) ?_); refine OPS_nil ?_; refine then_n ?_; refine WP_seq ?_; refine R_region ?_; refine S_load rfl rfl rfl rfl rfl ?_; refine L_agg (Rd.own m0) (ty rfl) (by first | rfl | assumption) ?_; refine S_load rfl rfl rfl rfl rfl ?_; refine L_agg (Rd.own m3) (ty rfl) (by first | rfl | assumption) ?_; refine S_c rfl rfl rfl (C_callv (local_s ⟨by assumption, _, _, _, _, _, _, _, _, _, _, _, _, _, _, _, _, _, _, _, rfl, by assumption, by assumption, by assumption, by assumption, by assumption, by assumption, by assumption⟩) rfl rfl ⟨_, _, rfl, ⟨_, _, rfl, rfl, rfl⟩, rfl⟩ (cal rfl) ?_); refine OPS_nil ?_; refine then_n ?_; refine WP_cond rfl (fun c2_4 => ?_) (fun c2_4 => ?_) <;> (first | (simp [*] at c2_4; done) | (try simp at c2_4)); (focus (refine WP_seq ?_; refine R_region ?_; refine S_q rfl rfl rfl (Q_fieldAddr rfl rfl (fld rfl rfl)) ?_; refine S_load rfl rfl rfl rfl rfl ?_; refine L_fld (Rd.own m0) (ty rfl) rfl ?_; refine S_w0 rfl rfl (W_one rfl rfl rfl (ty rfl) u2 rfl rfl rfl ?_); refine S_w0 rfl rfl (W_one rfl rfl rfl (ty rfl) u1 rfl rfl rfl ?_); refine OPS_nil ?_; refine then_n ?_; refine WP_ret ?_; refine block_r ?_; refine then_r ?_; refine roundF_r ?_; refine block_r ?_; refine then_r ?_)); rotate_left 1; (focus (refine WP_skip ?_; refine block_n ?_; refine then_n ?_; refine R_region ?_; refine S_q rfl rfl rfl (Q_add rfl rfl rfl (by omega)) ?_; refine S_q rfl rfl rfl (Q_move rfl rfl) ?_; refine OPS_nil ?_)); rotate_left 1))
    · have hv : vs.find? (fun v => localB v (i1, i2)) = some v := by rw [← ht, if_pos c2_4]
      refine nretP [_, _, _, _] (List.Sublist.refl _) (.inl rfl) rfl ⟨_, _, _, rfl, Loads_one (Rd.own m2) (ty rfl), ⟨_, _, _, rfl, Loads_one (Rd.own m1) (ty rfl), rfl, rfl⟩, rfl⟩ ?_
      rw [homeR_local hv]; rfl
    · refine roundF_n (k + 1) (by omega) ⟨rfl, by omega, ?_⟩ (by repeat' (first | exact List.Sublist.refl _ | exact List.sublist_append_left _ _ | exact List.nil_sublist _ | apply List.Sublist.cons₂ | apply List.Sublist.cons)) (by repeat' (first | exact trivial | refine ⟨rfl, ?_⟩))
      rw [← ht, if_neg (by simp [c2_4])]
  have hge : k = vs.length := by omega
  subst hge
  rw [List.drop_length] at ht
  rw [homeR_none ht.symm]
  (focus (refine WP_seq ?_; refine R_region ?_; refine S_q rfl rfl rfl (Q_cmp rfl rfl rfl rfl) ?_; refine OPS_nil ?_; refine then_n ?_; refine WP_seq ?_; refine WP_cond rfl (fun c3_1 => ?_) (fun c3_1 => ?_) <;> (first | (simp [*] at c3_1; done) | (try simp at c3_1)); refine WP_exit ?_; refine then_e ?_; refine roundF_e ?_; refine block_e ?_; refine then_n ?_; refine WP_seq ?_; refine WP_seq ?_; refine R_region ?_; refine S_q rfl rfl rfl (Q_move rfl rfl) ?_; refine S_c rfl rfl rfl (C_call (of_s (by assumption)) rfl rfl ⟨_, _, rfl, rfl, rfl⟩ (cal rfl) ?_); rintro h3_2 _ l3_2 ⟨pf3_2, qf3_2, mb3_2, rfl, ff3_2⟩; replace hs := hs.up l3_2; refine S_c rfl rfl rfl (C_call (flights_s (by assumption)) rfl rfl ⟨_, _, rfl, rfl, rfl⟩ (cal rfl) ?_); rintro h3_3 _ l3_3 ⟨bi3_3, rfl, it3_3⟩; replace ff3_2 := ff3_2.up l3_3; replace hs := hs.up l3_3; refine OPS_nil ?_; refine then_n ?_; refine WP_block ?_))
  (focus (refine WP_keepM [_, _] [_] _ rfl ?_; rintro h4_k l4_k k4_k; have a4_k := at_of_keep k4_k; clear k4_k; replace it3_3 := it3_3.up l4_k; replace ff3_2 := ff3_2.up l4_k; replace hs := hs.up l4_k))
  refine WP_rangeS [] [] (fun _ : Unit => [(b0_3, cells [.bool false] 4), (b0_2, cells [.int .i64 0] 3)]) (fun pre hh _ => le h4_k hh ∧ pre.find? (carries (i1, i2)) = none)
    (fun e hh L => e = .ret ∧ ∃ x : Int, List.Sublist [(b0_3, cells [.bool true] 4), (b0_2, cells [.int .i64 x] 3)] L ∧ homeF vs (i1, i2) = (x, true)) () it3_3 rfl Tryz.func77 (by decide) rfl (by rintro _ _ _ ⟨_, _, rfl, _⟩; rfl) rfl rfl ⟨le_refl _, rfl⟩ ?_ ?_ ?_
  · rintro l pre ⟨v, x⟩ _ h2 _ hl1 ⟨hl2, hpre⟩ hp ⟨us, ws, rfl, hu1, hu2, hu3, hw1, hw2, hw3⟩
    simp only at hu3 hw3
    have hsn := find_snoc (carries (i1, i2)) pre (v, x) hpre
    have hcd := carries_def (i1, i2) (v, x)
    (replace a4_k := a4_k.up hl1; replace it3_3 := it3_3.up hl1; replace ff3_2 := ff3_2.up hl1; replace hs := hs.up hl1)
    obtain ⟨hi, xa, po, qo, qs, qt, pc, qc, pn, qn, pm, qm, xw, xv, pf, qf, pr, qr, xe, xf, rfl, -⟩ := hu3
    obtain ⟨ya, yb, yc, yd, ye, pa, qa, pg, qg, ph, qh, yw, y1, y2, y3, y4, y5, y6, y7, y8, y9, y10, y11, y12, y13, y14, y15, rfl, ha, hfs, hm⟩ := hw3
    dsimp only [parFr]
    (focus (refine R_region ?_; refine S_c rfl rfl rfl (C_alloc rfl (zer rfl) ?_); intro b6_1; refine S_w0 rfl rfl (W_all rfl rfl rfl (ty rfl) u0 (by first | rfl | assumption) (by first | rfl | assumption) (by first | rfl | assumption | exact ones_sub (by assumption) _ _) ?_); refine OPS_nil ?_; refine then_n ?_))
    refine ⟨rfl, ?_⟩
    (focus (refine WP_block ?_; refine WP_seq ?_; refine R_region ?_; refine S_q rfl rfl rfl (Q_fieldAddr rfl rfl (fld rfl rfl)) ?_; refine S_q rfl rfl rfl (Q_fieldAddr rfl rfl (fld rfl rfl)) ?_; refine S_load rfl rfl rfl rfl rfl ?_; refine L_fld2 (Rd.own m0) ?_; refine LV_1 (ty rfl) rfl ?_; refine S_q rfl rfl rfl (Q_cmp rfl rfl rfl rfl) ?_; refine S_q rfl rfl rfl (Q_move rfl rfl) ?_; refine S_gsplit rfl rfl rfl rfl (fun c7_1 => ?_) (fun c7_1 => ?_) <;> (first | (simp [*] at c7_1; done) | (try simp at c7_1)); (focus (refine S_gq rfl rfl rfl rfl rfl rfl (Q_fieldAddr rfl rfl (fld rfl rfl)) ?_; refine S_gq rfl rfl rfl rfl rfl rfl (Q_fieldAddr rfl rfl (fld rfl rfl)) ?_; refine S_gq rfl rfl rfl rfl rfl rfl (Q_fieldAddr rfl rfl (fld rfl rfl)) ?_; refine S_gload rfl rfl rfl rfl rfl rfl rfl rfl ?_; refine L_fld3 (Rd.own m0) ?_; refine LV_a (ty rfl) rfl ?_; refine S_gload rfl rfl rfl rfl rfl rfl rfl rfl ?_; refine L_agg (Rd.pers (by assumption)) (ty rfl) (by first | rfl | assumption) ?_; refine S_gq rfl rfl rfl rfl rfl rfl (Q_eqI eqID rfl rfl rfl rfl rfl) ?_; refine S_q rfl rfl rfl (Q_pick_t rfl rfl rfl) ?_; refine OPS_nil ?_; refine then_n ?_; refine WP_cond rfl (fun c7_2 => ?_) (fun c7_2 => ?_) <;> (first | (simp [*] at c7_2; done) | (try simp at c7_2)); (focus (refine WP_seq ?_; refine R_region ?_; refine S_q rfl rfl rfl (Q_fieldAddr rfl rfl (fld rfl rfl)) ?_; refine S_load rfl rfl rfl rfl rfl ?_; refine L_fld (Rd.own m0) (ty rfl) rfl ?_; refine S_w0 rfl rfl (W_one rfl rfl rfl (ty rfl) u2 rfl rfl rfl ?_); refine S_w0 rfl rfl (W_one rfl rfl rfl (ty rfl) u1 rfl rfl rfl ?_); refine OPS_nil ?_; refine then_n ?_; refine WP_ret ?_; refine block_r ?_)); rotate_left 1; (focus (refine WP_skip ?_; refine block_n ?_)); rotate_left 1)); rotate_left 2; (focus (refine S_gn rfl rfl rfl rfl rfl rfl ?_; refine S_gn rfl rfl rfl rfl rfl rfl ?_; refine S_gn rfl rfl rfl rfl rfl rfl ?_; refine S_gn rfl rfl rfl rfl rfl rfl ?_; refine S_gn rfl rfl rfl rfl rfl rfl ?_; refine S_gn rfl rfl rfl rfl rfl rfl ?_; refine S_q rfl rfl rfl (Q_pick_f rfl rfl rfl) ?_; refine OPS_nil ?_; refine then_n ?_; refine cond_f rfl ?_; refine WP_skip ?_; refine block_n ?_)); rotate_left 1))
    · have hc : carries (i1, i2) (v, x) = true := by rw [hcd, decide_eq_true c7_1, Bool.true_and]; exact decide_eq_true (Prod.ext c7_2.1 c7_2.2)
      rw [if_pos hc] at hsn
      exact bodyS_r ⟨rfl, x.to, (by repeat' (first | exact List.Sublist.refl _ | exact List.sublist_append_left _ _ | exact List.nil_sublist _ | apply List.Sublist.cons₂ | apply List.Sublist.cons)), homeF_some (find_prefix hp hsn)⟩
    · have hc : carries (i1, i2) (v, x) = false := by
        rw [hcd, decide_eq_true c7_1, Bool.true_and]
        exact decide_eq_false fun e => c7_2 (congrArg Prod.fst e) (congrArg Prod.snd e)
      refine bodyS_n () ⟨hl2, ?_⟩ (by repeat' (first | exact List.Sublist.refl _ | exact List.sublist_append_left _ _ | exact List.nil_sublist _ | apply List.Sublist.cons₂ | apply List.Sublist.cons))
      rw [hsn, hc]; rfl
    · have hc : carries (i1, i2) (v, x) = false := by rw [hcd, decide_eq_false c7_1]; rfl
      refine bodyS_n () ⟨hl2, ?_⟩ (by repeat' (first | exact List.Sublist.refl _ | exact List.sublist_append_left _ _ | exact List.nil_sublist _ | apply List.Sublist.cons₂ | apply List.Sublist.cons))
      rw [hsn, hc]; rfl
  · rintro d h2 _ hl1 ⟨hl2, hpre⟩
    rw [homeF_none hpre]
    (focus (refine block_n ?_; refine then_n ?_; refine WP_seq ?_; refine R_region ?_; refine S_w0 rfl rfl (W_one rfl rfl rfl (ty rfl) u1 rfl rfl rfl ?_); refine S_w0 rfl rfl (W_one rfl rfl rfl (ty rfl) u0 rfl rfl rfl ?_); refine OPS_nil ?_; refine then_n ?_; refine WP_ret ?_))
    refine nretP [_, _] (List.Sublist.refl _) (.inl rfl) rfl ⟨_, _, _, rfl, Loads_one (Rd.own m1) (ty rfl), ⟨_, _, _, rfl, Loads_one (Rd.own m0) (ty rfl), rfl, rfl⟩, rfl⟩ ?_
    rfl
  · rintro d e h2 L2 hl1 ⟨rfl, x, hsub, hx⟩ _
    refine block_r (then_r ?_)
    refine nretP [(b0_3, cells [.bool true] 4), (b0_2, cells [.int .i64 x] 3)] (hsub.append (List.Sublist.refl _)) (.inl rfl) rfl ⟨_, _, _, rfl, Loads_one (Rd.own m1) (ty rfl), ⟨_, _, _, rfl, Loads_one (Rd.own m0) (ty rfl), rfl, rfl⟩, rfl⟩ ?_
    rw [hx]; rfl
end Go.Proofs.YtfhoecgiahpddaaGreat
/-
  PLAIN: what Follow returns is a way.
-/
set_option linter.all false
namespace Go.Proofs.YtfhoecgiahpddaaGreat
open Go.Mesh Go.RowKit
set_option maxRecDepth 100000
set_option linter.unusedVariables false
set_option maxHeartbeats 4000000
attribute [local irreducible] WP OPS ANY ANYo LG LV FSpec PSpec QOP OPc OPw thenQ blockQ roundQ roundF retQ retM Rd At SLB OS cmpI orI cmpID namedB valB nodeB kindB validG valAux idxI findG zeroV viewOf vwAt idxOf recv flyB scionOf moveOf numberedOf idOf valueOf mget mput localB carriedB stubOf followF followOf flOf flightsOf flPre setL minusL compactL putI mergeN insN insAll unionR NMap Coll retN bodyS GMap Dfs refsV refsOf reachL movedOf movedG graphParts graphR isMove flightIDs mailIDs viewIDs rawRoots rootsR reachR deadN viewObjs garbageOf garbageR objsL msgB sizesB smallV fewB homeR homeF carries
/-- a way from m, behind the machines of out -/
inductive WayD (vs : List View) (id : ID) : List Int → Int → List Int → Prop
  | here {out : List Int} {m : Int} (hv : (viewOf vs m).isSome = true) (hn : m ∉ out) (hl : localB (vwAt vs m) id = true) : WayD vs id out m [m]
  | fly {out : List Int} {m : Int} {s : StubE} (hv : (viewOf vs m).isSome = true) (hn : m ∉ out) (hl : localB (vwAt vs m) id = false) (hs : stubOf (vwAt vs m) id = some s) (hc : carriedB vs m s.owner id s.number = true) : WayD vs id out m [m, s.owner]
  | step {out : List Int} {m : Int} {s : StubE} {w : List Int} (hv : (viewOf vs m).isSome = true) (hn : m ∉ out) (hl : localB (vwAt vs m) id = false) (hs : stubOf (vwAt vs m) id = some s) (hw : WayD vs id (out ++ [m]) s.owner w) : WayD vs id out m (m :: w)
theorem followF_way {vs : List View} {id : ID} : ∀ {n : Nat} {m : Int} {out : List Int}, ((followF vs id n m out).2 = 0 → ∃ w, (followF vs id n m out).1 = out ++ w ∧ WayD vs id out m w) ∧
    ((followF vs id n m out).2 ≠ 0 → (followF vs id n m out).1 = [] ∧ ((followF vs id n m out).2 = 6 ∨ (followF vs id n m out).2 = 11))
  | 0, m, out => by
    rw [followF]
    exact ⟨fun e => by simp at e, fun _ => ⟨rfl, .inr rfl⟩⟩
  | n + 1, m, out => by
    rw [followF]
    split
    · split <;> exact ⟨fun e => by simp at e, fun _ => ⟨rfl, by simp⟩⟩
    rename_i h1
    split
    · exact ⟨fun e => by simp at e, fun _ => ⟨rfl, .inr rfl⟩⟩
    rename_i h2
    have hv : (viewOf vs m).isSome = true := by
      cases h : (viewOf vs m).isSome with
      | true => rfl
      | false => exact absurd (.inl h) h1
    split
    · rename_i h3
      exact ⟨fun _ => ⟨[m], rfl, .here hv h2 h3⟩, fun e => absurd rfl e⟩
    rename_i h3
    have hl : localB (vwAt vs m) id = false := by simpa using h3
    cases hs : stubOf (vwAt vs m) id with
    | none => exact ⟨fun e => by simp at e, fun _ => ⟨rfl, .inr rfl⟩⟩
    | some s =>
      simp only
      cases hc : scionOf vs s.owner m s.number with
      | some e =>
        simp only
        split
        · obtain ⟨k1, k2⟩ := followF_way (vs := vs) (id := id) (n := n) (m := s.owner) (out := out ++ [m])
          refine ⟨fun h => ?_, k2⟩
          obtain ⟨w, hw, way⟩ := k1 h
          exact ⟨m :: w, by rw [hw]; simp, .step hv h2 hl hs way⟩
        · exact ⟨fun e => by simp at e, fun _ => ⟨rfl, .inr rfl⟩⟩
      | none =>
        simp only
        split
        · rename_i h4
          exact ⟨fun _ => ⟨[m, s.owner], by simp, .fly hv h2 hl hs h4⟩, fun e => absurd rfl e⟩
        · exact ⟨fun e => by simp at e, fun _ => ⟨rfl, .inr rfl⟩⟩
theorem stubOf_some {v : View} {id : ID} {s : StubE} (h : stubOf v id = some s) : s ∈ v.stubs ∧ s.id = id ∧ s.dead = false := by
  rw [stubOf] at h
  have h1 := List.mem_of_find?_eq_some h
  have h2 := List.find?_some h
  simp only [Bool.and_eq_true, decide_eq_true_eq, Bool.not_eq_true'] at h2
  exact ⟨h1, h2.1, h2.2⟩
/-- what every step of a way shows -/
theorem WayD.steps {vs : List View} {id : ID} {out w : List Int} {m : Int} (h : WayD vs id out m w) : ∀ (i : Nat) (x : Int), w[i]? = some x → i + 1 < w.length → x ∉ out ∧ (viewOf vs x).isSome = true ∧ localB (vwAt vs x) id = false ∧
    ∃ y, w[i + 1]? = some y ∧ ∃ s, s ∈ (vwAt vs x).stubs ∧ s.id = id ∧ s.owner = y ∧ s.dead = false := by
  induction h with
  | here hv hn hl => intro i x _ hlt; simp at hlt
  | fly hv hn hl hs hc =>
    intro i x hx hlt
    have : i = 0 := by simp at hlt; omega
    subst this
    simp at hx; subst hx
    obtain ⟨a, b, c⟩ := stubOf_some hs
    exact ⟨hn, hv, hl, _, rfl, _, a, b, rfl, c⟩
  | step hv hn hl hs hw ih =>
    intro i x hx hlt
    cases i with
    | zero =>
      simp at hx; subst hx
      obtain ⟨a, b, c⟩ := stubOf_some hs
      refine ⟨hn, hv, hl, _, ?_, _, a, b, rfl, c⟩
      cases hw <;> rfl
    | succ i =>
      obtain ⟨h1, h2, h3, y, h4, h5⟩ := ih i x (by simpa using hx) (by simpa using hlt)
      exact ⟨fun e => h1 (List.mem_append_left _ e), h2, h3, y, by simpa using h4, h5⟩
theorem WayD.head {vs : List View} {id : ID} {out w : List Int} {m : Int} (h : WayD vs id out m w) : w[0]? = some m := by cases h <;> rfl
/-- no machine comes twice, but for the last -/
theorem WayD.once {vs : List View} {id : ID} {out w : List Int} {m : Int} (h : WayD vs id out m w) : ∀ (i k : Nat) (x : Int), k < i → i + 1 < w.length → w[i]? = some x → w[k]? = some x → False := by
  induction h with
  | here hv hn hl => intro i k x _ hlt; simp at hlt
  | fly hv hn hl hs hc => intro i k x hki hlt; simp at hlt; omega
  | step hv hn hl hs hw ih =>
    intro i k x hki hlt hi hk
    cases i with
    | zero => omega
    | succ i =>
      cases k with
      | zero =>
        simp at hk; subst hk
        have := (hw.steps i _ (by simpa using hi) (by simpa using hlt)).1
        exact this (by simp)
      | succ k => exact ih i k x (by omega) (by simpa using hlt) (by simpa using hi) (by simpa using hk)
/-- how a way ends -/
theorem WayD.ends {vs : List View} {id : ID} {out w : List Int} {m : Int} (h : WayD vs id out m w) : ∃ z, w[w.length - 1]? = some z ∧ 0 < w.length ∧ (((viewOf vs z).isSome = true ∧ localB (vwAt vs z) id = true) ∨
    (1 < w.length ∧ ∃ x n, (viewOf vs x).isSome = true ∧ carriedB vs x z id n = true)) := by
  induction h with
  | here hv hn hl => exact ⟨_, rfl, by simp, .inl ⟨hv, hl⟩⟩
  | fly hv hn hl hs hc => exact ⟨_, rfl, by simp, .inr ⟨by simp, _, _, hv, hc⟩⟩
  | step hv hn hl hs hw ih =>
    obtain ⟨z, h1, h2, h3⟩ := ih
    refine ⟨z, ?_, by simp, h3.imp (fun h => h) fun ⟨h4, h5⟩ => ⟨by simp; omega, h5⟩⟩
    rw [List.length_cons, Nat.add_sub_cancel, ← Nat.sub_add_cancel h2, List.getElem?_cons_succ]
    exact h1
theorem vwAt_mem {vs : List View} {m : Int} (h : (viewOf vs m).isSome = true) : vwAt vs m ∈ vs ∧ (vwAt vs m).machine = m := by
  obtain ⟨v, hv⟩ := Option.isSome_iff_exists.1 h
  rw [vwAt, hv, Option.getD_some]
  rw [viewOf] at hv
  have h2 := List.find?_some hv
  exact ⟨List.mem_of_find?_eq_some hv, by simpa using h2⟩
theorem mem_flightsOf {vs : List View} {v : View} {x : Flight} (hv : v ∈ vs) (hx : x ∈ v.flights) (hf : flyB vs v x = true) : (v, x) ∈ flightsOf vs := by
  simp only [flightsOf, List.mem_flatMap, flOf, List.mem_map, List.mem_filter]
  exact ⟨v, hv, x, ⟨hx, hf⟩, rfl⟩
theorem home_fly {vs : List View} {id : ID} {x z n : Int} (hv : (viewOf vs x).isSome = true) (hc : carriedB vs x z id n = true) : (homeR vs id).2 = true := by
  cases hl : vs.find? fun v => localB v id with
  | some v => rw [homeR_local hl]
  | none =>
    rw [homeR_none hl]
    rw [carriedB, List.any_eq_true] at hc
    obtain ⟨f, hf, hc⟩ := hc
    simp only [Bool.and_eq_true, decide_eq_true_eq] at hc
    obtain ⟨_, h2, h3, _, h5⟩ := hc
    have hmem := mem_flightsOf (vwAt_mem hv).1 hf h5
    cases hq : (flightsOf vs).find? (carries id) with
    | some i => rw [homeF_some hq]
    | none =>
      have := List.find?_eq_none.1 hq _ hmem
      rw [carries_def, decide_eq_true h2, decide_eq_true h3] at this
      exact absurd rfl this
theorem one_mem {α : Type} {l : List α} {a b : α} (h : ¬ 1 < l.length) (ha : a ∈ l) (hb : b ∈ l) : a = b := by
  cases l with
  | nil => cases ha
  | cons x l =>
    cases l with
    | nil => rw [List.mem_singleton.1 ha, List.mem_singleton.1 hb]
    | cons y l => simp at h
/-- how many views have a local object -/
def homesN (vs : List View) (id : ID) : Nat := (vs.filter fun v => localB v id).length
theorem home_here {vs : List View} {id : ID} {z : Int} (hv : (viewOf vs z).isSome = true) (hl : localB (vwAt vs z) id = true) : (homeR vs id).2 = true ∧ (1 < homesN vs id ∨ (homeR vs id).1 = z) := by
  obtain ⟨hm, hz⟩ := vwAt_mem hv
  have hmem : vwAt vs z ∈ vs.filter fun v => localB v id := List.mem_filter.2 ⟨hm, hl⟩
  cases hq : vs.find? fun v => localB v id with
  | none => exact absurd hl (by simpa using List.find?_eq_none.1 hq _ hm)
  | some v =>
    rw [homeR_local hq]
    refine ⟨rfl, ?_⟩
    by_cases h1 : 1 < homesN vs id
    · exact .inl h1
    · right
      have hv2 : v ∈ vs.filter fun v => localB v id := List.mem_filter.2 ⟨List.mem_of_find?_eq_some hq, by have := List.find?_some (p := fun v => localB v id) hq; exact this⟩
      rw [homesN] at h1
      rw [one_mem h1 hv2 hmem]; exact hz
theorem follow_way {vs : List View} {id : ID} {m : Int} (h : (followOf vs m id).2 = 0) : WayD vs id [] m (followOf vs m id).1 := by
  rw [followOf] at h ⊢
  obtain ⟨w, hw, way⟩ := followF_way.1 h
  rw [hw]; exact way
theorem follow_err {vs : List View} {id : ID} {m : Int} (h : ¬ (followOf vs m id).2 = 0) : (followOf vs m id).1 = [] ∧ ((followOf vs m id).2 = 6 ∨ (followOf vs m id).2 = 11) := by
  rw [followOf] at h ⊢
  exact followF_way.2 h
end Go.Proofs.YtfhoecgiahpddaaGreat
/-
  CONTRACTS: slices.Grow and slices.Concat at identities.
-/
set_option linter.all false
namespace Go.Proofs.YtfhoecgiahpddaaGreat
open Go.Mesh Go.RowKit
set_option maxRecDepth 100000
set_option linter.unusedVariables false
set_option maxHeartbeats 4000000
attribute [local irreducible] WP OPS ANY ANYo LG LV FSpec PSpec QOP OPc OPw thenQ blockQ roundQ roundF retQ retM Rd At SLB OS cmpI orI cmpID namedB valB nodeB kindB validG valAux idxI findG zeroV viewOf vwAt idxOf recv flyB scionOf moveOf numberedOf idOf valueOf mget mput localB carriedB stubOf followF followOf flOf flightsOf flPre setL minusL compactL putI mergeN insN insAll unionR NMap Coll retN bodyS GMap Dfs refsV refsOf reachL movedOf movedG graphParts graphR isMove flightIDs mailIDs viewIDs rawRoots rootsR reachR deadN viewObjs garbageOf garbageR objsL
def IDsC (B : Nat) : CR (List ID) := fun h l vs => ∃ p c, vs = [.slice p l.length c] ∧ SLB B h 2 IDC (.slice p l.length c) l
instance (B : Nat) : CM (IDsC B) := ⟨fun _ _ _ _ hl ⟨p, c, e, s⟩ => ⟨p, c, e, s.mono hl IDC_mono⟩⟩
theorem flat_take {α : Type} {ls : List (List α)} {k : Nat} {l : List α} (hl : ls[k]? = some l) : (ls.take (k + 1)).flatten = (ls.take k).flatten ++ l := by
  rw [List.take_add_one, hl]; simp
theorem flat_take_le {α : Type} (ls : List (List α)) (k : Nat) : (ls.take k).flatten.length ≤ ls.flatten.length := by
  conv => rhs; rw [← List.take_append_drop k ls, List.flatten_append, List.length_append]
  omega
theorem grow_s {h : Frag} {n : Nat} (hn : n ≤ 4398046511104) : FSpec Tryz.prog 107 #[.slice none 0 0, .int .i64 (n : Int)] h [] (fun h' L' v => h' = h ∧ ∃ p c, v = .slice p ([] : List ID).length c ∧ OS h 35 2 IDC (.slice p ([] : List ID).length c) [] L') := by
  refine spec_of (vs := [.slice none 0 0, .int .i64 (n : Int)]) Tryz.func107 Tryz.ntmps107 rfl rfl rfl ?_
  (focus (refine WP_seq ?_; refine R_region ?_; refine S_q rfl rfl rfl (Q_assign rfl rfl) ?_; refine OPS_nil ?_; refine then_n ?_; refine WP_seq ?_; refine WP_seq ?_; refine R_region ?_; refine S_q rfl rfl rfl (Q_move rfl rfl) ?_; refine S_q rfl rfl rfl (Q_cmp rfl rfl rfl rfl) ?_; refine OPS_nil ?_; refine then_n ?_; refine cond_f rfl ?_; refine WP_skip ?_; refine then_n ?_; refine WP_seq ?_; refine WP_seq ?_; refine R_region ?_; refine S_q rfl rfl rfl (Q_move rfl rfl) ?_; refine S_q rfl rfl rfl (Q_move rfl rfl) ?_; refine S_q rfl rfl rfl (Q_cap rfl rfl rfl rfl rfl rfl) ?_; refine S_q rfl rfl rfl (Q_move rfl rfl) ?_; refine S_q rfl rfl rfl (Q_len rfl rfl rfl rfl rfl rfl) ?_; refine S_q rfl rfl rfl (Q_sub rfl rfl rfl (by omega)) ?_; refine S_q rfl rfl rfl (Q_sub rfl rfl rfl (by omega)) ?_; refine S_q rfl rfl rfl (Q_assign rfl rfl) ?_; refine OPS_nil ?_; refine then_n ?_; refine WP_seq ?_; refine R_region ?_; refine S_q rfl rfl rfl (Q_move rfl rfl) ?_; refine S_q rfl rfl rfl (Q_cmp rfl rfl rfl rfl) ?_; refine OPS_nil ?_; refine then_n ?_; refine WP_cond rfl (fun c0_1 => ?_) (fun c0_1 => ?_) <;> (first | (simp [*] at c0_1; done) | (try simp at c0_1)); (focus (refine R_region ?_; refine S_q rfl rfl rfl (Q_move rfl rfl) ?_; refine S_q rfl rfl rfl (Q_move rfl rfl) ?_; refine S_q rfl rfl rfl (Q_cap rfl rfl rfl rfl rfl rfl) ?_; refine S_q rfl rfl rfl (Q_slice0 rfl rfl (elm rfl) rfl rfl) ?_; refine S_q rfl rfl rfl (Q_move rfl rfl) ?_)); rotate_left 1; (focus (refine WP_skip ?_; refine then_n ?_; refine WP_seq ?_; refine R_region ?_; refine S_q rfl rfl rfl (Q_move rfl rfl) ?_; refine S_q rfl rfl rfl (Q_assign rfl rfl) ?_; refine OPS_nil ?_; refine then_n ?_; refine WP_ret ?_)); rotate_left 1))
  · refine S_c rfl rfl rfl (C_appZ n rfl rfl rfl rfl rfl rfl (by simp) (elm rfl) (zer rfl) rfl (by rfl) (by omega) (by decide) (by omega) (by omega) ?_)
    rintro b cap rest hc hl
    (focus (refine S_q rfl rfl rfl (Q_move rfl rfl) ?_; refine S_q rfl rfl rfl (Q_len rfl rfl rfl rfl rfl rfl) ?_; refine S_q rfl rfl rfl (Q_slice rfl rfl (elm rfl) rfl ⟨_, rfl⟩ (by omega) (by omega) (by omega)) ?_; refine S_q rfl rfl rfl (Q_assign rfl rfl) ?_; refine OPS_nil ?_; refine then_n ?_; refine WP_seq ?_; refine R_region ?_; refine S_q rfl rfl rfl (Q_move rfl rfl) ?_; refine S_q rfl rfl rfl (Q_assign rfl rfl) ?_; refine OPS_nil ?_; refine then_n ?_; refine WP_ret ?_))
    exact ret_q [(b, cells rest 35)] (.inl rfl) rfl ⟨_, _, rfl, rfl, rfl⟩ (by repeat' (first | exact List.Sublist.refl _ | exact List.sublist_append_left _ _ | exact List.nil_sublist _ | apply List.Sublist.cons₂ | apply List.Sublist.cons)) ⟨rfl, some ⟨b, 0, none⟩, cap, rfl, OS.make (xs := []) (rest := rest) rfl (Nat.zero_le _) (by simpa [flatI] using hl)⟩
  · subst c0_1
    exact ret_q [] (.inl rfl) rfl ⟨_, _, rfl, rfl, rfl⟩ (by repeat' (first | exact List.Sublist.refl _ | exact List.sublist_append_left _ _ | exact List.nil_sublist _ | apply List.Sublist.cons₂ | apply List.Sublist.cons)) ⟨rfl, _, _, rfl, OS.nil _ _ _ _⟩
theorem concat_s {h : Frag} {a : Value} {ls : List (List ID)} (hs : SL h 1 (IDsC 4398046511104) a ls) (hb : ls.flatten.length ≤ 4000000) : FSpec Tryz.prog 64 #[a] h [] (fun h' L' v => h' = h ∧ ∃ p c, v = .slice p ls.flatten.length c ∧ OS h 35 2 IDC (.slice p ls.flatten.length c) ls.flatten L') := by
  have hl := hs.le
  obtain ⟨pv, cv, rfl⟩ := hs.slice
  refine spec_of (vs := [.slice pv ls.length cv]) Tryz.func64 Tryz.ntmps64 rfl rfl rfl ?_
  (focus (refine WP_seq ?_; refine R_region ?_; refine S_q rfl rfl rfl (Q_assign rfl rfl) ?_; refine OPS_nil ?_; refine then_n ?_; refine WP_seq ?_; refine R_region ?_; refine S_q rfl rfl rfl (Q_assign rfl rfl) ?_; refine OPS_nil ?_; refine then_n ?_; refine WP_seq ?_; refine WP_seq ?_; refine R_region ?_; refine S_q rfl rfl rfl (Q_move rfl rfl) ?_; refine S_q rfl rfl rfl (Q_len rfl rfl rfl rfl rfl rfl) ?_; refine S_q rfl rfl rfl (Q_move rfl rfl) ?_; refine OPS_nil ?_; refine then_n ?_; refine WP_block ?_))
  (refine WP_loopC (α := Nat) [10, 9, 0] (fun (k : Nat) => ls.length - k) (fun (k : Nat) => [(11, .int .i64 (k : Int)), (3, .int .i64 (((ls.take k).flatten.length : Nat) : Int))]) (fun hh (k : Nat) => hh = h ∧ k ≤ ls.length) 0 ⟨_, _, rfl, ⟨_, _, rfl, ⟨_, _, rfl, rfl, rfl⟩, rfl⟩, rfl⟩ (by repeat' (first | exact trivial | refine ⟨rfl, ?_⟩)) ?_ ?_)
  · exact ⟨rfl, Nat.zero_le _⟩
  rintro h1 k _ ⟨rfl, hk⟩
  have hle := flat_take_le ls k
  by_cases hlt : k < ls.length
  · obtain ⟨l, el⟩ := get_of hlt
    have htk := flat_take el
    have hle2 := flat_take_le ls (k + 1)
    rw [htk, List.length_append] at hle2
    (focus (refine WP_seq ?_; refine R_region ?_; refine S_q rfl rfl rfl (Q_cmp rfl rfl rfl rfl) ?_; refine OPS_nil ?_; refine then_n ?_; refine WP_seq ?_; refine WP_cond rfl (fun c2_1 => ?_) (fun c2_1 => ?_) <;> (first | (simp [*] at c2_1; done) | (try simp at c2_1)); refine WP_skip ?_; refine then_n ?_; refine WP_seq ?_; refine WP_block ?_; refine WP_seq ?_; refine R_region ?_; refine S_q rfl rfl rfl (Q_indexS (by assumption) (by assumption) rfl rfl rfl (elm rfl) rfl) ?_; refine S_load rfl rfl rfl rfl rfl ?_; refine L_el1 (by assumption) (by assumption) (ty rfl) ?_; rintro _ ⟨pi2_2, qi2_2, ⟨⟩, fi2_2⟩; refine S_q rfl rfl rfl (Q_assign rfl rfl) ?_; refine OPS_nil ?_; refine then_n ?_; refine WP_seq ?_; refine R_region ?_; refine S_q rfl rfl rfl (Q_move rfl rfl) ?_; refine S_q rfl rfl rfl (Q_move rfl rfl) ?_; refine S_q rfl rfl rfl (Q_len rfl rfl rfl rfl rfl rfl) ?_; refine S_q rfl rfl rfl (Q_add rfl rfl rfl (by omega)) ?_; refine S_q rfl rfl rfl (Q_assign rfl rfl) ?_; refine OPS_nil ?_; refine then_n ?_; refine WP_seq ?_; refine R_region ?_; refine S_q rfl rfl rfl (Q_move rfl rfl) ?_; refine S_q rfl rfl rfl (Q_cmp rfl rfl rfl rfl) ?_; refine OPS_nil ?_; refine then_n ?_; refine cond_f rfl ?_; refine WP_skip ?_; refine block_n ?_; refine then_n ?_; refine R_region ?_; refine S_q rfl rfl rfl (Q_add rfl rfl rfl (by omega)) ?_; refine S_q rfl rfl rfl (Q_move rfl rfl) ?_; refine OPS_nil ?_))
    refine roundF_n (k + 1) (by omega) ⟨rfl, by omega⟩ (by repeat' (first | exact List.Sublist.refl _ | exact List.sublist_append_left _ _ | exact List.nil_sublist _ | apply List.Sublist.cons₂ | apply List.Sublist.cons)) ?_
    rw [htk, List.length_append, Int.natCast_add]
    exact (by repeat' (first | exact trivial | refine ⟨rfl, ?_⟩))
  have hge : k = ls.length := by omega
  subst hge
  rw [List.take_length]
  (focus (refine WP_seq ?_; refine R_region ?_; refine S_q rfl rfl rfl (Q_cmp rfl rfl rfl rfl) ?_; refine OPS_nil ?_; refine then_n ?_; refine WP_seq ?_; refine WP_cond rfl (fun c3_1 => ?_) (fun c3_1 => ?_) <;> (first | (simp [*] at c3_1; done) | (try simp at c3_1)); refine WP_exit ?_; refine then_e ?_; refine roundF_e ?_; refine block_e ?_; refine then_n ?_; refine WP_seq ?_; refine R_region ?_; refine S_q rfl rfl rfl (Q_move rfl rfl) ?_; refine S_c rfl rfl rfl (C_callF (grow_s (by omega)) rfl rfl ⟨_, _, rfl, ⟨_, _, rfl, rfl, rfl⟩, rfl⟩ (cal rfl) ?_); rintro h3_2 m3_2 _ l3_2 ⟨e3_2, p3_2, q3_2, rfl, o3_2⟩; replace hs := hs.up l3_2; replace o3_2 := o3_2.up l3_2; refine S_q rfl rfl rfl (Q_assign rfl rfl) ?_; refine OPS_nil ?_; refine then_n ?_; refine WP_seq ?_; refine WP_seq ?_; refine R_region ?_; refine S_q rfl rfl rfl (Q_move rfl rfl) ?_; refine S_q rfl rfl rfl (Q_len rfl rfl rfl rfl rfl rfl) ?_; refine S_q rfl rfl rfl (Q_move rfl rfl) ?_; refine OPS_nil ?_; refine then_n ?_; refine WP_block ?_))
  subst e3_2
  clear hle
  (refine WP_loopF (α := Nat × List ID × Option Addr × Nat × Hp) [26, 25] (fun (s : Nat × List ID × Option Addr × Nat × Hp) => ls.length - s.1) (fun (s : Nat × List ID × Option Addr × Nat × Hp) => s.2.2.2.2 ++ []) (fun (s : Nat × List ID × Option Addr × Nat × Hp) => [(27, .int .i64 (s.1 : Int)), (6, .slice s.2.2.1 s.2.1.length s.2.2.2.1)]) (fun hh (s : Nat × List ID × Option Addr × Nat × Hp) => hh = h3_2 ∧ s.1 ≤ ls.length ∧ s.2.1 = (ls.take s.1).flatten ∧ OS h3_2 35 2 IDC (.slice s.2.2.1 s.2.1.length s.2.2.2.1) s.2.1 s.2.2.2.2) (0, [], p3_2, q3_2, m3_2) ⟨_, _, rfl, ⟨_, _, rfl, rfl, rfl⟩, rfl⟩ ?_ (by repeat' (first | exact List.Sublist.refl _ | exact List.sublist_append_left _ _ | exact List.nil_sublist _ | apply List.Sublist.cons₂ | apply List.Sublist.cons)) (by repeat' (first | exact trivial | refine ⟨rfl, ?_⟩)) ?_)
  · exact ⟨rfl, Nat.zero_le _, rfl, o3_2⟩
  clear o3_2
  rintro h2 ⟨k, out, p, c, M⟩ _ ⟨rfl, hk, ho, hO⟩
  simp only at hk ho hO
  dsimp only
  have hle := flat_take_le ls k
  rw [← ho] at hle
  by_cases hlt : k < ls.length
  · obtain ⟨l, el⟩ := get_of hlt
    have htk := flat_take el
    have hle2 := flat_take_le ls (k + 1)
    rw [htk, ← ho, List.length_append] at hle2
    (focus (refine WP_seq ?_; refine R_region ?_; refine S_q rfl rfl rfl (Q_cmp rfl rfl rfl rfl) ?_; refine OPS_nil ?_; refine then_n ?_; refine WP_seq ?_; refine WP_cond rfl (fun c5_1 => ?_) (fun c5_1 => ?_) <;> (first | (simp [*] at c5_1; done) | (try simp at c5_1)); refine WP_skip ?_; refine then_n ?_; refine WP_seq ?_; refine WP_block ?_; refine WP_seq ?_; refine R_region ?_; refine S_q rfl rfl rfl (Q_indexS (by assumption) (by assumption) rfl rfl rfl (elm rfl) rfl) ?_; refine S_load rfl rfl rfl rfl rfl ?_; refine L_el1 (by assumption) (by assumption) (ty rfl) ?_; rintro _ ⟨pi5_2, qi5_2, ⟨⟩, fi5_2⟩; refine S_q rfl rfl rfl (Q_assign rfl rfl) ?_; refine OPS_nil ?_; refine then_n ?_; refine R_region ?_; refine S_q rfl rfl rfl (Q_move rfl rfl) ?_; refine S_q rfl rfl rfl (Q_move rfl rfl) ?_; refine S_w rfl rfl rfl (W_appS [] _ (by assumption) (by assumption) rfl rfl rfl rfl rfl rfl (elm rfl) (zer rfl) rfl rfl (by (try simp only [List.length_append, List.length_cons, List.length_nil]); omega) (by (try simp only [List.length_append, List.length_cons, List.length_nil]); omega) ?_); rintro p5_3 q5_3 m5_3 o5_3; refine S_q rfl rfl rfl (Q_assign rfl rfl) ?_; refine OPS_nil ?_; refine block_n ?_; refine then_n ?_; refine R_region ?_; refine S_q rfl rfl rfl (Q_add rfl rfl rfl (by omega)) ?_; refine S_q rfl rfl rfl (Q_move rfl rfl) ?_; refine OPS_nil ?_))
    refine roundF_n (k + 1, out ++ l, p5_3, q5_3, m5_3) (by simp only; omega) ⟨rfl, by simp only; omega, ?_, o5_3⟩ (by repeat' (first | exact List.Sublist.refl _ | exact List.sublist_append_left _ _ | exact List.nil_sublist _ | apply List.Sublist.cons₂ | apply List.Sublist.cons)) (by repeat' (first | exact trivial | refine ⟨rfl, ?_⟩))
    simp only; rw [htk, ho]
  have hge : k = ls.length := by omega
  subst hge
  rw [List.take_length] at ho
  subst ho
  (focus (refine WP_seq ?_; refine R_region ?_; refine S_q rfl rfl rfl (Q_cmp rfl rfl rfl rfl) ?_; refine OPS_nil ?_; refine then_n ?_; refine WP_seq ?_; refine WP_cond rfl (fun c6_1 => ?_) (fun c6_1 => ?_) <;> (first | (simp [*] at c6_1; done) | (try simp at c6_1)); refine WP_exit ?_; refine then_e ?_; refine roundF_e ?_; refine block_e ?_; refine then_n ?_; refine WP_seq ?_; refine R_region ?_; refine S_q rfl rfl rfl (Q_move rfl rfl) ?_; refine S_q rfl rfl rfl (Q_assign rfl rfl) ?_; refine OPS_nil ?_; refine then_n ?_; refine WP_ret ?_))
  exact ret_q M (.inl rfl) rfl ⟨_, _, rfl, rfl, rfl⟩ (by repeat' (first | exact List.Sublist.refl _ | exact List.sublist_append_left _ _ | exact List.nil_sublist _ | apply List.Sublist.cons₂ | apply List.Sublist.cons)) ⟨rfl, p, c, rfl, hO⟩
end Go.Proofs.YtfhoecgiahpddaaGreat
/-
  CONTRACTS: observer.Safe.
-/
set_option linter.all false
namespace Go.Proofs.YtfhoecgiahpddaaGreat
open Go.Mesh Go.RowKit
set_option maxRecDepth 100000
set_option linter.unusedVariables false
set_option maxHeartbeats 4000000
attribute [local irreducible] WP OPS ANY ANYo LG LV FSpec PSpec QOP OPc OPw thenQ blockQ roundQ roundF retQ retM Rd At SLB OS cmpI orI cmpID namedB valB nodeB kindB validG valAux idxI findG zeroV viewOf vwAt idxOf recv flyB scionOf moveOf numberedOf idOf valueOf mget mput localB carriedB stubOf followF followOf flOf flightsOf flPre setL minusL compactL putI mergeN insN insAll unionR NMap Coll retN bodyS GMap Dfs refsV refsOf reachL movedOf movedG graphParts graphR isMove flightIDs mailIDs viewIDs rawRoots rootsR reachR deadN viewObjs garbageOf garbageR objsL
def thereB (g : List Nd) (id : ID) : Bool := match findG g id with | some n => decide (n.kind ≠ 3) | none => false
def oddB (g : List Nd) (v : Val) : Bool := decide (v.1 = 2) && !thereB g v.2.2
def badNode (g : List Nd) (n : Nd) : Bool := decide (n.kind ≠ 2) && n.fields.any (oddB g)
def lostF (vs : List View) (i : View × Flight) : Bool := decide (i.2.msg.kind = 0) && decide (numberedOf vs i.1.machine i.2.to i.2.msg.number = (0, 0))
def badStub (vs : List View) (live : List ID) (v : View) (s : StubE) : Bool := !s.weak && (!s.dead && (decide (s.id ∈ live) && decide ((followOf vs v.machine s.id).2 ≠ 0)))
def safe4 (vs : List View) (live : List ID) : Int := if vs.any (fun v => v.stubs.any (badStub vs live v)) then 11 else 0
def safe3 (vs : List View) (live : List ID) : Int := if (flightsOf vs).any (lostF vs) then 6 else safe4 vs live
def safe2 (vs : List View) (g : List Nd) (live : List ID) : Int := if live.any (fun id => badNode g ((findG g id).getD zeroN)) then 6 else safe3 vs live
def safe1 (vs : List View) (g : List Nd) (live roots : List ID) : Int := if (live ++ roots).any (fun id => !thereB g id) then 6 else safe2 vs g live
noncomputable def safeR (vs : List View) : Int := if (graphR vs).2 = 0 then safe1 vs (graphR vs).1 (reachL (graphR vs).1 (rootsR vs)) (rootsR vs) else (graphR vs).2
theorem badNode_weak {g : List Nd} {n : Nd} (h : n.kind = 2) : badNode g n = false := by simp [badNode, h]
theorem badNode_any {g : List Nd} {n : Nd} (h : ¬ n.kind = 2) : badNode g n = n.fields.any (oddB g) := by simp [badNode, h]
theorem lostF_other {vs : List View} {i : View × Flight} (h : ¬ i.2.msg.kind = 0) : lostF vs i = false := by simp [lostF, h]
theorem lostF_zero {vs : List View} {i : View × Flight} (h : i.2.msg.kind = 0) : lostF vs i = decide (numberedOf vs i.1.machine i.2.to i.2.msg.number = (0, 0)) := by simp [lostF, h]
theorem badStub_def (vs : List View) (live : List ID) (v : View) (s : StubE) : badStub vs live v s = (!s.weak && (!s.dead && (decide (s.id ∈ live) && decide ((followOf vs v.machine s.id).2 ≠ 0)))) := rfl
attribute [local irreducible] thereB oddB badNode lostF badStub safe1 safe2 safe3 safe4 safeR
theorem there_s {h : Frag} {g : List Nd} {us : List Value} {b : Nat} {id : ID} (hb : At h b 0 us) (hg : GraphC 4398046511104 h g us) : PSpec Tryz.prog 63 ([Value.agg (idc id).toArray] ++ [ptr b 0]).toArray h (fun _ v => v = .bool (thereB g id)) := by
  obtain ⟨p, c, rfl, hf⟩ := hg
  obtain ⟨i1, i2⟩ := id
  refine pspec_of (vs := [.agg (idc (i1, i2)).toArray, ptr b 0]) Tryz.func63 Tryz.ntmps63 rfl rfl ?_
  (focus (refine WP_seq ?_; refine R_region ?_; refine S_c rfl rfl rfl (C_box rfl rfl ?_); intro b0_1; refine S_q rfl rfl rfl (Q_assign rfl rfl) ?_; refine OPS_nil ?_; refine then_n ?_; refine WP_seq ?_; refine R_region ?_; refine S_load rfl rfl rfl rfl rfl ?_; refine L_agg (Rd.pers (by assumption)) (ty rfl) (by first | rfl | assumption) ?_; refine S_load rfl rfl rfl rfl rfl ?_; refine L_agg (Rd.own m0) (ty rfl) (by first | rfl | assumption) ?_; refine S_c rfl rfl rfl (C_call (find_s ⟨_, _, rfl, by assumption⟩) rfl rfl ⟨_, _, rfl, ⟨_, _, rfl, rfl, rfl⟩, rfl⟩ (cal rfl) ?_); rintro h0_2 _ l0_2 ⟨vf0_2, rfl, pn0_2, qn0_2, rfl, fn0_2⟩; replace hf := hf.up l0_2; replace hb := hb.up l0_2; refine S_q rfl rfl rfl (Q_move rfl rfl) ?_; refine S_q rfl rfl rfl (Q_extract rfl rfl rfl) ?_; refine S_q rfl rfl rfl (Q_extract rfl rfl rfl) ?_; refine S_c rfl rfl rfl (C_alloc rfl (zer rfl) ?_); intro b0_3; refine S_w0 rfl rfl (W_all rfl rfl rfl (ty rfl) u0 (by first | rfl | assumption) (by first | rfl | assumption) (by first | rfl | assumption | exact ones_sub (by assumption) _ _) ?_); refine S_q rfl rfl rfl (Q_assign rfl rfl) ?_; refine OPS_nil ?_; refine then_n ?_; refine WP_seq ?_; refine R_region ?_; refine S_q rfl rfl rfl (Q_move rfl rfl) ?_; refine S_q rfl rfl rfl (Q_move rfl rfl) ?_; refine S_gsplit rfl rfl rfl rfl (fun c0_4 => ?_) (fun c0_4 => ?_) <;> (first | (simp [*] at c0_4; done) | (try simp at c0_4)); (focus (refine S_gq rfl rfl rfl rfl rfl rfl (Q_fieldAddr rfl rfl (fld rfl rfl)) ?_; refine S_gload rfl rfl rfl rfl rfl rfl rfl rfl ?_; refine L_fld (Rd.own m0) (ty rfl) rfl ?_; refine S_gq rfl rfl rfl rfl rfl rfl (Q_cmp rfl rfl rfl rfl) ?_; refine S_q rfl rfl rfl (Q_pick_t rfl rfl rfl) ?_; refine S_q rfl rfl rfl (Q_assign rfl rfl) ?_; refine OPS_nil ?_; refine then_n ?_; refine WP_ret ?_)); rotate_left 1; (focus (refine S_gn rfl rfl rfl rfl rfl rfl ?_; refine S_gn rfl rfl rfl rfl rfl rfl ?_; refine S_gn rfl rfl rfl rfl rfl rfl ?_; refine S_q rfl rfl rfl (Q_pick_f rfl rfl rfl) ?_; refine S_q rfl rfl rfl (Q_assign rfl rfl) ?_; refine OPS_nil ?_; refine then_n ?_; refine WP_ret ?_)); rotate_left 1))
  all_goals refine pret (.inl rfl) rfl ⟨_, _, rfl, rfl, rfl⟩ ?_
  all_goals (rw [thereB]; cases hx : findG g (i1, i2) <;> simp_all [resOf]; try rfl)
theorem odd_s {h : Frag} {g : List Nd} {us : List Value} {b b8 : Nat} {v : Val} (h8 : At h b8 0 [.func (.func 63) #[] #[ptr b 0]]) (hb : At h b 0 us) (hg : GraphC 4398046511104 h g us) : PSpec Tryz.prog 65 ([Value.agg (vlc v).toArray] ++ [ptr b8 0]).toArray h (fun _ u => u = .bool (oddB g v)) := by
  obtain ⟨v1, v2, v3, v4⟩ := v
  have hfn := fun id : ID => there_s (id := id) hb hg
  have hcal : callOk Tryz.prog 63 = true := cal rfl
  refine pspec_of (vs := [.agg (vlc (v1, v2, v3, v4)).toArray, ptr b8 0]) Tryz.func65 Tryz.ntmps65 rfl rfl ?_
  (focus (refine WP_seq ?_; refine R_region ?_; refine S_c rfl rfl rfl (C_box rfl rfl ?_); intro b0_1; refine S_q rfl rfl rfl (Q_assign rfl rfl) ?_; refine OPS_nil ?_; refine then_n ?_; refine WP_seq ?_; refine R_region ?_; refine S_q rfl rfl rfl (Q_fieldAddr rfl rfl (fld rfl rfl)) ?_; refine S_load rfl rfl rfl rfl rfl ?_; refine L_fld (Rd.own m0) (ty rfl) rfl ?_; refine S_q rfl rfl rfl (Q_cmp rfl rfl rfl rfl) ?_; refine S_q rfl rfl rfl (Q_move rfl rfl) ?_; refine S_gsplit rfl rfl rfl rfl (fun c0_2 => ?_) (fun c0_2 => ?_) <;> (first | (simp [*] at c0_2; done) | (try simp at c0_2)); (focus (refine S_gload rfl rfl rfl rfl rfl rfl rfl rfl ?_; refine L_one (Rd.pers (by assumption)) (ty rfl) ?_; refine S_gq rfl rfl rfl rfl rfl rfl (Q_fieldAddr rfl rfl (fld rfl rfl)) ?_; refine S_gload rfl rfl rfl rfl rfl rfl rfl rfl ?_; refine L_sub (Rd.own m0) (ty rfl) rfl ?_; refine S_gc rfl rfl rfl rfl rfl rfl (C_callCv (hfn _) rfl rfl rfl ⟨_, _, rfl, rfl, rfl⟩ hcal ?_); refine S_gq rfl rfl rfl rfl rfl rfl (Q_not rfl rfl) ?_; refine S_q rfl rfl rfl (Q_pick_t rfl rfl rfl) ?_; refine S_q rfl rfl rfl (Q_assign rfl rfl) ?_; refine OPS_nil ?_; refine then_n ?_; refine WP_ret ?_)); rotate_left 1; (focus (refine S_gn rfl rfl rfl rfl rfl rfl ?_; refine S_gn rfl rfl rfl rfl rfl rfl ?_; refine S_gn rfl rfl rfl rfl rfl rfl ?_; refine S_gn rfl rfl rfl rfl rfl rfl ?_; refine S_gn rfl rfl rfl rfl rfl rfl ?_; refine S_q rfl rfl rfl (Q_pick_f rfl rfl rfl) ?_; refine S_q rfl rfl rfl (Q_assign rfl rfl) ?_; refine OPS_nil ?_; refine then_n ?_; refine WP_ret ?_)); rotate_left 1))
  all_goals refine pret (.inl rfl) rfl ⟨_, _, rfl, rfl, rfl⟩ ?_
  all_goals (simp_all [resOf, oddB]; try rfl)
theorem safe_s {h : Frag} {a : Value} {vs : List View} (hs : SL h 13 (ViewC 4398046511104) a vs) (sm : Small vs) : PSpec Tryz.prog 25 #[a] h (fun _ v => v = .int .i64 (safeR vs)) := by
  have hlen := sm.len
  obtain ⟨_, hgl, hgf⟩ := sm.graph
  have hrl := roots_len sm
  obtain ⟨pv, cv, rfl⟩ := hs.slice
  refine pspec_ofN (vs := [.slice pv vs.length cv]) Tryz.func25 Tryz.ntmps25 rfl rfl ?_
  (focus (refine WP_seq ?_; refine R_region ?_; refine S_c rfl rfl rfl (C_alloc rfl (zer rfl) ?_); intro b0_1; refine OPS_nil ?_; refine then_n ?_; refine WP_seq ?_; refine R_region ?_; refine S_q rfl rfl rfl (Q_move rfl rfl) ?_; refine S_c rfl rfl rfl (C_call (graph_s (by assumption) (by assumption)) rfl rfl ⟨_, _, rfl, rfl, rfl⟩ (cal rfl) ?_); rintro h0_2 _ l0_2 ⟨_, rfl, pg0_2, qg0_2, rfl, fg0_2⟩; replace hs := hs.up l0_2; refine S_q rfl rfl rfl (Q_move rfl rfl) ?_; refine S_q rfl rfl rfl (Q_extract rfl rfl rfl) ?_; refine S_q rfl rfl rfl (Q_extract rfl rfl rfl) ?_; refine S_c rfl rfl rfl (C_alloc rfl (zer rfl) ?_); intro b0_3; refine S_w0 rfl rfl (W_all rfl rfl rfl (ty rfl) u0 (by first | rfl | assumption) (by first | rfl | assumption) (by first | rfl | assumption | exact ones_sub (by assumption) _ _) ?_); refine S_q rfl rfl rfl (Q_assign rfl rfl) ?_; refine OPS_nil ?_; refine then_n ?_; refine WP_seq ?_; refine WP_seq ?_; refine R_region ?_; refine S_q rfl rfl rfl (Q_move rfl rfl) ?_; refine S_q rfl rfl rfl (Q_cmp rfl rfl rfl rfl) ?_; refine OPS_nil ?_; refine then_n ?_; refine WP_cond rfl (fun c0_4 => ?_) (fun c0_4 => ?_) <;> (first | (simp [*] at c0_4; done) | (try simp at c0_4)); (focus (refine WP_seq ?_; refine R_region ?_; refine S_q rfl rfl rfl (Q_move rfl rfl) ?_; refine S_w0 rfl rfl (W_one rfl rfl rfl (ty rfl) u1 rfl rfl rfl ?_); refine OPS_nil ?_; refine then_n ?_; refine WP_ret ?_; refine then_r ?_)); rotate_left 1; (focus (refine WP_skip ?_; refine then_n ?_; refine WP_seq ?_; refine R_region ?_; refine S_q rfl rfl rfl (Q_move rfl rfl) ?_; refine S_c rfl rfl rfl (C_call (of_s (by assumption)) rfl rfl ⟨_, _, rfl, rfl, rfl⟩ (cal rfl) ?_); rintro h0_5 _ l0_5 ⟨pf0_5, qf0_5, mb0_5, rfl, ff0_5⟩; replace fg0_2 := fg0_2.up l0_5; replace hs := hs.up l0_5; refine S_q rfl rfl rfl (Q_move rfl rfl) ?_; refine S_c rfl rfl rfl (C_call (roots_s (by assumption) (by assumption)) rfl rfl ⟨_, _, rfl, rfl, rfl⟩ (cal rfl) ?_); rintro h0_6 _ l0_6 ⟨p0_6, q0_6, rfl, f0_6⟩; replace ff0_5 := ff0_5.up l0_6; replace fg0_2 := fg0_2.up l0_6; replace hs := hs.up l0_6; refine S_c rfl rfl rfl (C_alloc rfl (zer rfl) ?_); intro b0_7; refine S_w0 rfl rfl (W_all rfl rfl rfl (ty rfl) u0 (by first | rfl | assumption) (by first | rfl | assumption) (by first | rfl | assumption | exact ones_sub (by assumption) _ _) ?_); refine S_q rfl rfl rfl (Q_assign rfl rfl) ?_; refine OPS_nil ?_; refine then_n ?_; refine WP_seq ?_; refine R_region ?_; refine S_load rfl rfl rfl rfl rfl ?_; refine L_agg (Rd.own m1) (ty rfl) (by first | rfl | assumption) ?_; refine S_q rfl rfl rfl (Q_move rfl rfl) ?_; refine S_c rfl rfl rfl (C_callF (reach_s ⟨_, _, rfl, by assumption⟩ (by assumption) (by omega) (by omega) (by assumption)) rfl rfl ⟨_, _, rfl, ⟨_, _, rfl, rfl, rfl⟩, rfl⟩ (cal rfl) ?_); rintro h0_8 m0_8 _ l0_8 ⟨p0_8, q0_8, rfl, o0_8⟩; replace f0_6 := f0_6.up l0_8; replace ff0_5 := ff0_5.up l0_8; replace fg0_2 := fg0_2.up l0_8; replace hs := hs.up l0_8; refine S_q rfl rfl rfl (Q_assign rfl rfl) ?_; refine OPS_nil ?_; refine then_n ?_; refine WP_seq ?_; refine R_region ?_; refine S_q rfl rfl rfl (Q_makeFunc rfl rfl ⟨_, _, rfl, rfl, rfl⟩) ?_; refine S_c rfl rfl rfl (C_alloc rfl (zer rfl) ?_); intro b0_9; refine S_w0 rfl rfl (W_one rfl rfl rfl (ty rfl) u0 rfl rfl rfl ?_); refine OPS_nil ?_; refine then_n ?_; refine WP_seq ?_; refine WP_seq ?_; refine R_region ?_; refine S_q rfl rfl rfl (Q_move rfl rfl) ?_; refine S_q rfl rfl rfl (Q_move rfl rfl) ?_; refine S_c rfl rfl rfl (C_buildSlice rfl (elm rfl) (zer rfl) rfl ⟨_, _, _, rfl, rfl, rfl, rfl, ⟨_, _, _, rfl, rfl, rfl, rfl, rfl, rfl⟩, rfl⟩ rfl rfl ?_); intro b0_10)); rotate_left 1))
  · refine nretP [_, _] (List.Sublist.refl _) (.inl rfl) rfl ⟨_, _, _, rfl, Loads_one (Rd.own m1) (ty rfl), rfl, rfl⟩ ?_
    simp only [resOf]; rw [safeR, if_neg c0_4]; rfl
  have hsafe : safeR vs = safe1 vs (graphR vs).1 (reachL (graphR vs).1 (rootsR vs)) (rootsR vs) := by rw [safeR, if_pos c0_4]
  have hlv : (reachL (graphR vs).1 (rootsR vs)).length ≤ 1000000 := Nat.le_trans (reachL_length _ _) hgl
  rw [hsafe]
  generalize hlive : reachL (graphR vs).1 (rootsR vs) = live at *
  generalize hroots : rootsR vs = roots at *
  generalize hgr : (graphR vs).1 = g at *
  (focus (refine OPS_keepM [] [_] _ rfl ?_; rintro h1_k l1_k k1_k; have a1_k := at_of_keep k1_k; clear k1_k; replace ff0_5 := ff0_5.up l1_k; replace hs := hs.up l1_k; replace o0_8 := o0_8.up l1_k; replace f0_6 := f0_6.up l1_k; replace fg0_2 := fg0_2.up l1_k))
  (focus (refine OPS_keepM [] [_] _ rfl ?_; rintro h2_k l2_k k2_k; have a2_k := at_of_keep k2_k; clear k2_k; replace a1_k := a1_k.up l2_k; replace ff0_5 := ff0_5.up l2_k; replace hs := hs.up l2_k; replace o0_8 := o0_8.up l2_k; replace f0_6 := f0_6.up l2_k; replace fg0_2 := fg0_2.up l2_k))
  refine OPS_keepM [] m0_8 _ rfl fun h4 hl4 hm4 => ?_
  have hL : SL h4 2 IDC (.slice p0_8 live.length q0_8) live := o0_8.sl hl4 IDC_mono hm4 (by omega)
  clear o0_8 hm4
  (replace a2_k := a2_k.up hl4; replace a1_k := a1_k.up hl4; replace ff0_5 := ff0_5.up hl4; replace hs := hs.up hl4; replace f0_6 := f0_6.up hl4; replace fg0_2 := fg0_2.up hl4)
  (focus (refine OPS_keepM [] [_] _ rfl ?_; rintro h4_k l4_k k4_k; have a4_k := at_of_keep k4_k; clear k4_k; replace hL := hL.up l4_k; replace a2_k := a2_k.up l4_k; replace a1_k := a1_k.up l4_k; replace ff0_5 := ff0_5.up l4_k; replace hs := hs.up l4_k; replace f0_6 := f0_6.up l4_k; replace fg0_2 := fg0_2.up l4_k))
  (focus (refine OPS_keepM [] [_] _ rfl ?_; rintro h5_k l5_k k5_k; have a5_k := at_of_keep k5_k; clear k5_k; replace a4_k := a4_k.up l5_k; replace hL := hL.up l5_k; replace a2_k := a2_k.up l5_k; replace a1_k := a1_k.up l5_k; replace ff0_5 := ff0_5.up l5_k; replace hs := hs.up l5_k; replace f0_6 := f0_6.up l5_k; replace fg0_2 := fg0_2.up l5_k))
  refine S_c rfl rfl rfl (C_callF (concat_s (ls := [live, roots]) (slb_of_at a1_k (Flat.append (Flat.one rfl rfl ⟨_, _, rfl, hL⟩) (Flat.one rfl rfl ⟨_, _, rfl, f0_6⟩)) (by simp)) (by simp; omega)) rfl rfl ⟨_, _, rfl, rfl, rfl⟩ (cal rfl) ?_)
  rintro _ M _ hl5 ⟨rfl, pa, qa, rfl, hO⟩
  have hcat : [live, roots].flatten = live ++ roots := by simp
  rw [hcat] at hO ⊢
  have hal : (live ++ roots).length ≤ 2000000 := by rw [List.length_append]; omega
  have hs1 : safe1 vs g live roots = if (live ++ roots).any (fun id => !thereB g id) then 6 else safe2 vs g live := by rw [safe1]
  rw [hs1]
  generalize live ++ roots = all at *
  (focus (refine S_q rfl rfl rfl (Q_len rfl rfl rfl rfl rfl rfl) ?_; refine S_q rfl rfl rfl (Q_move rfl rfl) ?_; refine OPS_nil ?_; refine then_n ?_; refine WP_block ?_))
  refine WP_keepM [] M _ rfl fun h6 hl6 hm6 => ?_
  have hA : SL h6 2 IDC (.slice pa all.length qa) all := hO.sl hl6 IDC_mono hm6 (by omega)
  clear hO hm6 hs1 hcat hsafe
  (replace a5_k := a5_k.up hl6; replace a4_k := a4_k.up hl6; replace hL := hL.up hl6; replace a2_k := a2_k.up hl6; replace a1_k := a1_k.up hl6; replace ff0_5 := ff0_5.up hl6; replace hs := hs.up hl6; replace f0_6 := f0_6.up hl6; replace fg0_2 := fg0_2.up hl6)
  clear a1_k
  have hfn := fun id : ID => there_s (id := id) a5_k ⟨_, _, rfl, fg0_2⟩
  have hcal : callOk Tryz.prog 63 = true := cal rfl
  (refine WP_loopC (α := Nat) [44, 43, 8, 7, 5, 3, 2, 0] (fun (k : Nat) => all.length - k) (fun (k : Nat) => [(45, .int .i64 (k : Int))]) (fun hh (k : Nat) => hh = h6 ∧ k ≤ all.length ∧ (all.drop k).any (fun id => !thereB g id) = all.any (fun id => !thereB g id)) 0 ⟨_, _, rfl, ⟨_, _, rfl, ⟨_, _, rfl, ⟨_, _, rfl, ⟨_, _, rfl, ⟨_, _, rfl, ⟨_, _, rfl, ⟨_, _, rfl, rfl, rfl⟩, rfl⟩, rfl⟩, rfl⟩, rfl⟩, rfl⟩, rfl⟩, rfl⟩ (by repeat' (first | exact trivial | refine ⟨rfl, ?_⟩)) ?_ ?_)
  · exact ⟨rfl, Nat.zero_le _, rfl⟩
  rintro h7 k _ ⟨rfl, hk, ht⟩
  by_cases hlt : k < all.length
  · obtain ⟨⟨i1, i2⟩, ei⟩ := get_of hlt
    have hod := any_drop (p := fun id => !thereB g id) ei
    rw [ht] at hod
    (focus (refine WP_seq ?_; refine R_region ?_; refine S_q rfl rfl rfl (Q_cmp rfl rfl rfl rfl) ?_; refine OPS_nil ?_; refine then_n ?_; refine WP_seq ?_; refine WP_cond rfl (fun c9_1 => ?_) (fun c9_1 => ?_) <;> (first | (simp [*] at c9_1; done) | (try simp at c9_1)); refine WP_skip ?_; refine then_n ?_; refine WP_seq ?_; refine WP_block ?_; refine WP_seq ?_; refine R_region ?_; refine S_q rfl rfl rfl (Q_indexS (by assumption) (by assumption) rfl rfl rfl (elm rfl) rfl) ?_; refine S_load rfl rfl rfl rfl rfl ?_; refine L_elA (by assumption) (by assumption) (ty rfl) ?_; rintro _ _ _ rfl; refine S_c rfl rfl rfl (C_alloc rfl (zer rfl) ?_); intro b9_3; refine S_w0 rfl rfl (W_all rfl rfl rfl (ty rfl) u0 (by first | rfl | assumption) (by first | rfl | assumption) (by first | rfl | assumption | exact ones_sub (by assumption) _ _) ?_); refine OPS_nil ?_; refine then_n ?_; refine WP_seq ?_; refine R_region ?_; refine S_load rfl rfl rfl rfl rfl ?_; refine L_one (Rd.pers (by assumption)) (ty rfl) ?_; refine S_load rfl rfl rfl rfl rfl ?_; refine L_agg (Rd.own m0) (ty rfl) (by first | rfl | assumption) ?_; refine S_c rfl rfl rfl (C_callCv (hfn _) rfl rfl rfl ⟨_, _, rfl, rfl, rfl⟩ hcal ?_); refine S_q rfl rfl rfl (Q_not rfl rfl) ?_; refine OPS_nil ?_; refine then_n ?_; refine WP_cond rfl (fun c9_4 => ?_) (fun c9_4 => ?_) <;> (first | (simp [*] at c9_4; done) | (try simp at c9_4)); (focus (refine WP_seq ?_; refine R_region ?_; refine S_w0 rfl rfl (W_one rfl rfl rfl (ty rfl) u1 rfl rfl rfl ?_); refine OPS_nil ?_; refine then_n ?_; refine WP_ret ?_; refine block_r ?_; refine then_r ?_; refine roundF_r ?_; refine block_r ?_; refine then_r ?_)); rotate_left 1; (focus (refine WP_skip ?_; refine block_n ?_; refine then_n ?_; refine R_region ?_; refine S_q rfl rfl rfl (Q_add rfl rfl rfl (by omega)) ?_; refine S_q rfl rfl rfl (Q_move rfl rfl) ?_; refine OPS_nil ?_)); rotate_left 1))
    · refine nretP [_, _] (List.Sublist.refl _) (.inl rfl) rfl ⟨_, _, _, rfl, Loads_one (Rd.own m1) (ty rfl), rfl, rfl⟩ ?_
      simp only [resOf]; rw [hod, c9_4]; rfl
    · refine roundF_n (k + 1) (by omega) ⟨rfl, by omega, ?_⟩ (by repeat' (first | exact List.Sublist.refl _ | exact List.sublist_append_left _ _ | exact List.nil_sublist _ | apply List.Sublist.cons₂ | apply List.Sublist.cons)) (by repeat' (first | exact trivial | refine ⟨rfl, ?_⟩))
      rw [hod, c9_4]; rfl
  have hge : k = all.length := by omega
  subst hge
  rw [List.drop_length] at ht
  rw [← ht, List.any_nil]
  clear hfn hcal hA ht
  have hs2 : safe2 vs g live = if live.any (fun id => badNode g ((findG g id).getD zeroN)) then 6 else safe3 vs live := by rw [safe2]
  rw [if_neg (by simp), hs2]
  clear hs2
  (focus (refine WP_seq ?_; refine R_region ?_; refine S_q rfl rfl rfl (Q_cmp rfl rfl rfl rfl) ?_; refine OPS_nil ?_; refine then_n ?_; refine WP_seq ?_; refine WP_cond rfl (fun c10_1 => ?_) (fun c10_1 => ?_) <;> (first | (simp [*] at c10_1; done) | (try simp at c10_1)); refine WP_exit ?_; refine then_e ?_; refine roundF_e ?_; refine block_e ?_; refine then_n ?_; refine WP_seq ?_; refine WP_seq ?_; refine R_region ?_; refine S_q rfl rfl rfl (Q_move rfl rfl) ?_; refine S_q rfl rfl rfl (Q_len rfl rfl rfl rfl rfl rfl) ?_; refine S_q rfl rfl rfl (Q_move rfl rfl) ?_; refine OPS_nil ?_; refine then_n ?_; refine WP_block ?_))
  (refine WP_loopC (α := Nat) [55, 54, 8, 7, 5, 3, 2, 0] (fun (k : Nat) => live.length - k) (fun (k : Nat) => [(56, .int .i64 (k : Int))]) (fun hh (k : Nat) => le h7 hh ∧ k ≤ live.length ∧ (live.drop k).any (fun id => badNode g ((findG g id).getD zeroN)) = live.any (fun id => badNode g ((findG g id).getD zeroN))) 0 ⟨_, _, rfl, ⟨_, _, rfl, ⟨_, _, rfl, ⟨_, _, rfl, ⟨_, _, rfl, ⟨_, _, rfl, ⟨_, _, rfl, ⟨_, _, rfl, rfl, rfl⟩, rfl⟩, rfl⟩, rfl⟩, rfl⟩, rfl⟩, rfl⟩, rfl⟩ (by repeat' (first | exact trivial | refine ⟨rfl, ?_⟩)) ?_ ?_)
  · exact ⟨le_refl _, Nat.zero_le _, rfl⟩
  rintro h8 k _ ⟨hl7, hk, ht⟩
  (replace a5_k := a5_k.up hl7; replace a4_k := a4_k.up hl7; replace hL := hL.up hl7; replace a2_k := a2_k.up hl7; replace ff0_5 := ff0_5.up hl7; replace hs := hs.up hl7; replace f0_6 := f0_6.up hl7; replace fg0_2 := fg0_2.up hl7)
  by_cases hlt : k < live.length
  · obtain ⟨⟨i1, i2⟩, ei⟩ := get_of hlt
    have hod := any_drop (p := fun id => badNode g ((findG g id).getD zeroN)) ei
    rw [ht] at hod
    (focus (refine WP_seq ?_; refine R_region ?_; refine S_q rfl rfl rfl (Q_cmp rfl rfl rfl rfl) ?_; refine OPS_nil ?_; refine then_n ?_; refine WP_seq ?_; refine WP_cond rfl (fun c13_1 => ?_) (fun c13_1 => ?_) <;> (first | (simp [*] at c13_1; done) | (try simp at c13_1)); refine WP_skip ?_; refine then_n ?_; refine WP_seq ?_; refine WP_block ?_; refine WP_seq ?_; refine R_region ?_; refine S_q rfl rfl rfl (Q_indexS (by assumption) (by assumption) rfl rfl rfl (elm rfl) rfl) ?_; refine S_load rfl rfl rfl rfl rfl ?_; refine L_elA (by assumption) (by assumption) (ty rfl) ?_; rintro _ _ _ rfl; refine S_c rfl rfl rfl (C_alloc rfl (zer rfl) ?_); intro b13_3; refine S_w0 rfl rfl (W_all rfl rfl rfl (ty rfl) u0 (by first | rfl | assumption) (by first | rfl | assumption) (by first | rfl | assumption | exact ones_sub (by assumption) _ _) ?_); refine OPS_nil ?_; refine then_n ?_; refine WP_seq ?_; refine R_region ?_; refine S_load rfl rfl rfl rfl rfl ?_; refine L_agg (Rd.pers (by assumption)) (ty rfl) (by first | rfl | assumption) ?_; refine S_load rfl rfl rfl rfl rfl ?_; refine L_agg (Rd.own m0) (ty rfl) (by first | rfl | assumption) ?_; refine S_c rfl rfl rfl (C_call (find_s ⟨_, _, rfl, by assumption⟩) rfl rfl ⟨_, _, rfl, ⟨_, _, rfl, rfl, rfl⟩, rfl⟩ (cal rfl) ?_); rintro h13_4 _ l13_4 ⟨vf13_4, rfl, pn13_4, qn13_4, rfl, fn13_4⟩; replace a5_k := a5_k.up l13_4; replace a4_k := a4_k.up l13_4; replace hL := hL.up l13_4; replace a2_k := a2_k.up l13_4; replace ff0_5 := ff0_5.up l13_4; replace hs := hs.up l13_4; replace f0_6 := f0_6.up l13_4; replace fg0_2 := fg0_2.up l13_4; refine S_q rfl rfl rfl (Q_move rfl rfl) ?_; refine S_q rfl rfl rfl (Q_extract rfl rfl rfl) ?_; refine S_q rfl rfl rfl (Q_extract rfl rfl rfl) ?_; refine S_c rfl rfl rfl (C_alloc rfl (zer rfl) ?_); intro b13_5; refine S_w0 rfl rfl (W_all rfl rfl rfl (ty rfl) u0 (by first | rfl | assumption) (by first | rfl | assumption) (by first | rfl | assumption | exact ones_sub (by assumption) _ _) ?_); refine S_q rfl rfl rfl (Q_assign rfl rfl) ?_; refine OPS_nil ?_; refine then_n ?_; refine WP_seq ?_; refine R_region ?_; refine S_q rfl rfl rfl (Q_makeFunc rfl rfl ⟨_, _, rfl, rfl, rfl⟩) ?_; refine S_q rfl rfl rfl (Q_assign rfl rfl) ?_; refine OPS_nil ?_; refine then_n ?_; refine WP_seq ?_; refine R_region ?_; refine S_q rfl rfl rfl (Q_fieldAddr rfl rfl (fld rfl rfl)) ?_; refine S_load rfl rfl rfl rfl rfl ?_; refine L_fld (Rd.own m0) (ty rfl) rfl ?_; refine S_q rfl rfl rfl (Q_cmp rfl rfl rfl rfl) ?_; refine S_q rfl rfl rfl (Q_move rfl rfl) ?_; refine S_gsplit rfl rfl rfl rfl (fun c13_6 => ?_) (fun c13_6 => ?_) <;> (first | (simp [*] at c13_6; done) | (try simp at c13_6)); (focus (refine S_gq rfl rfl rfl rfl rfl rfl (Q_fieldAddr rfl rfl (fld rfl rfl)) ?_; refine S_gload rfl rfl rfl rfl rfl rfl rfl rfl ?_; refine L_fld (Rd.own m0) (ty rfl) rfl ?_; refine S_gq rfl rfl rfl rfl rfl rfl (Q_move rfl rfl) ?_)); rotate_left 1; (focus (refine S_gn rfl rfl rfl rfl rfl rfl ?_; refine S_gn rfl rfl rfl rfl rfl rfl ?_; refine S_gn rfl rfl rfl rfl rfl rfl ?_; refine S_gn rfl rfl rfl rfl rfl rfl ?_; refine S_q rfl rfl rfl (Q_pick_f rfl rfl rfl) ?_; refine OPS_nil ?_; refine then_n ?_; refine cond_f rfl ?_; refine WP_skip ?_; refine block_n ?_; refine then_n ?_; refine R_region ?_; refine S_q rfl rfl rfl (Q_add rfl rfl rfl (by omega)) ?_; refine S_q rfl rfl rfl (Q_move rfl rfl) ?_; refine OPS_nil ?_)); rotate_left 1))
    · refine S_gc rfl rfl rfl rfl rfl rfl (C_callv (hasVal_s (cap := [ptr b0_9 0]) (p := oddB g) fn13_4 (cal rfl) (fun v vs _ _ e => by cases e; exact odd_s a2_k a5_k ⟨_, _, rfl, fg0_2⟩)) rfl rfl ⟨_, _, rfl, ⟨_, _, rfl, rfl, rfl⟩, rfl⟩ (cal rfl) ?_)
      rw [badNode_any c13_6] at hod
      generalize ((findG g (i1, i2)).getD zeroN).fields.any (oddB g) = bb at *
      (focus (refine S_q rfl rfl rfl (Q_pick_t rfl rfl rfl) ?_; refine OPS_nil ?_; refine then_n ?_; refine WP_cond rfl (fun c14_1 => ?_) (fun c14_1 => ?_) <;> (first | (simp [*] at c14_1; done) | (try simp at c14_1)); (focus (refine WP_seq ?_; refine R_region ?_; refine S_w0 rfl rfl (W_one rfl rfl rfl (ty rfl) u2 rfl rfl rfl ?_); refine OPS_nil ?_; refine then_n ?_; refine WP_ret ?_; refine block_r ?_; refine then_r ?_; refine roundF_r ?_; refine block_r ?_; refine then_r ?_)); rotate_left 1; (focus (refine WP_skip ?_; refine block_n ?_; refine then_n ?_; refine R_region ?_; refine S_q rfl rfl rfl (Q_add rfl rfl rfl (by omega)) ?_; refine S_q rfl rfl rfl (Q_move rfl rfl) ?_; refine OPS_nil ?_)); rotate_left 1))
      · refine nretP [_, _, _] (List.Sublist.refl _) (.inl rfl) rfl ⟨_, _, _, rfl, Loads_one (Rd.own m2) (ty rfl), rfl, rfl⟩ ?_
        simp only [resOf]; rw [hod, c14_1]; rfl
      · refine roundF_n (k + 1) (by omega) ⟨le_trans hl7 l13_4, by omega, ?_⟩ (by repeat' (first | exact List.Sublist.refl _ | exact List.sublist_append_left _ _ | exact List.nil_sublist _ | apply List.Sublist.cons₂ | apply List.Sublist.cons)) (by repeat' (first | exact trivial | refine ⟨rfl, ?_⟩))
        rw [hod, c14_1]; rfl
    · refine roundF_n (k + 1) (by omega) ⟨le_trans hl7 l13_4, by omega, ?_⟩ (by repeat' (first | exact List.Sublist.refl _ | exact List.sublist_append_left _ _ | exact List.nil_sublist _ | apply List.Sublist.cons₂ | apply List.Sublist.cons)) (by repeat' (first | exact trivial | refine ⟨rfl, ?_⟩))
      rw [hod, badNode_weak c13_6]; rfl
  have hge : k = live.length := by omega
  subst hge
  rw [List.drop_length] at ht
  rw [← ht, List.any_nil]
  clear ht
  have hs3 : safe3 vs live = if (flightsOf vs).any (lostF vs) then 6 else safe4 vs live := by rw [safe3]
  rw [if_neg (by simp), hs3]
  clear hs3
  (focus (refine WP_seq ?_; refine R_region ?_; refine S_q rfl rfl rfl (Q_cmp rfl rfl rfl rfl) ?_; refine OPS_nil ?_; refine then_n ?_; refine WP_seq ?_; refine WP_cond rfl (fun c15_1 => ?_) (fun c15_1 => ?_) <;> (first | (simp [*] at c15_1; done) | (try simp at c15_1)); refine WP_exit ?_; refine then_e ?_; refine roundF_e ?_; refine block_e ?_; refine then_n ?_; refine WP_seq ?_; refine WP_seq ?_; refine R_region ?_; refine S_load rfl rfl rfl rfl rfl ?_; refine L_agg (Rd.pers (by assumption)) (ty rfl) (by first | rfl | assumption) ?_; refine S_c rfl rfl rfl (C_call (flights_s (by assumption)) rfl rfl ⟨_, _, rfl, rfl, rfl⟩ (cal rfl) ?_); rintro h15_2 _ l15_2 ⟨bi15_2, rfl, it15_2⟩; replace a5_k := a5_k.up l15_2; replace a4_k := a4_k.up l15_2; replace hL := hL.up l15_2; replace a2_k := a2_k.up l15_2; replace ff0_5 := ff0_5.up l15_2; replace hs := hs.up l15_2; replace f0_6 := f0_6.up l15_2; replace fg0_2 := fg0_2.up l15_2; refine OPS_nil ?_; refine then_n ?_; refine WP_block ?_))
  refine WP_rangeS [] [] (fun _ : Unit => [(b0_1, cells [.int .i64 0] 28)]) (fun pre hh _ => le h15_2 hh ∧ pre.any (lostF vs) = false)
    (fun e hh L => e = .ret ∧ List.Sublist [(b0_1, cells [.int .i64 6] 28)] L ∧ (flightsOf vs).any (lostF vs) = true) () it15_2 rfl Tryz.func77 (by decide) rfl (by rintro _ _ _ ⟨_, _, rfl, _⟩; rfl) rfl rfl ⟨le_refl _, rfl⟩ ?_ ?_ ?_
  · rintro l pre ⟨v, x⟩ _ h2 _ hl1 ⟨hl2, hpre⟩ hp ⟨us, ws, rfl, hu1, hu2, hu3, hw1, hw2, hw3⟩
    simp only at hu3 hw3
    have hsn : (pre ++ [(v, x)]).any (lostF vs) = (pre.any (lostF vs) || lostF vs (v, x)) := by simp
    have hin : (v, x) ∈ flightsOf vs := hp.subset (by simp)
    (replace it15_2 := it15_2.up hl1; replace a5_k := a5_k.up hl1; replace a4_k := a4_k.up hl1; replace hL := hL.up hl1; replace a2_k := a2_k.up hl1; replace ff0_5 := ff0_5.up hl1; replace hs := hs.up hl1; replace f0_6 := f0_6.up hl1; replace fg0_2 := fg0_2.up hl1)
    obtain ⟨hi, xa, po, qo, qs, qt, pc, qc, pn, qn, pm, qm, xw, xv, pf, qf, pr, qr, xe, xf, rfl, -⟩ := hu3
    obtain ⟨ya, yb, yc, yd, ye, pa, qa, pg, qg, ph, qh, yw, y1, y2, y3, y4, y5, y6, y7, y8, y9, y10, y11, y12, y13, y14, y15, rfl, ha, hfs, hm⟩ := hw3
    dsimp only [parFr]
    (focus (refine WP_seq ?_; refine R_region ?_; refine S_c rfl rfl rfl (C_alloc rfl (zer rfl) ?_); intro b17_1; refine S_w0 rfl rfl (W_all rfl rfl rfl (ty rfl) u0 (by first | rfl | assumption) (by first | rfl | assumption) (by first | rfl | assumption | exact ones_sub (by assumption) _ _) ?_); refine OPS_nil ?_; refine then_n ?_; refine R_region ?_; refine S_c rfl rfl rfl (C_alloc rfl (zer rfl) ?_); intro b17_2; refine S_w0 rfl rfl (W_all rfl rfl rfl (ty rfl) u0 (by first | rfl | assumption) (by first | rfl | assumption) (by first | rfl | assumption | exact ones_sub (by assumption) _ _) ?_); refine OPS_nil ?_; refine then_n ?_))
    refine ⟨rfl, ?_⟩
    (focus (refine WP_block ?_; refine WP_seq ?_; refine R_region ?_; refine S_q rfl rfl rfl (Q_fieldAddr rfl rfl (fld rfl rfl)) ?_; refine S_q rfl rfl rfl (Q_fieldAddr rfl rfl (fld rfl rfl)) ?_; refine S_load rfl rfl rfl rfl rfl ?_; refine L_fld2 (Rd.own m0) ?_; refine LV_1 (ty rfl) rfl ?_; refine S_q rfl rfl rfl (Q_cmp rfl rfl rfl rfl) ?_; refine S_q rfl rfl rfl (Q_move rfl rfl) ?_; refine S_gsplit rfl rfl rfl rfl (fun c18_1 => ?_) (fun c18_1 => ?_) <;> (first | (simp [*] at c18_1; done) | (try simp at c18_1)); (focus (refine S_gload rfl rfl rfl rfl rfl rfl rfl rfl ?_; refine L_agg (Rd.pers (by assumption)) (ty rfl) (by first | rfl | assumption) ?_; refine S_gq rfl rfl rfl rfl rfl rfl (Q_fieldAddr rfl rfl (fld rfl rfl)) ?_; refine S_gload rfl rfl rfl rfl rfl rfl rfl rfl ?_; refine L_fld (Rd.own m1) (ty rfl) rfl ?_; refine S_gq rfl rfl rfl rfl rfl rfl (Q_fieldAddr rfl rfl (fld rfl rfl)) ?_; refine S_gload rfl rfl rfl rfl rfl rfl rfl rfl ?_; refine L_fld (Rd.own m0) (ty rfl) rfl ?_; refine S_gq rfl rfl rfl rfl rfl rfl (Q_fieldAddr rfl rfl (fld rfl rfl)) ?_; refine S_gq rfl rfl rfl rfl rfl rfl (Q_fieldAddr rfl rfl (fld rfl rfl)) ?_; refine S_gload rfl rfl rfl rfl rfl rfl rfl rfl ?_; refine L_fld2 (Rd.own m0) ?_; refine LV_1 (ty rfl) rfl ?_; refine S_gc rfl rfl rfl rfl rfl rfl (C_callv (numbered_s (by assumption)) rfl rfl ⟨_, _, rfl, ⟨_, _, rfl, ⟨_, _, rfl, ⟨_, _, rfl, rfl, rfl⟩, rfl⟩, rfl⟩, rfl⟩ (cal rfl) ?_); refine S_gq rfl rfl rfl rfl rfl rfl (Q_build rfl (by decide +kernel) (zer rfl) rfl rfl) ?_; refine S_gq rfl rfl rfl rfl rfl rfl (Q_eqI eqID rfl rfl rfl rfl rfl) ?_; refine S_q rfl rfl rfl (Q_pick_t rfl rfl rfl) ?_; refine OPS_nil ?_; refine then_n ?_; refine WP_cond rfl (fun c18_2 => ?_) (fun c18_2 => ?_) <;> (first | (simp [*] at c18_2; done) | (try simp at c18_2)); (focus (refine WP_seq ?_; refine R_region ?_; refine S_w0 rfl rfl (W_one rfl rfl rfl (ty rfl) u2 rfl rfl rfl ?_); refine OPS_nil ?_; refine then_n ?_; refine WP_ret ?_; refine block_r ?_)); rotate_left 1; (focus (refine WP_skip ?_; refine block_n ?_)); rotate_left 1)); rotate_left 2; (focus (refine S_gn rfl rfl rfl rfl rfl rfl ?_; refine S_gn rfl rfl rfl rfl rfl rfl ?_; refine S_gn rfl rfl rfl rfl rfl rfl ?_; refine S_gn rfl rfl rfl rfl rfl rfl ?_; refine S_gn rfl rfl rfl rfl rfl rfl ?_; refine S_gn rfl rfl rfl rfl rfl rfl ?_; refine S_gn rfl rfl rfl rfl rfl rfl ?_; refine S_gn rfl rfl rfl rfl rfl rfl ?_; refine S_gn rfl rfl rfl rfl rfl rfl ?_; refine S_gn rfl rfl rfl rfl rfl rfl ?_; refine S_gn rfl rfl rfl rfl rfl rfl ?_; refine S_q rfl rfl rfl (Q_pick_f rfl rfl rfl) ?_; refine OPS_nil ?_; refine then_n ?_; refine cond_f rfl ?_; refine WP_skip ?_; refine block_n ?_)); rotate_left 1))
    · refine bodyS_r ⟨rfl, (by repeat' (first | exact List.Sublist.refl _ | exact List.sublist_append_left _ _ | exact List.nil_sublist _ | apply List.Sublist.cons₂ | apply List.Sublist.cons)), List.any_eq_true.2 ⟨_, hin, ?_⟩⟩
      rw [lostF_zero c18_1]
      exact decide_eq_true (Prod.ext c18_2.1 c18_2.2)
    · refine bodyS_n () ⟨hl2, ?_⟩ (by repeat' (first | exact List.Sublist.refl _ | exact List.sublist_append_left _ _ | exact List.nil_sublist _ | apply List.Sublist.cons₂ | apply List.Sublist.cons))
      rw [hsn, hpre, lostF_zero c18_1]
      exact decide_eq_false fun e => c18_2 (congrArg Prod.fst e) (congrArg Prod.snd e)
    · refine bodyS_n () ⟨hl2, ?_⟩ (by repeat' (first | exact List.Sublist.refl _ | exact List.sublist_append_left _ _ | exact List.nil_sublist _ | apply List.Sublist.cons₂ | apply List.Sublist.cons))
      rw [hsn, hpre, lostF_other c18_1]; rfl
  · rintro d h2 _ hl1 ⟨hl2, hpre⟩
    (replace it15_2 := it15_2.up hl1; replace a5_k := a5_k.up hl1; replace a4_k := a4_k.up hl1; replace hL := hL.up hl1; replace a2_k := a2_k.up hl1; replace ff0_5 := ff0_5.up hl1; replace hs := hs.up hl1; replace f0_6 := f0_6.up hl1; replace fg0_2 := fg0_2.up hl1)
    rw [if_neg (by rw [hpre]; simp)]
    have hs4 : safe4 vs live = if vs.any (fun v => v.stubs.any (badStub vs live v)) then 11 else 0 := by rw [safe4]
    rw [hs4]
    clear hs4
    (focus (refine block_n ?_; refine then_n ?_; refine WP_seq ?_; refine WP_seq ?_; refine R_region ?_; refine S_q rfl rfl rfl (Q_move rfl rfl) ?_; refine S_q rfl rfl rfl (Q_len rfl rfl rfl rfl rfl rfl) ?_; refine S_q rfl rfl rfl (Q_move rfl rfl) ?_; refine OPS_nil ?_; refine then_n ?_; refine WP_block ?_))
    (refine WP_loopC (α := Nat) [99, 98, 7, 2, 0] (fun (k : Nat) => vs.length - k) (fun (k : Nat) => [(100, .int .i64 (k : Int))]) (fun hh (k : Nat) => le h2 hh ∧ k ≤ vs.length ∧ (vs.drop k).any (fun v => v.stubs.any (badStub vs live v)) = vs.any (fun v => v.stubs.any (badStub vs live v))) 0 ⟨_, _, rfl, ⟨_, _, rfl, ⟨_, _, rfl, ⟨_, _, rfl, ⟨_, _, rfl, rfl, rfl⟩, rfl⟩, rfl⟩, rfl⟩, rfl⟩ (by repeat' (first | exact trivial | refine ⟨rfl, ?_⟩)) ?_ ?_)
    · exact ⟨le_refl _, Nat.zero_le _, rfl⟩
    rintro h3 k _ ⟨hl3, hk, ht⟩
    (replace it15_2 := it15_2.up hl3; replace a5_k := a5_k.up hl3; replace a4_k := a4_k.up hl3; replace hL := hL.up hl3; replace a2_k := a2_k.up hl3; replace ff0_5 := ff0_5.up hl3; replace hs := hs.up hl3; replace f0_6 := f0_6.up hl3; replace fg0_2 := fg0_2.up hl3)
    by_cases hlt : k < vs.length
    · obtain ⟨v, ev⟩ := get_of hlt
      have hod := any_drop (p := fun v => v.stubs.any (badStub vs live v)) ev
      rw [ht] at hod
      have hst := sm.stubs v (List.mem_of_getElem? ev)
      (focus (refine WP_seq ?_; refine R_region ?_; refine S_q rfl rfl rfl (Q_cmp rfl rfl rfl rfl) ?_; refine OPS_nil ?_; refine then_n ?_; refine WP_seq ?_; refine WP_cond rfl (fun c23_1 => ?_) (fun c23_1 => ?_) <;> (first | (simp [*] at c23_1; done) | (try simp at c23_1)); refine WP_skip ?_; refine then_n ?_; refine WP_seq ?_; refine WP_block ?_; refine WP_seq ?_; refine R_region ?_; refine S_q rfl rfl rfl (Q_indexS (by assumption) (by assumption) rfl rfl rfl (elm rfl) rfl) ?_; refine S_load rfl rfl rfl rfl rfl ?_; refine L_elA (by assumption) (by assumption) (ty rfl) ?_; rintro _ _ _ ⟨xi23_2, xa23_2, po23_2, qo23_2, ps23_2, qs23_2, pc23_2, qc23_2, pn23_2, qn23_2, pm23_2, qm23_2, xw23_2, xv23_2, pf23_2, qf23_2, pr23_2, qr23_2, xe23_2, xf23_2, rfl, vo23_2, vs23_2, vc23_2, vn23_2, vm23_2, vf23_2, vr23_2⟩; refine S_c rfl rfl rfl (C_alloc rfl (zer rfl) ?_); intro b23_3; refine S_w0 rfl rfl (W_all rfl rfl rfl (ty rfl) u0 (by first | rfl | assumption) (by first | rfl | assumption) (by first | rfl | assumption | exact ones_sub (by assumption) _ _) ?_); refine OPS_nil ?_; refine then_n ?_; refine WP_seq ?_; refine R_region ?_; refine S_q rfl rfl rfl (Q_fieldAddr rfl rfl (fld rfl rfl)) ?_; refine S_load rfl rfl rfl rfl rfl ?_; refine L_fld (Rd.own m0) (ty rfl) rfl ?_; refine S_q rfl rfl rfl (Q_len rfl rfl rfl rfl rfl rfl) ?_; refine S_q rfl rfl rfl (Q_move rfl rfl) ?_; refine OPS_nil ?_; refine then_n ?_; refine WP_block ?_))
      (refine WP_loopC (α := Nat) [106, 105, 19, 100, 99, 98, 7, 2, 0] (fun (j : Nat) => v.stubs.length - j) (fun (j : Nat) => [(107, .int .i64 (j : Int))]) (fun hh (j : Nat) => le h3 hh ∧ j ≤ v.stubs.length ∧ (v.stubs.drop j).any (badStub vs live v) = v.stubs.any (badStub vs live v)) 0 ⟨_, _, rfl, ⟨_, _, rfl, ⟨_, _, rfl, ⟨_, _, rfl, ⟨_, _, rfl, ⟨_, _, rfl, ⟨_, _, rfl, ⟨_, _, rfl, ⟨_, _, rfl, rfl, rfl⟩, rfl⟩, rfl⟩, rfl⟩, rfl⟩, rfl⟩, rfl⟩, rfl⟩, rfl⟩ (by repeat' (first | exact trivial | refine ⟨rfl, ?_⟩)) ?_ ?_)
      · exact ⟨le_refl _, Nat.zero_le _, rfl⟩
      rintro h4 j _ ⟨hl4, hj, ht2⟩
      (replace it15_2 := it15_2.up hl4; replace a5_k := a5_k.up hl4; replace a4_k := a4_k.up hl4; replace hL := hL.up hl4; replace a2_k := a2_k.up hl4; replace ff0_5 := ff0_5.up hl4; replace hs := hs.up hl4; replace f0_6 := f0_6.up hl4; replace fg0_2 := fg0_2.up hl4; replace vo23_2 := vo23_2.up hl4; replace vs23_2 := vs23_2.up hl4; replace vc23_2 := vc23_2.up hl4; replace vn23_2 := vn23_2.up hl4; replace vm23_2 := vm23_2.up hl4; replace vf23_2 := vf23_2.up hl4; replace vr23_2 := vr23_2.up hl4)
      by_cases hlt2 : j < v.stubs.length
      · obtain ⟨x, ex⟩ := get_of hlt2
        have hod2 := any_drop (p := badStub vs live v) ex
        rw [ht2] at hod2
        have hbd := badStub_def vs live v x
        (focus (refine WP_seq ?_; refine R_region ?_; refine S_q rfl rfl rfl (Q_cmp rfl rfl rfl rfl) ?_; refine OPS_nil ?_; refine then_n ?_; refine WP_seq ?_; refine WP_cond rfl (fun c26_1 => ?_) (fun c26_1 => ?_) <;> (first | (simp [*] at c26_1; done) | (try simp at c26_1)); refine WP_skip ?_; refine then_n ?_; refine WP_seq ?_; refine WP_block ?_; refine WP_seq ?_; refine R_region ?_; refine S_q rfl rfl rfl (Q_indexS (by assumption) (by assumption) rfl rfl rfl (elm rfl) rfl) ?_; refine S_load rfl rfl rfl rfl rfl ?_; refine L_elA (by assumption) (by assumption) (ty rfl) ?_; rintro _ _ _ ⟨xa26_2, xb26_2, xc26_2, xd26_2, xe26_2, xf26_2, rfl⟩; refine S_c rfl rfl rfl (C_alloc rfl (zer rfl) ?_); intro b26_3; refine S_w0 rfl rfl (W_all rfl rfl rfl (ty rfl) u0 (by first | rfl | assumption) (by first | rfl | assumption) (by first | rfl | assumption | exact ones_sub (by assumption) _ _) ?_); refine OPS_nil ?_; refine then_n ?_; refine WP_seq ?_; refine WP_seq ?_; refine R_region ?_; refine S_q rfl rfl rfl (Q_fieldAddr rfl rfl (fld rfl rfl)) ?_; refine S_load rfl rfl rfl rfl rfl ?_; refine L_fld (Rd.own m0) (ty rfl) rfl ?_; refine S_q rfl rfl rfl (Q_move rfl rfl) ?_; refine S_gsplit rfl rfl rfl rfl (fun c26_4 => ?_) (fun c26_4 => ?_) <;> (first | (simp [*] at c26_4; done) | (try simp at c26_4)); (focus (refine S_gn rfl rfl rfl rfl rfl rfl ?_; refine S_gn rfl rfl rfl rfl rfl rfl ?_; refine S_q rfl rfl rfl (Q_pick_t rfl rfl rfl) ?_; refine S_q rfl rfl rfl (Q_move rfl rfl) ?_; refine S_gn rfl rfl rfl rfl rfl rfl ?_; refine S_gn rfl rfl rfl rfl rfl rfl ?_; refine S_gn rfl rfl rfl rfl rfl rfl ?_; refine S_gn rfl rfl rfl rfl rfl rfl ?_; refine S_gn rfl rfl rfl rfl rfl rfl ?_; refine S_q rfl rfl rfl (Q_pick_t rfl rfl rfl) ?_; refine OPS_nil ?_; refine then_n ?_; refine cond_t rfl ?_; refine WP_exit ?_; refine then_e ?_; refine block_e ?_; refine then_n ?_; refine R_region ?_; refine S_q rfl rfl rfl (Q_add rfl rfl rfl (by omega)) ?_; refine S_q rfl rfl rfl (Q_move rfl rfl) ?_; refine OPS_nil ?_)); rotate_left 1; (focus (refine S_gq rfl rfl rfl rfl rfl rfl (Q_fieldAddr rfl rfl (fld rfl rfl)) ?_; refine S_gload rfl rfl rfl rfl rfl rfl rfl rfl ?_; refine L_fld (Rd.own m0) (ty rfl) rfl ?_; refine S_q rfl rfl rfl (Q_pick_f rfl rfl rfl) ?_; refine S_q rfl rfl rfl (Q_move rfl rfl) ?_; refine S_gsplit rfl rfl rfl rfl (fun c26_5 => ?_) (fun c26_5 => ?_) <;> (first | (simp [*] at c26_5; done) | (try simp at c26_5)); (focus (refine S_gn rfl rfl rfl rfl rfl rfl ?_; refine S_gn rfl rfl rfl rfl rfl rfl ?_; refine S_gn rfl rfl rfl rfl rfl rfl ?_; refine S_gn rfl rfl rfl rfl rfl rfl ?_; refine S_gn rfl rfl rfl rfl rfl rfl ?_; refine S_q rfl rfl rfl (Q_pick_t rfl rfl rfl) ?_; refine OPS_nil ?_; refine then_n ?_; refine cond_t rfl ?_; refine WP_exit ?_; refine then_e ?_; refine block_e ?_; refine then_n ?_; refine R_region ?_; refine S_q rfl rfl rfl (Q_add rfl rfl rfl (by omega)) ?_; refine S_q rfl rfl rfl (Q_move rfl rfl) ?_; refine OPS_nil ?_)); rotate_left 1; (focus (refine S_gq rfl rfl rfl rfl rfl rfl (Q_move rfl rfl) ?_; refine S_gq rfl rfl rfl rfl rfl rfl (Q_fieldAddr rfl rfl (fld rfl rfl)) ?_; refine S_gload rfl rfl rfl rfl rfl rfl rfl rfl ?_; refine L_sub (Rd.own m0) (ty rfl) rfl ?_; refine S_gc rfl rfl rfl rfl rfl rfl (C_callv (has_s (x := (_, _)) (by assumption)) rfl rfl ⟨_, _, rfl, ⟨_, _, rfl, rfl, rfl⟩, rfl⟩ (cal rfl) ?_); refine S_gq rfl rfl rfl rfl rfl rfl (Q_not rfl rfl) ?_; refine S_q rfl rfl rfl (Q_pick_f rfl rfl rfl) ?_; refine OPS_nil ?_; refine then_n ?_; refine WP_cond rfl (fun c26_6 => ?_) (fun c26_6 => ?_) <;> (first | (simp [*] at c26_6; done) | (try simp at c26_6)); (focus (refine WP_exit ?_; refine then_e ?_; refine block_e ?_; refine then_n ?_; refine R_region ?_; refine S_q rfl rfl rfl (Q_add rfl rfl rfl (by omega)) ?_; refine S_q rfl rfl rfl (Q_move rfl rfl) ?_; refine OPS_nil ?_)); rotate_left 1; (focus (refine WP_skip ?_; refine then_n ?_; refine WP_seq ?_; refine R_region ?_; refine S_q rfl rfl rfl (Q_move rfl rfl) ?_; refine S_q rfl rfl rfl (Q_fieldAddr rfl rfl (fld rfl rfl)) ?_; refine S_load rfl rfl rfl rfl rfl ?_; refine L_fld (Rd.own m1) (ty rfl) rfl ?_; refine S_q rfl rfl rfl (Q_fieldAddr rfl rfl (fld rfl rfl)) ?_; refine S_load rfl rfl rfl rfl rfl ?_; refine L_sub (Rd.own m0) (ty rfl) rfl ?_; refine S_c rfl rfl rfl (C_call (follow_s (by assumption) (by omega)) rfl rfl ⟨_, _, rfl, ⟨_, _, rfl, ⟨_, _, rfl, rfl, rfl⟩, rfl⟩, rfl⟩ (cal rfl) ?_); rintro h26_7 _ l26_7 ⟨p26_7, q26_7, rfl, f26_7⟩; replace it15_2 := it15_2.up l26_7; replace a5_k := a5_k.up l26_7; replace a4_k := a4_k.up l26_7; replace hL := hL.up l26_7; replace a2_k := a2_k.up l26_7; replace ff0_5 := ff0_5.up l26_7; replace hs := hs.up l26_7; replace f0_6 := f0_6.up l26_7; replace fg0_2 := fg0_2.up l26_7; replace vo23_2 := vo23_2.up l26_7; replace vs23_2 := vs23_2.up l26_7; replace vc23_2 := vc23_2.up l26_7; replace vn23_2 := vn23_2.up l26_7; replace vm23_2 := vm23_2.up l26_7; replace vf23_2 := vf23_2.up l26_7; replace vr23_2 := vr23_2.up l26_7; refine S_q rfl rfl rfl (Q_move rfl rfl) ?_; refine S_q rfl rfl rfl (Q_extract rfl rfl rfl) ?_; refine S_q rfl rfl rfl (Q_extract rfl rfl rfl) ?_; refine S_q rfl rfl rfl (Q_assign rfl rfl) ?_; refine S_q rfl rfl rfl (Q_assign rfl rfl) ?_; refine OPS_nil ?_; refine then_n ?_; refine WP_seq ?_; refine R_region ?_; refine S_q rfl rfl rfl (Q_move rfl rfl) ?_; refine S_q rfl rfl rfl (Q_cmp rfl rfl rfl rfl) ?_; refine OPS_nil ?_; refine then_n ?_; refine WP_cond rfl (fun c26_8 => ?_) (fun c26_8 => ?_) <;> (first | (simp [*] at c26_8; done) | (try simp at c26_8)); (focus (refine WP_seq ?_; refine R_region ?_; refine S_w0 rfl rfl (W_one rfl rfl rfl (ty rfl) u2 rfl rfl rfl ?_); refine OPS_nil ?_; refine then_n ?_; refine WP_ret ?_; refine block_r ?_; refine then_r ?_; refine roundF_r ?_; refine block_r ?_; refine block_r ?_; refine then_r ?_; refine roundF_r ?_; refine block_r ?_; refine then_r ?_)); rotate_left 1; (focus (refine WP_skip ?_; refine block_n ?_; refine then_n ?_; refine R_region ?_; refine S_q rfl rfl rfl (Q_add rfl rfl rfl (by omega)) ?_; refine S_q rfl rfl rfl (Q_move rfl rfl) ?_; refine OPS_nil ?_)); rotate_left 1)); rotate_left 2)); rotate_left 3)); rotate_left 4))
        · rw [c26_4] at hbd
          refine roundF_n (j + 1) (by omega) ⟨hl4, by omega, ?_⟩ (by repeat' (first | exact List.Sublist.refl _ | exact List.sublist_append_left _ _ | exact List.nil_sublist _ | apply List.Sublist.cons₂ | apply List.Sublist.cons)) (by repeat' (first | exact trivial | refine ⟨rfl, ?_⟩))
          rw [hod2, hbd]; rfl
        · rw [c26_4, c26_5] at hbd
          refine roundF_n (j + 1) (by omega) ⟨hl4, by omega, ?_⟩ (by repeat' (first | exact List.Sublist.refl _ | exact List.sublist_append_left _ _ | exact List.nil_sublist _ | apply List.Sublist.cons₂ | apply List.Sublist.cons)) (by repeat' (first | exact trivial | refine ⟨rfl, ?_⟩))
          rw [hod2, hbd]; rfl
        · rw [c26_4, c26_5, decide_eq_false (p := x.id ∈ live) c26_6] at hbd
          refine roundF_n (j + 1) (by omega) ⟨hl4, by omega, ?_⟩ (by repeat' (first | exact List.Sublist.refl _ | exact List.sublist_append_left _ _ | exact List.nil_sublist _ | apply List.Sublist.cons₂ | apply List.Sublist.cons)) (by repeat' (first | exact trivial | refine ⟨rfl, ?_⟩))
          rw [hod2, hbd]; rfl
        · rw [c26_4, c26_5, decide_eq_true (p := x.id ∈ live) c26_6, decide_eq_true (p := (followOf vs v.machine x.id).2 ≠ 0) c26_8] at hbd
          refine nretP [_, _, _] (List.Sublist.refl _) (.inl rfl) rfl ⟨_, _, _, rfl, Loads_one (Rd.own m2) (ty rfl), rfl, rfl⟩ ?_
          simp only [resOf]; rw [hod, hod2, hbd]; rfl
        · rw [c26_4, c26_5, decide_eq_true (p := x.id ∈ live) c26_6, decide_eq_false (p := (followOf vs v.machine x.id).2 ≠ 0) (fun e => e c26_8)] at hbd
          refine roundF_n (j + 1) (by omega) ⟨le_trans hl4 l26_7, by omega, ?_⟩ (by repeat' (first | exact List.Sublist.refl _ | exact List.sublist_append_left _ _ | exact List.nil_sublist _ | apply List.Sublist.cons₂ | apply List.Sublist.cons)) (by repeat' (first | exact trivial | refine ⟨rfl, ?_⟩))
          rw [hod2, hbd]; rfl
      have hge : j = v.stubs.length := by omega
      subst hge
      rw [List.drop_length] at ht2
      (focus (refine WP_seq ?_; refine R_region ?_; refine S_q rfl rfl rfl (Q_cmp rfl rfl rfl rfl) ?_; refine OPS_nil ?_; refine then_n ?_; refine WP_seq ?_; refine WP_cond rfl (fun c27_1 => ?_) (fun c27_1 => ?_) <;> (first | (simp [*] at c27_1; done) | (try simp at c27_1)); refine WP_exit ?_; refine then_e ?_; refine roundF_e ?_; refine block_e ?_; refine block_n ?_; refine then_n ?_; refine R_region ?_; refine S_q rfl rfl rfl (Q_add rfl rfl rfl (by omega)) ?_; refine S_q rfl rfl rfl (Q_move rfl rfl) ?_; refine OPS_nil ?_))
      refine roundF_n (k + 1) (by omega) ⟨le_trans hl3 hl4, by omega, ?_⟩ (by repeat' (first | exact List.Sublist.refl _ | exact List.sublist_append_left _ _ | exact List.nil_sublist _ | apply List.Sublist.cons₂ | apply List.Sublist.cons)) (by repeat' (first | exact trivial | refine ⟨rfl, ?_⟩))
      rw [hod, ← ht2]; rfl
    have hge : k = vs.length := by omega
    subst hge
    rw [List.drop_length] at ht
    rw [← ht, List.any_nil, if_neg (by simp)]
    (focus (refine WP_seq ?_; refine R_region ?_; refine S_q rfl rfl rfl (Q_cmp rfl rfl rfl rfl) ?_; refine OPS_nil ?_; refine then_n ?_; refine WP_seq ?_; refine WP_cond rfl (fun c28_1 => ?_) (fun c28_1 => ?_) <;> (first | (simp [*] at c28_1; done) | (try simp at c28_1)); refine WP_exit ?_; refine then_e ?_; refine roundF_e ?_; refine block_e ?_; refine then_n ?_; refine WP_seq ?_; refine R_region ?_; refine S_w0 rfl rfl (W_one rfl rfl rfl (ty rfl) u0 rfl rfl rfl ?_); refine OPS_nil ?_; refine then_n ?_; refine WP_ret ?_))
    refine nretP [_] (List.Sublist.refl _) (.inl rfl) rfl ⟨_, _, _, rfl, Loads_one (Rd.own m0) (ty rfl), rfl, rfl⟩ ?_
    rfl
  · rintro d e h2 L2 hl1 ⟨rfl, hsub, hany⟩ _
    refine block_r (then_r ?_)
    refine nretP [(b0_1, cells [.int .i64 6] 28)] (hsub.append (List.Sublist.refl _)) (.inl rfl) rfl ⟨_, _, _, rfl, Loads_one (Rd.own m0) (ty rfl), rfl, rfl⟩ ?_
    simp only [resOf]; rw [if_pos hany]
end Go.Proofs.YtfhoecgiahpddaaGreat
/-
  CONTRACTS: Example and awake (refmeshlaw55).
-/
set_option linter.all false
namespace Go.Proofs.YtfhoecgiahpddaaGreat
open Go.Mesh Go.RowKit
set_option maxRecDepth 100000
set_option linter.unusedVariables false
set_option maxHeartbeats 4000000
attribute [local irreducible] WP OPS ANY ANYo LG LV FSpec PSpec QOP OPc OPw thenQ blockQ roundQ roundF retQ retM Rd At SLB OS cmpI orI cmpID namedB valB nodeB kindB validG valAux idxI findG zeroV viewOf vwAt idxOf recv flyB scionOf moveOf numberedOf idOf valueOf mget mput localB carriedB stubOf followF followOf flOf flightsOf flPre setL minusL compactL putI mergeN insN insAll unionR NMap Coll retN bodyS GMap Dfs refsV refsOf reachL movedOf movedG graphParts graphR isMove flightIDs mailIDs viewIDs rawRoots rootsR reachR deadN viewObjs garbageOf garbageR objsL thereB oddB badNode lostF badStub safe1 safe2 safe3 safe4 safeR msgB sizesB smallV fewB
def exA : Nd := ⟨(1, 1), 1, 2, [(2, 0, (2, 1))]⟩
def exB : Nd := ⟨(2, 1), 3, 1, []⟩
def exB2 : Nd := ⟨(2, 1), 0, 1, []⟩
def exC : Nd := ⟨(2, 2), 0, 1, []⟩
def exV : List View := [⟨1, [exA, exB], [⟨2, 7, (2, 1), false, false⟩], [], [(1, 1)], [], [], []⟩, ⟨2, [exB2, exC], [], [⟨1, 7, (2, 1)⟩], [], [], [], []⟩]
theorem at_of {h : Frag} {b t : Nat} {l : List Value} (e : h b = some (cells l t)) : At h b 0 l := at_of_keep fun p hp => by rw [List.mem_singleton.1 hp]; exact e
theorem example_s {h : Frag} : PSpec Tryz.prog 31 #[] h (fun h' v => ∃ p c, v = .slice p exV.length c ∧ SL h' 13 (ViewC 4398046511104) (.slice p exV.length c) exV) := by
  refine pspec_of (vs := []) Tryz.func31 Tryz.ntmps31 rfl rfl ?_
  (focus (refine WP_seq ?_; refine R_region ?_; refine S_q rfl rfl rfl (Q_assign rfl rfl) ?_; refine OPS_nil ?_; refine then_n ?_; refine WP_seq ?_; refine R_region ?_; refine S_q rfl rfl rfl (Q_build rfl (by decide +kernel) (zer rfl) ⟨_, _, _, _, _, _, _, rfl, fld rfl rfl, ty rfl, rfl, rfl, ⟨_, _, _, _, _, _, _, rfl, fld rfl rfl, ty rfl, rfl, rfl, rfl, rfl⟩, rfl⟩ rfl) ?_; refine S_q rfl rfl rfl (Q_build rfl (by decide +kernel) (zer rfl) ⟨_, _, _, _, _, _, _, rfl, fld rfl rfl, ty rfl, rfl, rfl, ⟨_, _, _, _, _, _, _, rfl, fld rfl rfl, ty rfl, rfl, rfl, rfl, rfl⟩, rfl⟩ rfl) ?_; refine S_q rfl rfl rfl (Q_build rfl (by decide +kernel) (zer rfl) ⟨_, _, _, _, _, _, _, rfl, fld rfl rfl, ty rfl, rfl, rfl, ⟨_, _, _, _, _, _, _, rfl, fld rfl rfl, ty rfl, rfl, rfl, rfl, rfl⟩, rfl⟩ rfl) ?_; refine S_c rfl rfl rfl (C_alloc rfl (zer rfl) ?_); intro b0_1; refine S_c rfl rfl rfl (C_alloc rfl (zer rfl) ?_); intro b0_2; refine S_c rfl rfl rfl (C_alloc rfl (zer rfl) ?_); intro b0_3; refine S_w0 rfl rfl (W_all rfl rfl rfl (ty rfl) u2 (by first | rfl | assumption) (by first | rfl | assumption) (by first | rfl | assumption | exact ones_sub (by assumption) _ _) ?_); refine S_w0 rfl rfl (W_all rfl rfl rfl (ty rfl) u1 (by first | rfl | assumption) (by first | rfl | assumption) (by first | rfl | assumption | exact ones_sub (by assumption) _ _) ?_); refine S_w0 rfl rfl (W_all rfl rfl rfl (ty rfl) u0 (by first | rfl | assumption) (by first | rfl | assumption) (by first | rfl | assumption | exact ones_sub (by assumption) _ _) ?_); refine OPS_nil ?_; refine then_n ?_; refine WP_seq ?_; refine R_region ?_; refine S_load rfl rfl rfl rfl rfl ?_; refine L_agg (Rd.own m2) (ty rfl) (by first | rfl | assumption) ?_; refine S_load rfl rfl rfl rfl rfl ?_; refine L_agg (Rd.own m1) (ty rfl) (by first | rfl | assumption) ?_; refine S_q rfl rfl rfl (Q_build rfl (by decide +kernel) (zer rfl) ⟨_, _, _, _, _, _, _, rfl, fld rfl rfl, ty rfl, rfl, rfl, ⟨_, _, _, _, _, _, _, rfl, fld rfl rfl, ty rfl, rfl, rfl, rfl, rfl⟩, rfl⟩ rfl) ?_; refine S_c rfl rfl rfl (C_buildSlice rfl (elm rfl) (zer rfl) rfl ⟨_, _, _, rfl, rfl, rfl, rfl, rfl, rfl⟩ rfl rfl ?_); intro b0_4; refine S_q rfl rfl rfl (Q_build rfl (by decide +kernel) (zer rfl) ⟨_, _, _, _, _, _, _, rfl, fld rfl rfl, ty rfl, rfl, rfl, ⟨_, _, _, _, _, _, _, rfl, fld rfl rfl, ty rfl, rfl, rfl, ⟨_, _, _, _, _, _, _, rfl, fld rfl rfl, ty rfl, rfl, rfl, ⟨_, _, _, _, _, _, _, rfl, fld rfl rfl, ty rfl, rfl, rfl, rfl, rfl⟩, rfl⟩, rfl⟩, rfl⟩ rfl) ?_; refine S_load rfl rfl rfl rfl rfl ?_; refine L_agg (Rd.own m2) (ty rfl) (by first | rfl | assumption) ?_; refine S_q rfl rfl rfl (Q_build rfl (by decide +kernel) (zer rfl) ⟨_, _, _, _, _, _, _, rfl, fld rfl rfl, ty rfl, rfl, rfl, ⟨_, _, _, _, _, _, _, rfl, fld rfl rfl, ty rfl, rfl, rfl, ⟨_, _, _, _, _, _, _, rfl, fld rfl rfl, ty rfl, rfl, rfl, rfl, rfl⟩, rfl⟩, rfl⟩ rfl) ?_; refine S_c rfl rfl rfl (C_buildSlice rfl (elm rfl) (zer rfl) rfl ⟨_, _, _, rfl, rfl, rfl, rfl, ⟨_, _, _, rfl, rfl, rfl, rfl, rfl, rfl⟩, rfl⟩ rfl rfl ?_); intro b0_5; refine S_q rfl rfl rfl (Q_build rfl (by decide +kernel) (zer rfl) ⟨_, _, _, _, _, _, _, rfl, fld rfl rfl, ty rfl, rfl, rfl, rfl, rfl⟩ rfl) ?_; refine S_load rfl rfl rfl rfl rfl ?_; refine L_agg (Rd.own m3) (ty rfl) (by first | rfl | assumption) ?_; refine S_q rfl rfl rfl (Q_build rfl (by decide +kernel) (zer rfl) ⟨_, _, _, _, _, _, _, rfl, fld rfl rfl, ty rfl, rfl, rfl, ⟨_, _, _, _, _, _, _, rfl, fld rfl rfl, ty rfl, rfl, rfl, ⟨_, _, _, _, _, _, _, rfl, fld rfl rfl, ty rfl, rfl, rfl, ⟨_, _, _, _, _, _, _, rfl, fld rfl rfl, ty rfl, rfl, rfl, rfl, rfl⟩, rfl⟩, rfl⟩, rfl⟩ rfl) ?_; refine S_c rfl rfl rfl (C_buildSlice rfl (elm rfl) (zer rfl) rfl ⟨_, _, _, rfl, rfl, rfl, rfl, rfl, rfl⟩ rfl rfl ?_); intro b0_6; refine S_load rfl rfl rfl rfl rfl ?_; refine L_agg (Rd.own m5) (ty rfl) (by first | rfl | assumption) ?_; refine S_q rfl rfl rfl (Q_build rfl (by decide +kernel) (zer rfl) ⟨_, _, _, _, _, _, _, rfl, fld rfl rfl, ty rfl, rfl, rfl, ⟨_, _, _, _, _, _, _, rfl, fld rfl rfl, ty rfl, rfl, rfl, rfl, rfl⟩, rfl⟩ rfl) ?_; refine S_c rfl rfl rfl (C_buildSlice rfl (elm rfl) (zer rfl) rfl ⟨_, _, _, rfl, rfl, rfl, rfl, rfl, rfl⟩ rfl rfl ?_); intro b0_7; refine S_q rfl rfl rfl (Q_build rfl (by decide +kernel) (zer rfl) ⟨_, _, _, _, _, _, _, rfl, fld rfl rfl, ty rfl, rfl, rfl, ⟨_, _, _, _, _, _, _, rfl, fld rfl rfl, ty rfl, rfl, rfl, ⟨_, _, _, _, _, _, _, rfl, fld rfl rfl, ty rfl, rfl, rfl, ⟨_, _, _, _, _, _, _, rfl, fld rfl rfl, ty rfl, rfl, rfl, rfl, rfl⟩, rfl⟩, rfl⟩, rfl⟩ rfl) ?_; refine S_load rfl rfl rfl rfl rfl ?_; refine L_agg (Rd.own m5) (ty rfl) (by first | rfl | assumption) ?_; refine S_q rfl rfl rfl (Q_build rfl (by decide +kernel) (zer rfl) ⟨_, _, _, _, _, _, _, rfl, fld rfl rfl, ty rfl, rfl, rfl, ⟨_, _, _, _, _, _, _, rfl, fld rfl rfl, ty rfl, rfl, rfl, rfl, rfl⟩, rfl⟩ rfl) ?_; refine S_load rfl rfl rfl rfl rfl ?_; refine L_agg (Rd.own m4) (ty rfl) (by first | rfl | assumption) ?_; refine S_q rfl rfl rfl (Q_build rfl (by decide +kernel) (zer rfl) ⟨_, _, _, _, _, _, _, rfl, fld rfl rfl, ty rfl, rfl, rfl, ⟨_, _, _, _, _, _, _, rfl, fld rfl rfl, ty rfl, rfl, rfl, rfl, rfl⟩, rfl⟩ rfl) ?_; refine S_c rfl rfl rfl (C_buildSlice rfl (elm rfl) (zer rfl) rfl ⟨_, _, _, rfl, rfl, rfl, rfl, ⟨_, _, _, rfl, rfl, rfl, rfl, rfl, rfl⟩, rfl⟩ rfl rfl ?_); intro b0_8; refine S_q rfl rfl rfl (Q_build rfl (by decide +kernel) (zer rfl) ⟨_, _, _, _, _, _, _, rfl, fld rfl rfl, ty rfl, rfl, rfl, rfl, rfl⟩ rfl) ?_; refine S_load rfl rfl rfl rfl rfl ?_; refine L_agg (Rd.own m6) (ty rfl) (by first | rfl | assumption) ?_; refine S_q rfl rfl rfl (Q_build rfl (by decide +kernel) (zer rfl) ⟨_, _, _, _, _, _, _, rfl, fld rfl rfl, ty rfl, rfl, rfl, ⟨_, _, _, _, _, _, _, rfl, fld rfl rfl, ty rfl, rfl, rfl, ⟨_, _, _, _, _, _, _, rfl, fld rfl rfl, ty rfl, rfl, rfl, rfl, rfl⟩, rfl⟩, rfl⟩ rfl) ?_; refine S_c rfl rfl rfl (C_buildSlice rfl (elm rfl) (zer rfl) rfl ⟨_, _, _, rfl, rfl, rfl, rfl, rfl, rfl⟩ rfl rfl ?_); intro b0_9; refine S_q rfl rfl rfl (Q_build rfl (by decide +kernel) (zer rfl) ⟨_, _, _, _, _, _, _, rfl, fld rfl rfl, ty rfl, rfl, rfl, ⟨_, _, _, _, _, _, _, rfl, fld rfl rfl, ty rfl, rfl, rfl, ⟨_, _, _, _, _, _, _, rfl, fld rfl rfl, ty rfl, rfl, rfl, rfl, rfl⟩, rfl⟩, rfl⟩ rfl) ?_; refine S_c rfl rfl rfl (C_buildSlice rfl (elm rfl) (zer rfl) rfl ⟨_, _, _, rfl, rfl, rfl, rfl, ⟨_, _, _, rfl, rfl, rfl, rfl, rfl, rfl⟩, rfl⟩ rfl rfl ?_); intro b0_10; refine S_q rfl rfl rfl (Q_assign rfl rfl) ?_; refine OPS_nil ?_; refine then_n ?_; refine WP_ret ?_))
  refine pretK [] _ rfl (.inl rfl) rfl ⟨_, _, rfl, rfl, rfl⟩ fun h' hl' hm => ?_
  have e10 := hm _ m0
  have e9 := hm _ m1
  have e8 := hm _ m2
  have e7 := hm _ m3
  have e6 := hm _ m4
  have e5 := hm _ m5
  have e4 := hm _ m6
  clear hm
  have s4 : SL h' 4 ValC (.slice (some ⟨b0_4, 0, none⟩) 1 1) exA.fields := slb_of_at (at_of e4) (Flat.one rfl rfl rfl) (by decide)
  have s5 : SL h' 5 (NodeC 4398046511104) (.slice (some ⟨b0_5, 0, none⟩) 2 2) [exA, exB] := slb_of_at (at_of e5) (Flat.append (Flat.one rfl rfl ⟨_, _, rfl, s4⟩) (Flat.one rfl rfl ⟨_, _, rfl, SLB.nil _ _ _ _ _ _⟩)) (by decide)
  have s6 : SL h' 12 StubC (.slice (some ⟨b0_6, 0, none⟩) 1 1) [⟨2, 7, (2, 1), false, false⟩] := slb_of_at (at_of e6) (Flat.one rfl rfl ⟨_, _, _, _, _, _, rfl⟩) (by decide)
  have s7 : SL h' 3 NamedC (.slice (some ⟨b0_7, 0, none⟩) 1 1) [(1, 1)] := slb_of_at (at_of e7) (Flat.one rfl rfl ⟨_, rfl⟩) (by decide)
  have s8 : SL h' 5 (NodeC 4398046511104) (.slice (some ⟨b0_8, 0, none⟩) 2 2) [exB2, exC] := slb_of_at (at_of e8) (Flat.append (Flat.one rfl rfl ⟨_, _, rfl, SLB.nil _ _ _ _ _ _⟩) (Flat.one rfl rfl ⟨_, _, rfl, SLB.nil _ _ _ _ _ _⟩)) (by decide)
  have s9 : SL h' 12 ScionC (.slice (some ⟨b0_9, 0, none⟩) 1 1) [⟨1, 7, (2, 1)⟩] := slb_of_at (at_of e9) (Flat.one rfl rfl ⟨_, _, _, _, _, _, _, _, rfl⟩) (by decide)
  refine ⟨some ⟨b0_10, 0, none⟩, 2, rfl, slb_of_at (at_of e10) (Flat.append (Flat.one rfl rfl ⟨by unfold inI64; decide, _, _, _, _, _, _, _, _, _, _, _, _, _, _, _, _, _, _, _, rfl, s5, s6, ?_, s7, ?_, ?_, ?_⟩) (Flat.one rfl rfl ⟨by unfold inI64; decide, _, _, _, _, _, _, _, _, _, _, _, _, _, _, _, _, _, _, _, rfl, s8, ?_, s9, ?_, ?_, ?_, ?_⟩)) (by decide)⟩
  all_goals exact SLB.nil _ _ _ _ _ _
end Go.Proofs.YtfhoecgiahpddaaGreat
/-
  CONTRACT: awake (refmeshlaw55): the example of the chapter.
-/
set_option linter.all false
namespace Go.Proofs.YtfhoecgiahpddaaGreat
open Go.Mesh Go.RowKit
set_option maxRecDepth 100000
set_option linter.unusedVariables false
set_option maxHeartbeats 4000000
attribute [local irreducible] WP OPS ANY ANYo LG LV FSpec PSpec QOP OPc OPw thenQ blockQ roundQ roundF retQ retM Rd At SLB OS cmpI orI cmpID namedB valB nodeB kindB validG valAux idxI findG zeroV viewOf vwAt idxOf recv flyB scionOf moveOf numberedOf idOf valueOf mget mput localB carriedB stubOf followF followOf flOf flightsOf flPre setL minusL compactL putI mergeN insN insAll unionR NMap Coll retN bodyS GMap Dfs refsV refsOf reachL movedOf movedG graphParts graphR isMove flightIDs mailIDs viewIDs rawRoots rootsR reachR deadN viewObjs garbageOf garbageR objsL thereB oddB badNode lostF badStub safe1 safe2 safe3 safe4 safeR msgB sizesB smallV fewB
theorem ex_graph : graphR exV = ([exA, exB2, exC], 0) := by decide +kernel
theorem ex_roots : rootsR exV = [(1, 1)] := by decide +kernel
theorem ex_follow : followOf exV 1 (2, 1) = ([1, 2], 0) := by decide +kernel
theorem ex_reach : reachL [exA, exB2, exC] [(1, 1)] = [(1, 1), (2, 1)] := by
  refine SI_unique (SI_reachL _ _) (by unfold SI; decide +kernel) fun x => ?_
  rw [mem_reachL]
  have h1 : findG [exA, exB2, exC] (1, 1) = some exA := by decide +kernel
  have h2 : findG [exA, exB2, exC] (2, 1) = some exB2 := by decide +kernel
  have r1 : Reach [exA, exB2, exC] [(1, 1)] (1, 1) := .root (by simp) h1
  have r2 : Reach [exA, exB2, exC] [(1, 1)] (2, 1) := .step r1 h1 (by decide +kernel) h2
  constructor
  · intro h
    induction h with
    | root h1 _ => simp at h1; simp [h1]
    | step _ hm hx _ ih =>
      simp only [List.mem_cons, List.not_mem_nil, or_false] at ih
      rcases ih with rfl | rfl
      · rw [h1] at hm; cases hm
        have : refsOf exA = [(2, 1)] := by decide +kernel
        rw [this] at hx; simp at hx; simp [hx]
      · rw [h2] at hm; cases hm
        have : refsOf exB2 = [] := by decide +kernel
        rw [this] at hx; simp at hx
  · intro h
    simp only [List.mem_cons, List.not_mem_nil, or_false] at h
    rcases h with rfl | rfl
    · exact r1
    · exact r2
theorem ex_reachR : reachR exV = [(1, 1), (2, 1)] := by rw [reachR, ex_graph, ex_roots]; exact ex_reach
theorem ex_garbage : garbageR exV = 1 := by rw [garbageR, ex_reachR]; decide +kernel
theorem ex_safe : safeR exV = 0 := by rw [safeR, ex_graph, ex_roots, ex_reach]; decide +kernel
theorem ex_small : Small exV where
  len := by decide
  objs := by decide
  stubs := by decide
  scions := by decide
  names := by decide
  mail := by decide
  flights := by decide
  received := by decide
  fields := by decide
  args := by decide
  letter := by decide
  moved := by decide
  pmail := by decide
  pargs := by decide
theorem awake_s {h : Frag} : PSpec Tryz.prog 9 #[] h (fun _ v => v = .bool true) := by
  have hsm := ex_small
  have hlen := hsm.len
  have hr := ex_reachR
  refine pspec_of (vs := []) Tryz.func9 Tryz.ntmps9 rfl rfl ?_
  (focus (refine WP_seq ?_; refine R_region ?_; refine S_q rfl rfl rfl (Q_assign rfl rfl) ?_; refine OPS_nil ?_; refine then_n ?_; refine WP_seq ?_; refine R_region ?_; refine S_c rfl rfl rfl (C_call (example_s) rfl rfl rfl (cal rfl) ?_); rintro h0_1 _ l0_1 ⟨pe0_1, qe0_1, rfl, fe0_1⟩; refine S_q rfl rfl rfl (Q_assign rfl rfl) ?_; refine OPS_nil ?_; refine then_n ?_; refine WP_seq ?_; refine R_region ?_; refine S_q rfl rfl rfl (Q_move rfl rfl) ?_; refine S_q rfl rfl rfl (Q_build rfl (by decide +kernel) (zer rfl) ⟨_, _, _, _, _, _, _, rfl, fld rfl rfl, ty rfl, rfl, rfl, ⟨_, _, _, _, _, _, _, rfl, fld rfl rfl, ty rfl, rfl, rfl, rfl, rfl⟩, rfl⟩ rfl) ?_; refine S_c rfl rfl rfl (C_call (follow_s (id := (_, _)) (by assumption) (by omega)) rfl rfl ⟨_, _, rfl, ⟨_, _, rfl, ⟨_, _, rfl, rfl, rfl⟩, rfl⟩, rfl⟩ (cal rfl) ?_); rintro h0_2 _ l0_2 ⟨p0_2, q0_2, rfl, f0_2⟩; replace fe0_1 := fe0_1.up l0_2; refine S_q rfl rfl rfl (Q_move rfl rfl) ?_; refine S_q rfl rfl rfl (Q_extract rfl rfl rfl) ?_; refine S_q rfl rfl rfl (Q_extract rfl rfl rfl) ?_; refine S_q rfl rfl rfl (Q_assign rfl rfl) ?_; refine S_q rfl rfl rfl (Q_assign rfl rfl) ?_; refine OPS_nil ?_; refine then_n ?_; refine WP_seq ?_; refine R_region ?_; refine S_q rfl rfl rfl (Q_move rfl rfl) ?_; refine S_c rfl rfl rfl (C_call (graph_s (by assumption) (by assumption)) rfl rfl ⟨_, _, rfl, rfl, rfl⟩ (cal rfl) ?_); rintro h0_3 _ l0_3 ⟨_, rfl, pg0_3, qg0_3, rfl, fg0_3⟩; replace f0_2 := f0_2.up l0_3; replace fe0_1 := fe0_1.up l0_3; refine S_q rfl rfl rfl (Q_move rfl rfl) ?_; refine S_q rfl rfl rfl (Q_extract rfl rfl rfl) ?_; refine S_q rfl rfl rfl (Q_extract rfl rfl rfl) ?_; refine S_c rfl rfl rfl (C_alloc rfl (zer rfl) ?_); intro b0_4; refine S_w0 rfl rfl (W_all rfl rfl rfl (ty rfl) u0 (by first | rfl | assumption) (by first | rfl | assumption) (by first | rfl | assumption | exact ones_sub (by assumption) _ _) ?_); refine S_q rfl rfl rfl (Q_assign rfl rfl) ?_; refine OPS_nil ?_; refine then_n ?_; refine WP_seq ?_; refine R_region ?_; refine S_q rfl rfl rfl (Q_move rfl rfl) ?_; refine S_q rfl rfl rfl (Q_cmp rfl rfl rfl rfl) ?_; refine S_q rfl rfl rfl (Q_move rfl rfl) ?_; refine S_gsplit rfl rfl rfl rfl (fun c0_5 => ?_) (fun c0_5 => ?_) <;> (first | (simp [*] at c0_5; done) | (try simp at c0_5)); (focus (refine S_gq rfl rfl rfl rfl rfl rfl (Q_move rfl rfl) ?_; refine S_gc rfl rfl rfl rfl rfl rfl (C_buildSlice rfl (elm rfl) (zer rfl) rfl ⟨_, _, _, rfl, rfl, rfl, rfl, ⟨_, _, _, rfl, rfl, rfl, rfl, rfl, rfl⟩, rfl⟩ rfl rfl ?_); intro b0_6)); rotate_left 1; (focus (refine S_gn rfl rfl rfl rfl rfl rfl ?_; refine S_gn rfl rfl rfl rfl rfl rfl ?_; refine S_gn rfl rfl rfl rfl rfl rfl ?_; refine S_q rfl rfl rfl (Q_pick_f rfl rfl rfl) ?_; refine S_q rfl rfl rfl (Q_move rfl rfl) ?_; refine S_gn rfl rfl rfl rfl rfl rfl ?_; refine S_gn rfl rfl rfl rfl rfl rfl ?_; refine S_gn rfl rfl rfl rfl rfl rfl ?_; refine S_gn rfl rfl rfl rfl rfl rfl ?_; refine S_q rfl rfl rfl (Q_pick_f rfl rfl rfl) ?_; refine S_q rfl rfl rfl (Q_move rfl rfl) ?_; refine S_gn rfl rfl rfl rfl rfl rfl ?_; refine S_gn rfl rfl rfl rfl rfl rfl ?_; refine S_gn rfl rfl rfl rfl rfl rfl ?_; refine S_q rfl rfl rfl (Q_pick_f rfl rfl rfl) ?_; refine S_q rfl rfl rfl (Q_move rfl rfl) ?_; refine S_gn rfl rfl rfl rfl rfl rfl ?_; refine S_gn rfl rfl rfl rfl rfl rfl ?_; refine S_q rfl rfl rfl (Q_pick_f rfl rfl rfl) ?_; refine S_q rfl rfl rfl (Q_move rfl rfl) ?_; refine S_gn rfl rfl rfl rfl rfl rfl ?_; refine S_gn rfl rfl rfl rfl rfl rfl ?_; refine S_gn rfl rfl rfl rfl rfl rfl ?_; refine S_gn rfl rfl rfl rfl rfl rfl ?_; refine S_q rfl rfl rfl (Q_pick_f rfl rfl rfl) ?_; refine S_q rfl rfl rfl (Q_move rfl rfl) ?_; refine S_gn rfl rfl rfl rfl rfl rfl ?_; refine S_gn rfl rfl rfl rfl rfl rfl ?_; refine S_gn rfl rfl rfl rfl rfl rfl ?_; refine S_q rfl rfl rfl (Q_pick_f rfl rfl rfl) ?_; refine S_q rfl rfl rfl (Q_assign rfl rfl) ?_; refine OPS_nil ?_; refine then_n ?_; refine WP_ret ?_)); rotate_left 1))
  · (focus (refine OPS_keepM [] [_] _ rfl ?_; rintro h1_k l1_k k1_k; have a1_k := at_of_keep k1_k; clear k1_k; replace fg0_3 := fg0_3.up l1_k; replace f0_2 := f0_2.up l1_k; replace fe0_1 := fe0_1.up l1_k))
    have hy : SL h1_k 1 IntC (.slice (some ⟨b0_6, 0, none⟩) 2 2) [1, 2] := slb_of_at a1_k (Flat.append (Flat.one rfl rfl rfl) (Flat.one rfl rfl rfl)) (by decide)
    refine S_gc rfl rfl rfl rfl rfl rfl (C_callv (ints_s f0_2 hy) rfl rfl ⟨_, _, rfl, ⟨_, _, rfl, rfl, rfl⟩, rfl⟩ (cal rfl) ?_)
    (focus (refine S_q rfl rfl rfl (Q_pick_t rfl rfl rfl) ?_; refine S_q rfl rfl rfl (Q_move rfl rfl) ?_; refine S_gsplit rfl rfl rfl rfl (fun c2_1 => ?_) (fun c2_1 => ?_) <;> (first | (simp [*] at c2_1; done) | (try simp at c2_1)); (focus (refine S_gq rfl rfl rfl rfl rfl rfl (Q_move rfl rfl) ?_; refine S_gc rfl rfl rfl rfl rfl rfl (C_call (reachable_s (by assumption) (by assumption)) rfl rfl ⟨_, _, rfl, rfl, rfl⟩ (cal rfl) ?_); rintro h2_2 _ l2_2 ⟨p2_2, q2_2, rfl, f2_2⟩; replace a1_k := a1_k.up l2_2; replace fg0_3 := fg0_3.up l2_2; replace f0_2 := f0_2.up l2_2; replace fe0_1 := fe0_1.up l2_2; replace hy := hy.up l2_2; refine S_gq rfl rfl rfl rfl rfl rfl (Q_len rfl rfl rfl rfl rfl rfl) ?_; refine S_gq rfl rfl rfl rfl rfl rfl (Q_cmp rfl rfl rfl rfl) ?_; refine S_q rfl rfl rfl (Q_pick_t rfl rfl rfl) ?_; refine S_q rfl rfl rfl (Q_move rfl rfl) ?_; refine S_gsplit rfl rfl rfl rfl (fun c2_3 => ?_) (fun c2_3 => ?_) <;> (first | (simp [*] at c2_3; done) | (try simp at c2_3)); refine S_gq rfl rfl rfl rfl rfl rfl (Q_move rfl rfl) ?_; refine S_gc rfl rfl rfl rfl rfl rfl (C_callv (garbage_s (by assumption) (by assumption)) rfl rfl ⟨_, _, rfl, rfl, rfl⟩ (cal rfl) ?_); refine S_gq rfl rfl rfl rfl rfl rfl (Q_cmp rfl rfl rfl rfl) ?_; refine S_q rfl rfl rfl (Q_pick_t rfl rfl rfl) ?_; refine S_q rfl rfl rfl (Q_move rfl rfl) ?_; refine S_gsplit rfl rfl rfl rfl (fun c2_4 => ?_) (fun c2_4 => ?_) <;> (first | (simp [*] at c2_4; done) | (try simp at c2_4)); (focus (refine S_gq rfl rfl rfl rfl rfl rfl (Q_move rfl rfl) ?_; refine S_gq rfl rfl rfl rfl rfl rfl (Q_cmp rfl rfl rfl rfl) ?_; refine S_q rfl rfl rfl (Q_pick_t rfl rfl rfl) ?_; refine S_q rfl rfl rfl (Q_move rfl rfl) ?_; refine S_gsplit rfl rfl rfl rfl (fun c2_5 => ?_) (fun c2_5 => ?_) <;> (first | (simp [*] at c2_5; done) | (try simp at c2_5)); (focus (refine S_gq rfl rfl rfl rfl rfl rfl (Q_fieldAddr rfl rfl (fld rfl rfl)) ?_; refine S_gload rfl rfl rfl rfl rfl rfl rfl rfl ?_; refine L_one (Rd.own m0) (ty rfl) ?_; refine S_gq rfl rfl rfl rfl rfl rfl (Q_len rfl rfl rfl rfl rfl rfl) ?_; refine S_gq rfl rfl rfl rfl rfl rfl (Q_cmp rfl rfl rfl rfl) ?_; refine S_q rfl rfl rfl (Q_pick_t rfl rfl rfl) ?_; refine S_q rfl rfl rfl (Q_move rfl rfl) ?_; refine S_gsplit rfl rfl rfl rfl (fun c2_6 => ?_) (fun c2_6 => ?_) <;> (first | (simp [*] at c2_6; done) | (try simp at c2_6)); (focus (refine S_gq rfl rfl rfl rfl rfl rfl (Q_move rfl rfl) ?_; refine S_gc rfl rfl rfl rfl rfl rfl (C_callv (safe_s (by assumption) (by assumption)) rfl rfl ⟨_, _, rfl, rfl, rfl⟩ (cal rfl) ?_); refine S_gq rfl rfl rfl rfl rfl rfl (Q_cmp rfl rfl rfl rfl) ?_; refine S_q rfl rfl rfl (Q_pick_t rfl rfl rfl) ?_; refine S_q rfl rfl rfl (Q_assign rfl rfl) ?_; refine OPS_nil ?_; refine then_n ?_; refine WP_ret ?_)); rotate_left 1; (focus (refine S_gn rfl rfl rfl rfl rfl rfl ?_; refine S_gn rfl rfl rfl rfl rfl rfl ?_; refine S_gn rfl rfl rfl rfl rfl rfl ?_; refine S_q rfl rfl rfl (Q_pick_f rfl rfl rfl) ?_; refine S_q rfl rfl rfl (Q_assign rfl rfl) ?_; refine OPS_nil ?_; refine then_n ?_; refine WP_ret ?_)); rotate_left 1)); rotate_left 2; (focus (refine S_gn rfl rfl rfl rfl rfl rfl ?_; refine S_gn rfl rfl rfl rfl rfl rfl ?_; refine S_gn rfl rfl rfl rfl rfl rfl ?_; refine S_gn rfl rfl rfl rfl rfl rfl ?_; refine S_q rfl rfl rfl (Q_pick_f rfl rfl rfl) ?_; refine S_q rfl rfl rfl (Q_move rfl rfl) ?_; refine S_gn rfl rfl rfl rfl rfl rfl ?_; refine S_gn rfl rfl rfl rfl rfl rfl ?_; refine S_gn rfl rfl rfl rfl rfl rfl ?_; refine S_q rfl rfl rfl (Q_pick_f rfl rfl rfl) ?_; refine S_q rfl rfl rfl (Q_assign rfl rfl) ?_; refine OPS_nil ?_; refine then_n ?_; refine WP_ret ?_)); rotate_left 1)); rotate_left 3; (focus (refine S_gn rfl rfl rfl rfl rfl rfl ?_; refine S_gn rfl rfl rfl rfl rfl rfl ?_; refine S_q rfl rfl rfl (Q_pick_f rfl rfl rfl) ?_; refine S_q rfl rfl rfl (Q_move rfl rfl) ?_; refine S_gn rfl rfl rfl rfl rfl rfl ?_; refine S_gn rfl rfl rfl rfl rfl rfl ?_; refine S_gn rfl rfl rfl rfl rfl rfl ?_; refine S_gn rfl rfl rfl rfl rfl rfl ?_; refine S_q rfl rfl rfl (Q_pick_f rfl rfl rfl) ?_; refine S_q rfl rfl rfl (Q_move rfl rfl) ?_; refine S_gn rfl rfl rfl rfl rfl rfl ?_; refine S_gn rfl rfl rfl rfl rfl rfl ?_; refine S_gn rfl rfl rfl rfl rfl rfl ?_; refine S_q rfl rfl rfl (Q_pick_f rfl rfl rfl) ?_; refine S_q rfl rfl rfl (Q_assign rfl rfl) ?_; refine OPS_nil ?_; refine then_n ?_; refine WP_ret ?_)); rotate_left 1)); rotate_left 4; (focus (refine S_gn rfl rfl rfl rfl rfl rfl ?_; refine S_gn rfl rfl rfl rfl rfl rfl ?_; refine S_gn rfl rfl rfl rfl rfl rfl ?_; refine S_gn rfl rfl rfl rfl rfl rfl ?_; refine S_q rfl rfl rfl (Q_pick_f rfl rfl rfl) ?_; refine S_q rfl rfl rfl (Q_move rfl rfl) ?_; refine S_gn rfl rfl rfl rfl rfl rfl ?_; refine S_gn rfl rfl rfl rfl rfl rfl ?_; refine S_gn rfl rfl rfl rfl rfl rfl ?_; refine S_q rfl rfl rfl (Q_pick_f rfl rfl rfl) ?_; refine S_q rfl rfl rfl (Q_move rfl rfl) ?_; refine S_gn rfl rfl rfl rfl rfl rfl ?_; refine S_gn rfl rfl rfl rfl rfl rfl ?_; refine S_q rfl rfl rfl (Q_pick_f rfl rfl rfl) ?_; refine S_q rfl rfl rfl (Q_move rfl rfl) ?_; refine S_gn rfl rfl rfl rfl rfl rfl ?_; refine S_gn rfl rfl rfl rfl rfl rfl ?_; refine S_gn rfl rfl rfl rfl rfl rfl ?_; refine S_gn rfl rfl rfl rfl rfl rfl ?_; refine S_q rfl rfl rfl (Q_pick_f rfl rfl rfl) ?_; refine S_q rfl rfl rfl (Q_move rfl rfl) ?_; refine S_gn rfl rfl rfl rfl rfl rfl ?_; refine S_gn rfl rfl rfl rfl rfl rfl ?_; refine S_gn rfl rfl rfl rfl rfl rfl ?_; refine S_q rfl rfl rfl (Q_pick_f rfl rfl rfl) ?_; refine S_q rfl rfl rfl (Q_assign rfl rfl) ?_; refine OPS_nil ?_; refine then_n ?_; refine WP_ret ?_)); rotate_left 1))
    · refine pret (.inl rfl) rfl ⟨_, _, rfl, rfl, rfl⟩ ?_
      simp only [resOf]; rw [ex_safe]; rfl
    · exact absurd (by rw [ex_graph]; rfl) c2_6
    · exact absurd (by rw [ex_graph]) c2_5
    · exact absurd (by rw [ex_garbage]; rfl) c2_4
    · exact absurd (by rw [ex_follow]) c2_1
  · exact absurd (by rw [ex_follow]) c0_5
end Go.Proofs.YtfhoecgiahpddaaGreat
/-
  WHAT THE LAWS SHARE: small views are few and small; maps of identities to true.
-/
set_option linter.all false
namespace Go.Proofs.YtfhoecgiahpddaaGreat
open Go.Mesh Go.RowKit
set_option maxRecDepth 100000
set_option linter.unusedVariables false
set_option maxHeartbeats 4000000
attribute [local irreducible] WP OPS ANY ANYo LG LV FSpec PSpec QOP OPc OPw thenQ blockQ roundQ roundF retQ retM Rd At SLB OS cmpI orI cmpID namedB valB nodeB kindB validG valAux idxI findG zeroV viewOf vwAt idxOf recv flyB scionOf moveOf numberedOf idOf valueOf mget mput localB carriedB stubOf followF followOf flOf flightsOf flPre setL minusL compactL putI mergeN insN insAll unionR NMap Coll retN bodyS GMap Dfs refsV refsOf reachL movedOf movedG graphParts graphR isMove flightIDs mailIDs viewIDs rawRoots rootsR reachR deadN viewObjs garbageOf garbageR objsL thereB oddB badNode lostF badStub safe1 safe2 safe3 safe4 safeR msgB sizesB smallV fewB
theorem SLB.cast {α : Type} {B B' : Nat} {h : Frag} {k : Nat} {C C' : CR α} {v : Value} {xs : List α} (x : SLB B h k C v xs) (hl : xs.length ≤ B') (hc : ∀ y, y ∈ xs → ∀ cs, C h y cs → C' h y cs) : SLB B' h k C' v xs := by
  unfold SLB at x ⊢
  obtain ⟨_, ⟨p, cap, e, rfl⟩ | ⟨b, off, cap, e, g⟩⟩ := x
  · exact ⟨hl, .inl ⟨p, cap, e, rfl⟩⟩
  · refine ⟨hl, .inr ⟨b, off, cap, e, fun i y hy => ?_⟩⟩
    obtain ⟨vs, h1, h2, h3, h4⟩ := g i y hy
    exact ⟨vs, h1, h2, hc y (List.mem_of_getElem? hy) vs h3, h4⟩
theorem few_small {vs : List View} (h : fewB vs = true) : Small vs := by
  rw [fewB, Bool.and_eq_true, decide_eq_true_eq] at h
  obtain ⟨h, hl⟩ := h
  rw [List.all_eq_true] at h
  have hv : ∀ v, v ∈ vs → (v.objects.length ≤ 12 ∧ v.stubs.length ≤ 12 ∧ v.scions.length ≤ 12 ∧ v.names.length ≤ 6 ∧ v.mail.length ≤ 6 ∧ v.flights.length ≤ 6 ∧ v.received.length ≤ 10) ∧ (∀ n, n ∈ v.objects → n.fields.length ≤ 6) ∧ (∀ m, m ∈ v.mail → m.args.length ≤ 6) ∧
      ∀ x, x ∈ v.flights → x.msg.args.length ≤ 6 ∧ x.msg.parcel.fields.length ≤ 6 ∧ x.msg.parcel.mail.length ≤ 4 ∧ ∀ l, l ∈ x.msg.parcel.mail → l.length ≤ 6 := by
    intro v hv
    have := h v hv
    simp only [smallV, sizesB, Bool.and_eq_true, List.all_eq_true, decide_eq_true_eq, msgB] at this
    obtain ⟨h1, h2, h3, h4⟩ := this
    exact ⟨h1, h2, h3, h4⟩
  exact ⟨hl, fun v m => (hv v m).1.1, fun v m => (hv v m).1.2.1, fun v m => (hv v m).1.2.2.1, fun v m => (hv v m).1.2.2.2.1, fun v m => (hv v m).1.2.2.2.2.1, fun v m => (hv v m).1.2.2.2.2.2.1, fun v m => (hv v m).1.2.2.2.2.2.2,
    fun v m => (hv v m).2.1, fun v m => (hv v m).2.2.1, fun v m x hx => ((hv v m).2.2.2 x hx).1, fun v m x hx => ((hv v m).2.2.2 x hx).2.1, fun v m x hx => ((hv v m).2.2.2 x hx).2.2.1, fun v m x hx => ((hv v m).2.2.2 x hx).2.2.2⟩
theorem NodeC.cast {B B' : Nat} {h : Frag} {n : Nd} {cs : List Value} (x : NodeC B h n cs) (hl : n.fields.length ≤ B') : NodeC B' h n cs := by
  obtain ⟨p, c, e, s⟩ := x
  exact ⟨p, c, e, SLB.cast s hl fun _ _ _ y => y⟩
theorem slb_small {h : Frag} {a : Value} {vs : List View} (hs : SLB 9223372036854775807 h 13 (ViewC 9223372036854775807) a vs) (sm : Small vs) : SL h 13 (ViewC 4398046511104) a vs := by
  refine SLB.cast hs (Nat.le_trans sm.len (by decide)) fun v hv cs hc => ?_
  obtain ⟨hi, xa, po, qo, qs, qt, pc, qc, pn, qn, pm, qm, xw, xv, pf, qf, pr, qr, xe, xf, rfl, s1, s2, s3, s4, s5, s6, s7⟩ := hc
  have l1 := sm.objs v hv
  have l2 := sm.stubs v hv
  have l3 := sm.scions v hv
  have l4 := sm.names v hv
  have l5 := sm.mail v hv
  have l6 := sm.flights v hv
  have l7 := sm.received v hv
  refine ⟨hi, xa, po, qo, qs, qt, pc, qc, pn, qn, pm, qm, xw, xv, pf, qf, pr, qr, xe, xf, rfl, ?_, ?_, ?_, ?_, ?_, ?_, ?_⟩
  · exact SLB.cast s1 (by omega) fun n hn cs hc => NodeC.cast hc (Nat.le_trans (sm.fields v hv n hn) (by decide))
  · exact SLB.cast s2 (by omega) fun _ _ _ y => y
  · exact SLB.cast s3 (by omega) fun _ _ _ y => y
  · exact SLB.cast s4 (by omega) fun _ _ _ y => y
  · refine SLB.cast s5 (by omega) fun m hm cs hc => ?_
    obtain ⟨a, b, m', p, c, e, s⟩ := hc
    exact ⟨a, b, m', p, c, e, SLB.cast s (Nat.le_trans (sm.args v hv m hm) (by decide)) fun _ _ _ y => y⟩
  · refine SLB.cast s6 (by omega) fun x hx cs hc => ?_
    obtain ⟨a1, a2, b1, b2, b3, pa, qa, pf, qf, pm, qm, wv, y1, y2, y3, y4, y5, y6, y7, y8, y9, y10, y11, y12, y13, y14, y15, e, t1, t2, t3⟩ := hc
    refine ⟨a1, a2, b1, b2, b3, pa, qa, pf, qf, pm, qm, wv, y1, y2, y3, y4, y5, y6, y7, y8, y9, y10, y11, y12, y13, y14, y15, e, ?_, ?_, ?_⟩
    · exact SLB.cast t1 (Nat.le_trans (sm.letter v hv x hx) (by decide)) fun _ _ _ y => y
    · exact SLB.cast t2 (Nat.le_trans (sm.moved v hv x hx) (by decide)) fun _ _ _ y => y
    · refine SLB.cast t3 (Nat.le_trans (sm.pmail v hv x hx) (by decide)) fun l hl cs hc => ?_
      obtain ⟨a, b, m, p, c, e, s⟩ := hc
      exact ⟨a, b, m, p, c, e, SLB.cast s (Nat.le_trans (sm.pargs v hv x hx l hl) (by decide)) fun _ _ _ y => y⟩
  · exact SLB.cast s7 (by omega) fun _ _ _ y => y
/-- a map in which what is in s is true -/
def BMap (ps : List (ID × Value)) (s : List ID) : Prop := ∀ id, mget id ps = if id ∈ s then some (.bool true) else none
theorem BMap_nil : BMap [] [] := fun id => by simp [mget]
theorem BMap_put {ps : List (ID × Value)} {s : List ID} (x : BMap ps s) (id : ID) : BMap (mput id (.bool true) ps) (s ++ [id]) := fun k => by
  rw [mget_mput, x k]
  by_cases h1 : id = k
  · subst h1; simp
  · by_cases h2 : k ∈ s
    · simp [h1, h2]
    · simp [h1, h2, Ne.symm h1]
theorem BMap_at {ps : List (ID × Value)} {s : List ID} (x : BMap ps s) {i : Nat} {k : ID} {v : Value} (h : ps[i]? = some (k, v)) : k ∈ s := by
  have := x k
  by_cases hk : k ∈ s
  · exact hk
  · rw [if_neg hk] at this
    exact absurd (List.mem_map.2 ⟨_, List.mem_of_getElem? h, rfl⟩) (mget_none_keys this)
theorem BMap_get {ps : List (ID × Value)} {s : List ID} (x : BMap ps s) {id : ID} (h : id ∈ s) : mget id ps = some (.bool true) := by rw [x id, if_pos h]
/-- the places of a map that a range has come by -/
def Seen (n : Nat) (seen : List Nat) : Prop := seen.Nodup ∧ ∀ i, i ∈ seen → i < n
theorem Seen_nil (n : Nat) : Seen n [] := ⟨List.nodup_nil, by simp⟩
theorem Seen_snoc {n i : Nat} {seen : List Nat} (x : Seen n seen) (hi : i ∉ seen) (hn : i < n) : Seen n (seen ++ [i]) := by
  refine ⟨?_, fun j hj => ?_⟩
  · rw [List.nodup_append]
    exact ⟨x.1, by simp, fun a ha b hb e => hi (by simp at hb; subst hb; subst e; exact ha)⟩
  · rcases List.mem_append.1 hj with h | h
    · exact x.2 j h
    · simp at h; omega
theorem Seen_le {n : Nat} {seen : List Nat} (x : Seen n seen) : seen.length ≤ n := by
  have := nodup_subN seen (List.range n) x.1 fun i hi => List.mem_range.2 (x.2 i hi)
  simpa using this
attribute [local irreducible] BMap Seen
end Go.Proofs.YtfhoecgiahpddaaGreat
