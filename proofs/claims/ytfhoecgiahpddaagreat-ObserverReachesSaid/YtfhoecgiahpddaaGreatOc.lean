/-
  CONTRACTS: observer.Reachable, observer.Garbage, observer.Home.
-/
import Derived.Test.YtfhoecgiahpddaaGreatOb
import Derived.Test.YtfhoecgiahpddaaGreatRules7
set_option linter.all false
namespace Go.Proofs.YtfhoecgiahpddaaGreat
open Go.Mesh Go.RowKit
set_option maxRecDepth 100000
set_option linter.unusedVariables false
set_option maxHeartbeats 4000000
attribute [local irreducible] WP OPS ANY ANYo LG LV FSpec PSpec QOP OPc OPw thenQ blockQ roundQ roundF retQ retM Rd At SLB OS cmpI orI cmpID namedB valB nodeB kindB validG valAux idxI findG zeroV viewOf vwAt idxOf recv flyB scionOf moveOf numberedOf idOf valueOf mget mput localB carriedB stubOf followF followOf flOf flightsOf flPre setL minusL compactL putI mergeN insN insAll unionR NMap Coll retN bodyS GMap Dfs refsV refsOf reachL movedOf movedG graphParts graphR isMove flightIDs mailIDs viewIDs rawRoots rootsR
theorem mergeN_or {o n m : Nd} (h : mergeN o n = some m) : m = o ∨ m = n := by
  unfold mergeN at h
  grind
theorem insN_mem {l l' : List Nd} {n : Nd} (hs : SN l) (h : insN l n = some l') : SN l' ∧ l'.length ≤ l.length + 1 ∧ ∀ z, z ∈ l' → z = n ∨ z ∈ l := by
  have k := insN_spec (n := n) hs
  cases hf : findG l n.id with
  | none =>
    rw [hf] at k
    obtain ⟨l2, e1, e2, e3, e4, _⟩ := k
    rw [h] at e1; cases e1
    exact ⟨e2, by omega, e4⟩
  | some o =>
    rw [hf] at k
    cases hm : mergeN o n with
    | none => simp only [hm] at k; rw [h] at k; cases k
    | some m =>
      simp only [hm] at k
      obtain ⟨l2, e1, e2, e3, e4, _⟩ := k
      rw [h] at e1; cases e1
      refine ⟨e2, by omega, fun z hz => ?_⟩
      rcases e4 z hz with rfl | hz
      · rcases mergeN_or hm with rfl | rfl
        · exact .inr (findG_some hf).1
        · exact .inl rfl
      · exact .inr hz
theorem insAll_mem : ∀ {r acc l' : List Nd}, SN acc → insAll acc r = some l' → SN l' ∧ l'.length ≤ acc.length + r.length ∧ ∀ z, z ∈ l' → z ∈ acc ∨ z ∈ r
  | [], acc, l', hs, h => by
    unfold insAll at h
    cases h
    exact ⟨hs, by simp, fun z hz => .inl hz⟩
  | n :: r, acc, l', hs, h => by
    unfold insAll at h
    cases hi : insN acc n with
    | none => rw [hi] at h; cases h
    | some a =>
      rw [hi] at h
      obtain ⟨h1, h2, h3⟩ := insN_mem hs hi
      obtain ⟨k1, k2, k3⟩ := insAll_mem h1 h
      refine ⟨k1, by simp only [List.length_cons]; omega, fun z hz => ?_⟩
      rcases k3 z hz with hz | hz
      · rcases h3 z hz with rfl | hz
        · exact .inr (by simp)
        · exact .inl hz
      · exact .inr (by simp [hz])
theorem unionR_mem (l : List (List Nd)) : SN (unionR l).1 ∧ (unionR l).1.length ≤ l.flatten.length ∧ ∀ z, z ∈ (unionR l).1 → z ∈ l.flatten := by
  unfold unionR
  split
  · cases hi : insAll [] l.flatten with
    | none => exact ⟨by simp [resU, SN], by simp [resU], by simp [resU]⟩
    | some a =>
      obtain ⟨k1, k2, k3⟩ := insAll_mem List.Pairwise.nil hi
      refine ⟨k1, by simpa [resU] using k2, fun z hz => ?_⟩
      rcases k3 z hz with h | h
      · simp at h
      · exact h
  · exact ⟨by simp [SN], by simp, by simp⟩
theorem Small.graph {vs : List View} (s : Small vs) : SN (graphR vs).1 ∧ (graphR vs).1.length ≤ 1000000 ∧ ∀ n, n ∈ (graphR vs).1 → n.fields.length ≤ 1000 := by
  obtain ⟨h1, h2, h3⟩ := unionR_mem (graphParts vs)
  rw [graphR]
  refine ⟨h1, Nat.le_trans h2 s.parts, fun n hn => ?_⟩
  have := h3 n hn
  rw [graphParts, List.flatten_append, List.mem_append] at this
  rcases this with h | h
  · simp only [List.mem_flatten, List.mem_map] at h
    obtain ⟨_, ⟨v, hv, rfl⟩, hn⟩ := h
    have := s.fields v hv n hn; omega
  · simp only [movedG, List.mem_flatten, List.mem_map, List.mem_filter] at h
    obtain ⟨_, ⟨i, ⟨hi, _⟩, rfl⟩, hn⟩ := h
    obtain ⟨hv, hx⟩ := flightsOf_mem hi
    have := s.moved _ hv _ hx
    simp only [List.mem_singleton] at hn
    subst hn
    simp only [movedOf, List.length_map]; omega
/-- what the fleet reaches -/
noncomputable def reachR (vs : List View) : List ID := if (graphR vs).2 = 0 then reachL (graphR vs).1 (rootsR vs) else []
theorem Small.reach {vs : List View} (s : Small vs) : (reachR vs).length ≤ 1000000 := by
  unfold reachR
  split
  · exact Nat.le_trans (reachL_length _ _) s.graph.2.1
  · simp
attribute [local irreducible] reachR
theorem reachable_s {h : Frag} {a : Value} {vs : List View} (hs : SL h 13 (ViewC 4398046511104) a vs) (sm : Small vs) : PSpec Tryz.prog 12 #[a] h (fun h' v => ∃ p c, v = .slice p (reachR vs).length c ∧ SL h' 2 IDC (.slice p (reachR vs).length c) (reachR vs)) := by
  obtain ⟨_, hgl, hgf⟩ := sm.graph
  have hrl := roots_len sm
  have hrr := sm.reach
  refine pspec_of (vs := [a]) Tryz.func12 Tryz.ntmps12 rfl rfl ?_
  (focus (refine WP_seq ?_; refine R_region ?_; refine S_q rfl rfl rfl (Q_assign rfl rfl) ?_; refine OPS_nil ?_; refine then_n ?_; refine WP_seq ?_; refine R_region ?_; refine S_q rfl rfl rfl (Q_move rfl rfl) ?_; refine S_c rfl rfl rfl (C_call (graph_s (by assumption) (by assumption)) rfl rfl ⟨_, _, rfl, rfl, rfl⟩ (cal rfl) ?_); rintro h0_1 _ l0_1 ⟨_, rfl, pg0_1, qg0_1, rfl, fg0_1⟩; replace hs := hs.up l0_1; refine S_q rfl rfl rfl (Q_move rfl rfl) ?_; refine S_q rfl rfl rfl (Q_extract rfl rfl rfl) ?_; refine S_q rfl rfl rfl (Q_extract rfl rfl rfl) ?_; refine S_c rfl rfl rfl (C_alloc rfl (zer rfl) ?_); intro b0_2; refine S_w0 rfl rfl (W_all rfl rfl rfl (ty rfl) u0 (by first | rfl | assumption) (by first | rfl | assumption) (by first | rfl | assumption | exact ones_sub (by assumption) _ _) ?_); refine S_q rfl rfl rfl (Q_assign rfl rfl) ?_; refine OPS_nil ?_; refine then_n ?_; refine WP_seq ?_; refine WP_seq ?_; refine R_region ?_; refine S_q rfl rfl rfl (Q_move rfl rfl) ?_; refine S_q rfl rfl rfl (Q_cmp rfl rfl rfl rfl) ?_; refine OPS_nil ?_; refine then_n ?_; refine WP_cond rfl (fun c0_3 => ?_) (fun c0_3 => ?_) <;> (first | (simp [*] at c0_3; done) | (try simp at c0_3)); (focus (refine WP_seq ?_; refine R_region ?_; refine S_q rfl rfl rfl (Q_assign rfl rfl) ?_; refine OPS_nil ?_; refine then_n ?_; refine WP_ret ?_; refine then_r ?_)); rotate_left 1; (focus (refine WP_skip ?_; refine then_n ?_; refine WP_seq ?_; refine R_draw (n := 5) mixed rfl ?_; refine A_at 0 rfl rfl ?_; refine A_load (m' := 1) rfl rfl rfl rfl rfl rfl (by decide +kernel) ?_; refine L_agg (Rd.own m0) (ty rfl) (by first | rfl | assumption) ?_; refine A_at 1 rfl rfl ?_; refine A_q (m' := 3) rfl rfl rfl (Q_move rfl rfl) rfl (by decide +kernel) ?_; refine A_at 2 rfl rfl ?_; refine A_c (m' := 7) rfl rfl rfl rfl (by decide +kernel) (C_call (roots_s (by assumption) (by assumption)) rfl rfl ⟨_, _, rfl, rfl, rfl⟩ (cal rfl) ?_); rintro h0_4 _ l0_4 ⟨p0_4, q0_4, rfl, f0_4⟩; replace fg0_1 := fg0_1.up l0_4; replace hs := hs.up l0_4; refine A_at 3 rfl rfl ?_; refine A_c (m' := 15) rfl rfl rfl rfl (by decide +kernel) (C_callF (reach_s ⟨_, _, rfl, by assumption⟩ (by assumption) (by omega) (by omega) (by assumption)) rfl rfl ⟨_, _, rfl, ⟨_, _, rfl, rfl, rfl⟩, rfl⟩ (cal rfl) ?_); rintro h0_5 m0_5 _ l0_5 ⟨p0_5, q0_5, rfl, o0_5⟩; replace f0_4 := f0_4.up l0_5; replace fg0_1 := fg0_1.up l0_5; replace hs := hs.up l0_5; refine A_at 4 rfl rfl ?_; refine A_q (m' := 31) rfl rfl rfl (Q_assign rfl rfl) rfl (by decide +kernel) ?_; refine A_done (by decide +kernel) ?_; refine then_n ?_; refine WP_ret ?_)); rotate_left 1))
  · refine pret (.inl rfl) rfl ⟨_, _, rfl, rfl, rfl⟩ ?_
    rw [reachR, if_neg c0_3]
    exact ⟨_, _, rfl, SLB.nil _ _ _ _ _ _⟩
  · have hre : reachR vs = reachL (graphR vs).1 (rootsR vs) := by rw [reachR, if_pos c0_3]
    rw [hre] at hrr ⊢
    refine pretKM [] m0_5 _ rfl (.inl rfl) rfl ⟨_, _, rfl, rfl, rfl⟩ fun h' hl' hm => ?_
    exact ⟨_, _, rfl, o0_5.sl hl' IDC_mono hm (by omega)⟩
/-- how many are not reached -/
noncomputable def deadN (live : List ID) (l : List ID) : Nat := (l.filter fun x => !decide (x ∈ live)).length
def objsL (l : List Nd) : List ID := (l.filter fun n => decide (n.kind ≠ 3)).map (·.id)
def viewObjs (v : View) : List ID := objsL v.objects
noncomputable def garbageOf (live : List ID) (v : View) : Nat := deadN live (viewObjs v) + deadN live (v.stubs.map (·.id)) + deadN live (v.scions.map (·.id))
noncomputable def garbageR (vs : List View) : Nat := (vs.map (garbageOf (reachR vs))).sum
theorem deadN_nil (live : List ID) : deadN live [] = 0 := rfl
theorem deadN_snoc (live l : List ID) (x : ID) : deadN live (l ++ [x]) = deadN live l + (if x ∈ live then 0 else 1) := by
  rw [deadN, deadN, List.filter_append, List.length_append]
  by_cases h : x ∈ live <;> simp [h]
theorem deadN_le (live l : List ID) : deadN live l ≤ l.length := by rw [deadN]; exact List.length_filter_le _ _
theorem viewObjs_le (v : View) : (viewObjs v).length ≤ v.objects.length := by rw [viewObjs, objsL, List.length_map]; exact List.length_filter_le _ _
theorem garbageOf_le {vs : List View} (s : Small vs) (live : List ID) {v : View} (hv : v ∈ vs) : garbageOf live v ≤ 36 := by
  have h1 := deadN_le live (viewObjs v)
  have h2 := deadN_le live (v.stubs.map (·.id))
  have h3 := deadN_le live (v.scions.map (·.id))
  have h4 := viewObjs_le v
  have h5 := s.objs v hv
  have h6 := s.stubs v hv
  have h7 := s.scions v hv
  rw [List.length_map] at h2 h3
  rw [garbageOf]; omega
theorem sum_le (f : View → Nat) (k : Nat) : ∀ l : List View, (∀ v, v ∈ l → f v ≤ k) → (l.map f).sum ≤ l.length * k
  | [], _ => by simp
  | v :: l, h => by
    have h1 := h v (by simp)
    have h2 := sum_le f k l fun w hw => h w (by simp [hw])
    simp only [List.map_cons, List.sum_cons, List.length_cons, Nat.add_mul, Nat.one_mul]; omega
theorem sum_take (f : View → Nat) {l : List View} {k : Nat} {v : View} (hv : l[k]? = some v) : ((l.take (k + 1)).map f).sum = ((l.take k).map f).sum + f v := by
  rw [List.take_add_one, hv]; simp
theorem objsL_take {l : List Nd} {j : Nat} {n : Nd} (hn : l[j]? = some n) : objsL (l.take (j + 1)) = objsL (l.take j) ++ (if n.kind = 3 then [] else [n.id]) := by
  rw [objsL, objsL, List.take_add_one, hn]
  by_cases h : n.kind = 3 <;> simp [h]
theorem mapid_take {α : Type} (f : α → ID) {l : List α} {j : Nat} {n : α} (hn : l[j]? = some n) : (l.take (j + 1)).map f = (l.take j).map f ++ [f n] := by
  rw [List.take_add_one, hn]; simp
theorem deadN_take_le (live l : List ID) (k : Nat) (h : l.length ≤ k) : deadN live l ≤ k := Nat.le_trans (deadN_le live l) h
theorem objsL_le (l : List Nd) : (objsL l).length ≤ l.length := by rw [objsL, List.length_map]; exact List.length_filter_le _ _
theorem viewObjs_def (v : View) : viewObjs v = objsL v.objects := rfl
theorem garbageOf_def (live : List ID) (v : View) : garbageOf live v = deadN live (viewObjs v) + deadN live (v.stubs.map (·.id)) + deadN live (v.scions.map (·.id)) := rfl
theorem objsL_nil : objsL [] = [] := rfl
attribute [local irreducible] deadN viewObjs garbageOf garbageR objsL
theorem garbage1_s {h : Frag} {a : Value} {live : List ID} {x : ID} {b3 b4 n : Nat} (h3 : At h b3 0 [a]) (hl : SL h 2 IDC a live) (hn : n ≤ 1000000) : FSpec Tryz.prog 70 #[.agg (idc x).toArray, ptr b3 0, ptr b4 0] h [(b4, cells [.int .i64 (n : Int)] 3)]
    (fun h' L' _ => h' = h ∧ L' = [(b4, cells [.int .i64 ((n + (if x ∈ live then 0 else 1) : Nat) : Int)] 3)]) := by
  obtain ⟨x1, x2⟩ := x
  refine spec_of (vs := [.agg (idc (x1, x2)).toArray, ptr b3 0, ptr b4 0]) Tryz.func70 Tryz.ntmps70 rfl rfl rfl ?_
  (focus (refine WP_seq ?_; refine R_region ?_; refine S_c rfl rfl rfl (C_box rfl rfl ?_); intro b0_1; refine OPS_nil ?_; refine then_n ?_; refine WP_seq ?_; refine R_region ?_; refine S_load rfl rfl rfl rfl rfl ?_; refine L_one (Rd.pers (by assumption)) (ty rfl) ?_; refine S_load rfl rfl rfl rfl rfl ?_; refine L_agg (Rd.own m0) (ty rfl) (by first | rfl | assumption) ?_; refine S_c rfl rfl rfl (C_callv (has_s (x := (_, _)) (by assumption)) rfl rfl ⟨_, _, rfl, ⟨_, _, rfl, rfl, rfl⟩, rfl⟩ (cal rfl) ?_); refine S_q rfl rfl rfl (Q_not rfl rfl) ?_; refine OPS_nil ?_; refine then_n ?_; refine WP_cond rfl (fun c0_2 => ?_) (fun c0_2 => ?_) <;> (first | (simp [*] at c0_2; done) | (try simp at c0_2)); (focus (refine R_region ?_; refine S_load rfl rfl rfl rfl rfl ?_; refine L_one (Rd.own m1) (ty rfl) ?_; refine S_q rfl rfl rfl (Q_add rfl rfl rfl (by omega)) ?_; refine S_w0 rfl rfl (W_one rfl rfl rfl (ty rfl) u1 rfl rfl rfl ?_); refine OPS_nil ?_)); rotate_left 1; (focus (refine WP_skip ?_)); rotate_left 1))
  · refine ret_q [(b4, cells [.int .i64 ((n : Int) + 1)] 3)] (.inr rfl) rfl rfl (by repeat' (first | exact List.Sublist.refl _ | exact List.sublist_append_left _ _ | exact List.nil_sublist _ | apply List.Sublist.cons₂ | apply List.Sublist.cons)) ⟨rfl, ?_⟩
    rw [if_neg c0_2]; simp
  · refine ret_q [(b4, cells [.int .i64 (n : Int)] 3)] (.inr rfl) rfl rfl (by repeat' (first | exact List.Sublist.refl _ | exact List.sublist_append_left _ _ | exact List.nil_sublist _ | apply List.Sublist.cons₂ | apply List.Sublist.cons)) ⟨rfl, ?_⟩
    rw [if_pos c0_2]; simp
theorem garbage_s {h : Frag} {a : Value} {vs : List View} (hs : SL h 13 (ViewC 4398046511104) a vs) (sm : Small vs) : PSpec Tryz.prog 27 #[a] h (fun _ v => v = .int .i64 ((garbageR vs : Nat) : Int)) := by
  have hlen := sm.len
  obtain ⟨pv, cv, rfl⟩ := hs.slice
  refine pspec_of (vs := [.slice pv vs.length cv]) Tryz.func27 Tryz.ntmps27 rfl rfl ?_
  (focus (refine WP_seq ?_; refine R_region ?_; refine S_q rfl rfl rfl (Q_assign rfl rfl) ?_; refine OPS_nil ?_; refine then_n ?_; refine WP_seq ?_; refine R_region ?_; refine S_q rfl rfl rfl (Q_move rfl rfl) ?_; refine S_c rfl rfl rfl (C_call (reachable_s (by assumption) (by assumption)) rfl rfl ⟨_, _, rfl, rfl, rfl⟩ (cal rfl) ?_); rintro h0_1 _ l0_1 ⟨p0_1, q0_1, rfl, f0_1⟩; replace hs := hs.up l0_1; refine S_c rfl rfl rfl (C_alloc rfl (zer rfl) ?_); intro b0_2; refine S_w0 rfl rfl (W_one rfl rfl rfl (ty rfl) u0 rfl rfl rfl ?_); refine OPS_nil ?_; refine then_n ?_; refine WP_seq ?_; refine R_region ?_; refine S_c rfl rfl rfl (C_alloc rfl (zer rfl) ?_); intro b0_3; refine S_w0 rfl rfl (W_one rfl rfl rfl (ty rfl) u0 rfl rfl rfl ?_); refine OPS_nil ?_; refine then_n ?_; refine WP_seq ?_; refine R_region ?_; refine S_q rfl rfl rfl (Q_makeFunc rfl rfl ⟨_, _, rfl, ⟨_, _, rfl, rfl, rfl⟩, rfl⟩) ?_; refine S_q rfl rfl rfl (Q_assign rfl rfl) ?_; refine OPS_nil ?_; refine then_n ?_; refine WP_seq ?_; refine WP_seq ?_; refine R_region ?_; refine S_q rfl rfl rfl (Q_move rfl rfl) ?_; refine S_q rfl rfl rfl (Q_len rfl rfl rfl rfl rfl rfl) ?_; refine S_q rfl rfl rfl (Q_move rfl rfl) ?_; refine OPS_nil ?_; refine then_n ?_; refine WP_block ?_))
  (focus (refine WP_keepM [_] [_] _ rfl ?_; rintro h1_k l1_k k1_k; have a1_k := at_of_keep k1_k; clear k1_k; replace f0_1 := f0_1.up l1_k; replace hs := hs.up l1_k))
  (refine WP_loopF (α := Nat × Nat) [18, 17, 5, 4] (fun (s : Nat × Nat) => vs.length - s.1) (fun (s : Nat × Nat) => [(b0_3, cells [.int .i64 (s.2 : Int)] 3)]) (fun (s : Nat × Nat) => [(19, .int .i64 (s.1 : Int))]) (fun hh (s : Nat × Nat) => hh = h1_k ∧ s.1 ≤ vs.length ∧ s.2 = ((vs.take s.1).map (garbageOf (reachR vs))).sum) (0, 0) ⟨_, _, rfl, ⟨_, _, rfl, ⟨_, _, rfl, ⟨_, _, rfl, rfl, rfl⟩, rfl⟩, rfl⟩, rfl⟩ ?_ (by repeat' (first | exact List.Sublist.refl _ | exact List.sublist_append_left _ _ | exact List.nil_sublist _ | apply List.Sublist.cons₂ | apply List.Sublist.cons)) (by repeat' (first | exact trivial | refine ⟨rfl, ?_⟩)) ?_)
  · exact ⟨rfl, Nat.zero_le _, rfl⟩
  rintro h1 ⟨k, n⟩ _ ⟨rfl, hk, hn⟩
  simp only at hk hn
  dsimp only
  have hnl : n ≤ 200 := by
    have := sum_le (garbageOf (reachR vs)) 36 (vs.take k) fun v hv => garbageOf_le sm _ (List.mem_of_mem_take hv)
    rw [List.length_take] at this
    rw [hn]; omega
  by_cases hlt : k < vs.length
  · obtain ⟨v, ev⟩ := get_of hlt
    have hvm : v ∈ vs := List.mem_of_getElem? ev
    have ho := sm.objs v hvm
    have hst := sm.stubs v hvm
    have hsc := sm.scions v hvm
    have hsum := sum_take (garbageOf (reachR vs)) ev
    (focus (refine WP_seq ?_; refine R_region ?_; refine S_q rfl rfl rfl (Q_cmp rfl rfl rfl rfl) ?_; refine OPS_nil ?_; refine then_n ?_; refine WP_seq ?_; refine WP_cond rfl (fun c3_1 => ?_) (fun c3_1 => ?_) <;> (first | (simp [*] at c3_1; done) | (try simp at c3_1)); refine WP_skip ?_; refine then_n ?_; refine WP_seq ?_; refine WP_block ?_; refine WP_seq ?_; refine R_region ?_; refine S_q rfl rfl rfl (Q_indexS (by assumption) (by assumption) rfl rfl rfl (elm rfl) rfl) ?_; refine S_load rfl rfl rfl rfl rfl ?_; refine L_elA (by assumption) (by assumption) (ty rfl) ?_; rintro _ _ _ ⟨xi3_2, xa3_2, po3_2, qo3_2, ps3_2, qs3_2, pc3_2, qc3_2, pn3_2, qn3_2, pm3_2, qm3_2, xw3_2, xv3_2, pf3_2, qf3_2, pr3_2, qr3_2, xe3_2, xf3_2, rfl, vo3_2, vs3_2, vc3_2, vn3_2, vm3_2, vf3_2, vr3_2⟩; refine S_c rfl rfl rfl (C_alloc rfl (zer rfl) ?_); intro b3_3; refine S_w0 rfl rfl (W_all rfl rfl rfl (ty rfl) u0 (by first | rfl | assumption) (by first | rfl | assumption) (by first | rfl | assumption | exact ones_sub (by assumption) _ _) ?_); refine OPS_nil ?_; refine then_n ?_; refine WP_seq ?_; refine WP_seq ?_; refine R_region ?_; refine S_q rfl rfl rfl (Q_fieldAddr rfl rfl (fld rfl rfl)) ?_; refine S_q rfl rfl rfl (Q_fieldAddr rfl rfl (fld rfl rfl)) ?_; refine S_load rfl rfl rfl rfl rfl ?_; refine L_fld2 (Rd.own m0) ?_; refine LV_1 (ty rfl) rfl ?_; refine S_q rfl rfl rfl (Q_len rfl rfl rfl rfl rfl rfl) ?_; refine S_q rfl rfl rfl (Q_move rfl rfl) ?_; refine OPS_nil ?_; refine then_n ?_; refine WP_block ?_))
    (refine WP_loopM (α := Nat × Nat) [_]  _ [26, 25, 7, 19, 18, 17, 5, 4] (fun (s : Nat × Nat) => v.objects.length - s.1) (fun (s : Nat × Nat) =>  [(b0_3, cells [.int .i64 (s.2 : Int)] 3)]) (fun (s : Nat × Nat) => [(27, .int .i64 (s.1 : Int))]) (fun hh (s : Nat × Nat) => hh = h1 ∧ s.1 ≤ v.objects.length ∧ s.2 = n + deadN (reachR vs) (objsL (v.objects.take s.1))) (0, n) rfl ⟨_, _, rfl, ⟨_, _, rfl, ⟨_, _, rfl, ⟨_, _, rfl, ⟨_, _, rfl, ⟨_, _, rfl, ⟨_, _, rfl, ⟨_, _, rfl, rfl, rfl⟩, rfl⟩, rfl⟩, rfl⟩, rfl⟩, rfl⟩, rfl⟩, rfl⟩ (by repeat' (first | exact trivial | refine ⟨rfl, ?_⟩)) ?_ ?_)
    · exact ⟨rfl, Nat.zero_le _, by simp [objsL_nil, deadN_nil]⟩
    rintro h2 ⟨j, n2⟩ _ ⟨rfl, hj, hn2⟩
    simp only at hj hn2
    dsimp only
    have hb2 := deadN_take_le (reachR vs) (objsL (v.objects.take j)) 12 (Nat.le_trans (objsL_le _) (by rw [List.length_take]; omega))
    by_cases hlt2 : j < v.objects.length
    · obtain ⟨x, ex⟩ := get_of hlt2
      have htk := objsL_take ex
      (focus (refine WP_seq ?_; refine R_region ?_; refine S_q rfl rfl rfl (Q_cmp rfl rfl rfl rfl) ?_; refine OPS_nil ?_; refine then_n ?_; refine WP_seq ?_; refine WP_cond rfl (fun c5_1 => ?_) (fun c5_1 => ?_) <;> (first | (simp [*] at c5_1; done) | (try simp at c5_1)); refine WP_skip ?_; refine then_n ?_; refine WP_seq ?_; refine WP_block ?_; refine WP_seq ?_; refine R_region ?_; refine S_q rfl rfl rfl (Q_indexS (by assumption) (by assumption) rfl rfl rfl (elm rfl) rfl) ?_; refine S_load rfl rfl rfl rfl rfl ?_; refine L_elA (by assumption) (by assumption) (ty rfl) ?_; rintro _ _ _ ⟨pn5_2, qn5_2, rfl, fn5_2⟩; refine S_c rfl rfl rfl (C_alloc rfl (zer rfl) ?_); intro b5_3; refine S_w0 rfl rfl (W_all rfl rfl rfl (ty rfl) u0 (by first | rfl | assumption) (by first | rfl | assumption) (by first | rfl | assumption | exact ones_sub (by assumption) _ _) ?_); refine OPS_nil ?_; refine then_n ?_; refine WP_seq ?_; refine R_region ?_; refine S_q rfl rfl rfl (Q_fieldAddr rfl rfl (fld rfl rfl)) ?_; refine S_load rfl rfl rfl rfl rfl ?_; refine L_fld (Rd.own m0) (ty rfl) rfl ?_; refine S_q rfl rfl rfl (Q_cmp rfl rfl rfl rfl) ?_; refine OPS_nil ?_; refine then_n ?_; refine WP_cond rfl (fun c5_4 => ?_) (fun c5_4 => ?_) <;> (first | (simp [*] at c5_4; done) | (try simp at c5_4)); (focus (refine R_region ?_; refine S_q rfl rfl rfl (Q_move rfl rfl) ?_; refine S_q rfl rfl rfl (Q_fieldAddr rfl rfl (fld rfl rfl)) ?_; refine S_load rfl rfl rfl rfl rfl ?_; refine L_sub (Rd.own m0) (ty rfl) rfl ?_)); rotate_left 1; (focus (refine WP_skip ?_; refine block_n ?_; refine then_n ?_; refine R_region ?_; refine S_q rfl rfl rfl (Q_add rfl rfl rfl (by omega)) ?_; refine S_q rfl rfl rfl (Q_move rfl rfl) ?_; refine OPS_nil ?_)); rotate_left 1))
      · refine S_w rfl rfl rfl (W_callC (vs := [.agg (idc x.id).toArray]) (cap := [ptr b0_2 0, ptr b0_3 0]) [_, _] _ (garbage1_s a1_k f0_1 (by omega)) rfl rfl rfl ⟨_, _, rfl, rfl, rfl⟩ (cal rfl) rfl ?_)
        rintro hq Lq _ hlq ⟨rfl, rfl⟩
        (focus (refine OPS_nil ?_; refine block_n ?_; refine then_n ?_; refine R_region ?_; refine S_q rfl rfl rfl (Q_add rfl rfl rfl (by omega)) ?_; refine S_q rfl rfl rfl (Q_move rfl rfl) ?_; refine OPS_nil ?_))
        refine roundF_n (j + 1, _) (by simp only; omega) ⟨rfl, by simp only; omega, ?_⟩ (by repeat' (first | exact List.Sublist.refl _ | exact List.sublist_append_left _ _ | exact List.nil_sublist _ | apply List.Sublist.cons₂ | apply List.Sublist.cons)) (by repeat' (first | exact trivial | refine ⟨rfl, ?_⟩))
        simp only; rw [htk, if_neg c5_4, deadN_snoc, hn2]; omega
      · refine roundF_n (j + 1, n2) (by simp only; omega) ⟨rfl, by simp only; omega, ?_⟩ (by repeat' (first | exact List.Sublist.refl _ | exact List.sublist_append_left _ _ | exact List.nil_sublist _ | apply List.Sublist.cons₂ | apply List.Sublist.cons)) (by repeat' (first | exact trivial | refine ⟨rfl, ?_⟩))
        simp only; rw [htk, if_pos c5_4, List.append_nil, hn2]
    have hge : j = v.objects.length := by omega
    subst hge
    rw [List.take_length, ← viewObjs_def] at hn2
    rw [List.take_length, ← viewObjs_def] at hb2
    (focus (refine WP_seq ?_; refine R_region ?_; refine S_q rfl rfl rfl (Q_cmp rfl rfl rfl rfl) ?_; refine OPS_nil ?_; refine then_n ?_; refine WP_seq ?_; refine WP_cond rfl (fun c7_1 => ?_) (fun c7_1 => ?_) <;> (first | (simp [*] at c7_1; done) | (try simp at c7_1)); refine WP_exit ?_; refine then_e ?_; refine roundF_e ?_; refine block_e ?_; refine then_n ?_; refine WP_seq ?_; refine WP_seq ?_; refine R_region ?_; refine S_q rfl rfl rfl (Q_fieldAddr rfl rfl (fld rfl rfl)) ?_; refine S_load rfl rfl rfl rfl rfl ?_; refine L_fld (Rd.own m0) (ty rfl) rfl ?_; refine S_q rfl rfl rfl (Q_len rfl rfl rfl rfl rfl rfl) ?_; refine S_q rfl rfl rfl (Q_move rfl rfl) ?_; refine OPS_nil ?_; refine then_n ?_; refine WP_block ?_))
    (refine WP_loopM (α := Nat × Nat) [_]  _ [41, 40, 7, 19, 18, 17, 5, 4] (fun (s : Nat × Nat) => v.stubs.length - s.1) (fun (s : Nat × Nat) =>  [(b0_3, cells [.int .i64 (s.2 : Int)] 3)]) (fun (s : Nat × Nat) => [(42, .int .i64 (s.1 : Int))]) (fun hh (s : Nat × Nat) => hh = h2 ∧ s.1 ≤ v.stubs.length ∧ s.2 = n2 + deadN (reachR vs) ((v.stubs.take s.1).map (·.id))) (0, n2) rfl ⟨_, _, rfl, ⟨_, _, rfl, ⟨_, _, rfl, ⟨_, _, rfl, ⟨_, _, rfl, ⟨_, _, rfl, ⟨_, _, rfl, ⟨_, _, rfl, rfl, rfl⟩, rfl⟩, rfl⟩, rfl⟩, rfl⟩, rfl⟩, rfl⟩, rfl⟩ (by repeat' (first | exact trivial | refine ⟨rfl, ?_⟩)) ?_ ?_)
    · exact ⟨rfl, Nat.zero_le _, by simp [deadN_nil]⟩
    rintro h3 ⟨j, n3⟩ _ ⟨rfl, hj, hn3⟩
    simp only at hj hn3
    dsimp only
    have hb3 := deadN_take_le (reachR vs) ((v.stubs.take j).map (·.id)) 12 (by rw [List.length_map, List.length_take]; omega)
    by_cases hlt3 : j < v.stubs.length
    · obtain ⟨x, ex⟩ := get_of hlt3
      have htk := mapid_take (·.id) ex
      (focus (refine WP_seq ?_; refine R_region ?_; refine S_q rfl rfl rfl (Q_cmp rfl rfl rfl rfl) ?_; refine OPS_nil ?_; refine then_n ?_; refine WP_seq ?_; refine WP_cond rfl (fun c9_1 => ?_) (fun c9_1 => ?_) <;> (first | (simp [*] at c9_1; done) | (try simp at c9_1)); refine WP_skip ?_; refine then_n ?_; refine WP_seq ?_; refine WP_block ?_; refine WP_seq ?_; refine R_region ?_; refine S_q rfl rfl rfl (Q_indexS (by assumption) (by assumption) rfl rfl rfl (elm rfl) rfl) ?_; refine S_load rfl rfl rfl rfl rfl ?_; refine L_elA (by assumption) (by assumption) (ty rfl) ?_; rintro _ _ _ ⟨xa9_2, xb9_2, xc9_2, xd9_2, xe9_2, xf9_2, rfl⟩; refine S_c rfl rfl rfl (C_alloc rfl (zer rfl) ?_); intro b9_3; refine S_w0 rfl rfl (W_all rfl rfl rfl (ty rfl) u0 (by first | rfl | assumption) (by first | rfl | assumption) (by first | rfl | assumption | exact ones_sub (by assumption) _ _) ?_); refine OPS_nil ?_; refine then_n ?_; refine R_region ?_; refine S_q rfl rfl rfl (Q_move rfl rfl) ?_; refine S_q rfl rfl rfl (Q_fieldAddr rfl rfl (fld rfl rfl)) ?_; refine S_load rfl rfl rfl rfl rfl ?_; refine L_sub (Rd.own m0) (ty rfl) rfl ?_))
      refine S_w rfl rfl rfl (W_callC (vs := [.agg (idc x.id).toArray]) (cap := [ptr b0_2 0, ptr b0_3 0]) [_, _] _ (garbage1_s a1_k f0_1 (by omega)) rfl rfl rfl ⟨_, _, rfl, rfl, rfl⟩ (cal rfl) rfl ?_)
      rintro hq Lq _ hlq ⟨rfl, rfl⟩
      (focus (refine OPS_nil ?_; refine block_n ?_; refine then_n ?_; refine R_region ?_; refine S_q rfl rfl rfl (Q_add rfl rfl rfl (by omega)) ?_; refine S_q rfl rfl rfl (Q_move rfl rfl) ?_; refine OPS_nil ?_))
      refine roundF_n (j + 1, _) (by simp only; omega) ⟨rfl, by simp only; omega, ?_⟩ (by repeat' (first | exact List.Sublist.refl _ | exact List.sublist_append_left _ _ | exact List.nil_sublist _ | apply List.Sublist.cons₂ | apply List.Sublist.cons)) (by repeat' (first | exact trivial | refine ⟨rfl, ?_⟩))
      simp only; rw [htk, deadN_snoc, hn3]; omega
    have hge : j = v.stubs.length := by omega
    subst hge
    rw [List.take_length] at hn3 hb3
    (focus (refine WP_seq ?_; refine R_region ?_; refine S_q rfl rfl rfl (Q_cmp rfl rfl rfl rfl) ?_; refine OPS_nil ?_; refine then_n ?_; refine WP_seq ?_; refine WP_cond rfl (fun c11_1 => ?_) (fun c11_1 => ?_) <;> (first | (simp [*] at c11_1; done) | (try simp at c11_1)); refine WP_exit ?_; refine then_e ?_; refine roundF_e ?_; refine block_e ?_; refine then_n ?_; refine WP_seq ?_; refine R_region ?_; refine S_q rfl rfl rfl (Q_fieldAddr rfl rfl (fld rfl rfl)) ?_; refine S_load rfl rfl rfl rfl rfl ?_; refine L_fld (Rd.own m0) (ty rfl) rfl ?_; refine S_q rfl rfl rfl (Q_len rfl rfl rfl rfl rfl rfl) ?_; refine S_q rfl rfl rfl (Q_move rfl rfl) ?_; refine OPS_nil ?_; refine then_n ?_; refine WP_block ?_))
    (refine WP_loopM (α := Nat × Nat) [_]  _ [53, 52, 19, 18, 17, 5, 4] (fun (s : Nat × Nat) => v.scions.length - s.1) (fun (s : Nat × Nat) =>  [(b0_3, cells [.int .i64 (s.2 : Int)] 3)]) (fun (s : Nat × Nat) => [(54, .int .i64 (s.1 : Int))]) (fun hh (s : Nat × Nat) => hh = h3 ∧ s.1 ≤ v.scions.length ∧ s.2 = n3 + deadN (reachR vs) ((v.scions.take s.1).map (·.id))) (0, n3) rfl ⟨_, _, rfl, ⟨_, _, rfl, ⟨_, _, rfl, ⟨_, _, rfl, ⟨_, _, rfl, ⟨_, _, rfl, ⟨_, _, rfl, rfl, rfl⟩, rfl⟩, rfl⟩, rfl⟩, rfl⟩, rfl⟩, rfl⟩ (by repeat' (first | exact trivial | refine ⟨rfl, ?_⟩)) ?_ ?_)
    · exact ⟨rfl, Nat.zero_le _, by simp [deadN_nil]⟩
    rintro h4 ⟨j, n4⟩ _ ⟨rfl, hj, hn4⟩
    simp only at hj hn4
    dsimp only
    have hb4 := deadN_take_le (reachR vs) ((v.scions.take j).map (·.id)) 12 (by rw [List.length_map, List.length_take]; omega)
    by_cases hlt4 : j < v.scions.length
    · obtain ⟨x, ex⟩ := get_of hlt4
      have htk := mapid_take (·.id) ex
      (focus (refine WP_seq ?_; refine R_region ?_; refine S_q rfl rfl rfl (Q_cmp rfl rfl rfl rfl) ?_; refine OPS_nil ?_; refine then_n ?_; refine WP_seq ?_; refine WP_cond rfl (fun c13_1 => ?_) (fun c13_1 => ?_) <;> (first | (simp [*] at c13_1; done) | (try simp at c13_1)); refine WP_skip ?_; refine then_n ?_; refine WP_seq ?_; refine WP_block ?_; refine WP_seq ?_; refine R_region ?_; refine S_q rfl rfl rfl (Q_indexS (by assumption) (by assumption) rfl rfl rfl (elm rfl) rfl) ?_; refine S_load rfl rfl rfl rfl rfl ?_; refine L_elA (by assumption) (by assumption) (ty rfl) ?_; rintro _ _ _ ⟨xa13_2, xb13_2, xc13_2, xd13_2, xe13_2, xf13_2, xg13_2, xh13_2, rfl⟩; refine S_c rfl rfl rfl (C_alloc rfl (zer rfl) ?_); intro b13_3; refine S_w0 rfl rfl (W_all rfl rfl rfl (ty rfl) u0 (by first | rfl | assumption) (by first | rfl | assumption) (by first | rfl | assumption | exact ones_sub (by assumption) _ _) ?_); refine OPS_nil ?_; refine then_n ?_; refine R_region ?_; refine S_q rfl rfl rfl (Q_move rfl rfl) ?_; refine S_q rfl rfl rfl (Q_fieldAddr rfl rfl (fld rfl rfl)) ?_; refine S_load rfl rfl rfl rfl rfl ?_; refine L_sub (Rd.own m0) (ty rfl) rfl ?_))
      refine S_w rfl rfl rfl (W_callC (vs := [.agg (idc x.id).toArray]) (cap := [ptr b0_2 0, ptr b0_3 0]) [_, _] _ (garbage1_s a1_k f0_1 (by omega)) rfl rfl rfl ⟨_, _, rfl, rfl, rfl⟩ (cal rfl) rfl ?_)
      rintro hq Lq _ hlq ⟨rfl, rfl⟩
      (focus (refine OPS_nil ?_; refine block_n ?_; refine then_n ?_; refine R_region ?_; refine S_q rfl rfl rfl (Q_add rfl rfl rfl (by omega)) ?_; refine S_q rfl rfl rfl (Q_move rfl rfl) ?_; refine OPS_nil ?_))
      refine roundF_n (j + 1, _) (by simp only; omega) ⟨rfl, by simp only; omega, ?_⟩ (by repeat' (first | exact List.Sublist.refl _ | exact List.sublist_append_left _ _ | exact List.nil_sublist _ | apply List.Sublist.cons₂ | apply List.Sublist.cons)) (by repeat' (first | exact trivial | refine ⟨rfl, ?_⟩))
      simp only; rw [htk, deadN_snoc, hn4]; omega
    have hge : j = v.scions.length := by omega
    subst hge
    rw [List.take_length] at hn4 hb4
    (focus (refine WP_seq ?_; refine R_region ?_; refine S_q rfl rfl rfl (Q_cmp rfl rfl rfl rfl) ?_; refine OPS_nil ?_; refine then_n ?_; refine WP_seq ?_; refine WP_cond rfl (fun c15_1 => ?_) (fun c15_1 => ?_) <;> (first | (simp [*] at c15_1; done) | (try simp at c15_1)); refine WP_exit ?_; refine then_e ?_; refine roundF_e ?_; refine block_e ?_; refine block_n ?_; refine then_n ?_; refine R_region ?_; refine S_q rfl rfl rfl (Q_add rfl rfl rfl (by omega)) ?_; refine S_q rfl rfl rfl (Q_move rfl rfl) ?_; refine OPS_nil ?_))
    refine roundF_n (k + 1, n4) (by simp only; omega) ⟨rfl, by simp only; omega, ?_⟩ (by repeat' (first | exact List.Sublist.refl _ | exact List.sublist_append_left _ _ | exact List.nil_sublist _ | apply List.Sublist.cons₂ | apply List.Sublist.cons)) (by repeat' (first | exact trivial | refine ⟨rfl, ?_⟩))
    simp only; rw [hsum, ← hn, hn4, hn3, hn2, garbageOf_def]; omega
  · have hge : k = vs.length := by omega
    subst hge
    rw [List.take_length] at hn
    (focus (refine WP_seq ?_; refine R_region ?_; refine S_q rfl rfl rfl (Q_cmp rfl rfl rfl rfl) ?_; refine OPS_nil ?_; refine then_n ?_; refine WP_seq ?_; refine WP_cond rfl (fun c16_1 => ?_) (fun c16_1 => ?_) <;> (first | (simp [*] at c16_1; done) | (try simp at c16_1)); refine WP_exit ?_; refine then_e ?_; refine roundF_e ?_; refine block_e ?_; refine then_n ?_; refine WP_seq ?_; refine R_region ?_; refine S_load rfl rfl rfl rfl rfl ?_; refine L_one (Rd.own m0) (ty rfl) ?_; refine S_q rfl rfl rfl (Q_assign rfl rfl) ?_; refine OPS_nil ?_; refine then_n ?_; refine WP_ret ?_))
    refine pret (.inl rfl) rfl ⟨_, _, rfl, rfl, rfl⟩ ?_
    simp only [resOf]; rw [hn, garbageR]
end Go.Proofs.YtfhoecgiahpddaaGreat
