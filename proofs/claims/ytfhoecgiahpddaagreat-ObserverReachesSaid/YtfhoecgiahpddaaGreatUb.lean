/-
  CONTRACTS: shape.Union.
-/
import Derived.Test.YtfhoecgiahpddaaGreatUa
import Derived.Test.YtfhoecgiahpddaaGreatFl
set_option linter.all false
namespace Go.Proofs.YtfhoecgiahpddaaGreat
open Go.Mesh Go.RowKit
set_option maxRecDepth 100000
set_option linter.unusedVariables false
set_option maxHeartbeats 4000000
attribute [local irreducible] WP OPS ANY ANYo LG LV FSpec PSpec QOP OPc OPw thenQ blockQ roundQ roundF retQ retM Rd At SLB OS cmpI orI cmpID namedB valB nodeB kindB validG valAux idxI findG zeroV viewOf vwAt idxOf recv flyB scionOf moveOf numberedOf idOf valueOf mget mput localB carriedB stubOf followF followOf flOf flightsOf flPre setL minusL compactL putI mergeN insN insAll unionR
/-- the map of nodes, and the list that it stands for -/
def NMap (h : Frag) (ps : List (ID × Value)) (ns : List Nd) : Prop := (ps.map (·.1)).Nodup ∧ SN ns ∧ ps.length = ns.length ∧ ∀ id, match mget id ps with
  | none => findG ns id = none
  | some v => ∃ p c n, v = .agg [Value.int .i64 n.id.1, .int .i64 n.id.2, .int .i64 n.kind, .int .i64 n.cls, .slice p n.fields.length c].toArray ∧ SLB 4398046511104 h 4 ValC (.slice p n.fields.length c) n.fields ∧ findG ns id = some n
theorem mput_keys (k : ID) (v : Value) : ∀ ps : List (ID × Value), (mput k v ps).map (·.1) = if (mget k ps).isSome then ps.map (·.1) else ps.map (·.1) ++ [k]
  | [] => by simp [mput, mget]
  | (q, u) :: ps => by
    simp only [mput, mget]
    by_cases h : q = k
    · simp [h]
    · simp only [if_neg h, List.map_cons, mput_keys k v ps]
      split <;> simp
theorem mget_none_keys {k : ID} : ∀ {ps : List (ID × Value)}, mget k ps = none → k ∉ ps.map (·.1)
  | [], _ => by simp
  | (q, u) :: ps, h => by
    simp only [mget] at h
    split at h
    · cases h
    · rename_i hq
      simp only [List.map_cons, List.mem_cons, not_or]
      exact ⟨Ne.symm hq, mget_none_keys h⟩
theorem NMap_nil (h : Frag) : NMap h [] [] := ⟨by simp, List.Pairwise.nil, rfl, fun id => by simp only [mget]; unfold findG; rfl⟩
abbrev ndv (n : Nd) (p : Option Addr) (c : Nat) : Value := .agg [Value.int .i64 n.id.1, .int .i64 n.id.2, .int .i64 n.kind, .int .i64 n.cls, .slice p n.fields.length c].toArray
theorem NMap_new {h : Frag} {ps : List (ID × Value)} {ns : List Nd} {n : Nd} {p : Option Addr} {c : Nat} (hN : NMap h ps ns) (hq : mget n.id ps = none) (hf : SLB 4398046511104 h 4 ValC (.slice p n.fields.length c) n.fields) :
    ∃ ns', insN ns n = some ns' ∧ ns'.length = ns.length + 1 ∧ NMap h (mput n.id (ndv n p c) ps) ns' := by
  obtain ⟨h1, h2, h3, h4⟩ := hN
  have h5 := h4 n.id
  rw [hq] at h5
  have h6 := insN_spec (n := n) h2
  rw [h5] at h6
  obtain ⟨ns', e1, e2, e3, e4, e5⟩ := h6
  have hk := mput_keys n.id (ndv n p c) ps
  rw [hq] at hk
  simp only [Option.isSome_none, Bool.false_eq_true, if_false] at hk
  refine ⟨ns', e1, e3, ?_, e2, ?_, fun id => ?_⟩
  · rw [hk, List.nodup_append]
    exact ⟨h1, by simp, fun a ha b hb e => by simp only [List.mem_singleton] at hb; subst hb; subst e; exact mget_none_keys hq ha⟩
  · have := congrArg List.length hk
    simp only [List.length_map, List.length_append, List.length_singleton] at this
    omega
  · rw [mget_mput, e5]
    by_cases hid : n.id = id
    · subst hid; simp only [if_true]; exact ⟨p, c, n, rfl, hf, rfl⟩
    · rw [if_neg hid, if_neg (Ne.symm hid)]; exact h4 id
theorem NMap_set {h : Frag} {ps : List (ID × Value)} {ns : List Nd} {n o m : Nd} {v : Value} {p : Option Addr} {c : Nat} (hN : NMap h ps ns) (hq : mget n.id ps = some v) (ho : findG ns n.id = some o) (hm : mergeN o n = some m) (hf : SLB 4398046511104 h 4 ValC (.slice p m.fields.length c) m.fields) :
    ∃ ns', insN ns n = some ns' ∧ ns'.length = ns.length ∧ NMap h (mput n.id (ndv m p c) ps) ns' := by
  obtain ⟨h1, h2, h3, h4⟩ := hN
  have h6 := insN_spec (n := n) h2
  rw [ho] at h6
  simp only [hm] at h6
  obtain ⟨ns', e1, e2, e3, e4, e5⟩ := h6
  have hk := mput_keys n.id (ndv m p c) ps
  rw [hq] at hk
  simp only [Option.isSome_some, if_true] at hk
  refine ⟨ns', e1, e3, by rw [hk]; exact h1, e2, ?_, fun id => ?_⟩
  · have := congrArg List.length hk
    simp only [List.length_map] at this
    omega
  · rw [mget_mput, e5]
    by_cases hid : n.id = id
    · subst hid; simp only [if_true]; exact ⟨p, c, m, rfl, hf, rfl⟩
    · rw [if_neg hid, if_neg (Ne.symm hid)]; exact h4 id
theorem NMap_keep {h : Frag} {ps : List (ID × Value)} {ns : List Nd} {n o : Nd} (hN : NMap h ps ns) (ho : findG ns n.id = some o) (hm : mergeN o n = some o) : ∃ ns', insN ns n = some ns' ∧ ns'.length = ns.length ∧ NMap h ps ns' := by
  obtain ⟨h1, h2, h3, h4⟩ := hN
  have h6 := insN_spec (n := n) h2
  rw [ho] at h6
  simp only [hm] at h6
  obtain ⟨ns', e1, e2, e3, e4, e5⟩ := h6
  refine ⟨ns', e1, e3, h1, e2, by omega, fun id => ?_⟩
  have := h4 id
  have h7 : findG ns' id = findG ns id := by
    rw [e5]; split
    · rename_i e; subst e; exact ho.symm
    · rfl
  rw [h7]; exact this
theorem NMap_err {h : Frag} {ps : List (ID × Value)} {ns : List Nd} {n o : Nd} (hN : NMap h ps ns) (ho : findG ns n.id = some o) (hm : mergeN o n = none) : insN ns n = none := by
  have h6 := insN_spec (n := n) hN.2.1
  rw [ho] at h6
  simpa only [hm] using h6
theorem NMap_get {h : Frag} {ps : List (ID × Value)} {ns : List Nd} {id : ID} {v : Value} (hN : NMap h ps ns) (hq : mget id ps = some v) : ∃ p c n, v = ndv n p c ∧ SLB 4398046511104 h 4 ValC (.slice p n.fields.length c) n.fields ∧ findG ns id = some n := by
  have := hN.2.2.2 id
  rw [hq] at this
  exact this
theorem NMap.up {h h' : Frag} {ps : List (ID × Value)} {ns : List Nd} (x : NMap h ps ns) (hl : le h h') : NMap h' ps ns := by
  refine ⟨x.1, x.2.1, x.2.2.1, fun id => ?_⟩
  have := x.2.2.2 id
  cases hq : mget id ps with
  | none => rw [hq] at this; exact this
  | some v =>
    rw [hq] at this
    obtain ⟨p, c, n, e1, e2, e3⟩ := this
    exact ⟨p, c, n, e1, e2.up hl, e3⟩
theorem nodup_subN : ∀ (l r : List Nat), l.Nodup → (∀ x, x ∈ l → x ∈ r) → l.length ≤ r.length
  | [], _, _, _ => by simp
  | x :: l, r, hn, hs => by
    rw [List.nodup_cons] at hn
    have hx := hs x (by simp)
    have := nodup_subN l (r.erase x) hn.2 (fun y hy => (List.mem_erase_of_ne (fun e : y = x => hn.1 (by rw [← e]; exact hy))).2 (hs y (by simp [hy])))
    have hl := List.length_erase_of_mem hx
    have : 0 < r.length := List.length_pos_of_mem hx
    simp; omega
theorem mget_at {ps : List (ID × Value)} (hn : (ps.map (·.1)).Nodup) {i : Nat} {k : ID} {v : Value} (h : ps[i]? = some (k, v)) : mget k ps = some v := by
  induction ps generalizing i with
  | nil => simp at h
  | cons p ps ih =>
    obtain ⟨q, u⟩ := p
    rw [List.map_cons, List.nodup_cons] at hn
    simp only [mget]
    cases i with
    | zero => simp at h; rw [if_pos h.1, h.2]
    | succ i =>
      have h2 : ps[i]? = some (k, v) := by simpa using h
      have : k ∈ ps.map (·.1) := List.mem_map.2 ⟨_, List.mem_of_getElem? h2, rfl⟩
      rw [if_neg (fun e => hn.1 (by rw [e]; exact this))]
      exact ih hn.2 h2
theorem mget_idx {ps : List (ID × Value)} {k : ID} {v : Value} (h : mget k ps = some v) : ∃ i : Nat, ps[i]? = some (k, v) := by
  induction ps with
  | nil => simp [mget] at h
  | cons p ps ih =>
    obtain ⟨q, u⟩ := p
    simp only [mget] at h
    split at h
    · rename_i e; cases h; exact ⟨0, by simp [e]⟩
    · obtain ⟨i, hi⟩ := ih h; exact ⟨i + 1, by simpa using hi⟩
/-- what has been collected of a map -/
def Coll (ps : List (ID × Value)) (ns : List Nd) (seen : List Nat) (outs : List Nd) : Prop := seen.Nodup ∧ (∀ i, i ∈ seen → i < ps.length) ∧ outs.length = seen.length ∧ ∀ t i : Nat, seen[t]? = some i → ∃ k v, ps[i]? = some (k, v) ∧ findG ns k = outs[t]?
theorem Coll_nil (ps : List (ID × Value)) (ns : List Nd) : Coll ps ns [] [] := ⟨List.nodup_nil, by simp, rfl, by simp⟩
theorem Coll_snoc {ps : List (ID × Value)} {ns : List Nd} {seen : List Nat} {outs : List Nd} (c : Coll ps ns seen outs) {i : Nat} {k : ID} {v : Value} {n : Nd} (hi : i ∉ seen) (hp : ps[i]? = some (k, v)) (hf : findG ns k = some n) : Coll ps ns (seen ++ [i]) (outs ++ [n]) := by
  obtain ⟨h1, h2, h3, h4⟩ := c
  refine ⟨?_, fun x hx => ?_, by simp [h3], fun t x hx => ?_⟩
  · rw [List.nodup_append]; exact ⟨h1, by simp, fun a ha b hb e => by simp at hb; subst hb; subst e; exact hi ha⟩
  · rcases List.mem_append.1 hx with hx | hx
    · exact h2 x hx
    · simp at hx; subst hx; exact (List.getElem?_eq_some_iff.1 hp).1
  · rw [List.getElem?_append] at hx
    split at hx
    · rename_i hlt
      obtain ⟨k', v', e1, e2⟩ := h4 t x hx
      exact ⟨k', v', e1, by rw [List.getElem?_append_left (by omega)]; exact e2⟩
    · rename_i hge
      have ht : t - seen.length = 0 := by
        have := (List.getElem?_eq_some_iff.1 hx).1; simp at this; omega
      rw [ht] at hx
      simp at hx; subst hx
      refine ⟨k, v, hp, ?_⟩
      have : t = outs.length := by omega
      subst this
      rw [List.getElem?_append_right (Nat.le_refl _)]; simpa using hf
theorem Coll_le {ps : List (ID × Value)} {ns : List Nd} {seen : List Nat} {outs : List Nd} (c : Coll ps ns seen outs) : seen.length ≤ ps.length := by
  have := nodup_subN seen (List.range ps.length) c.1 (fun x hx => List.mem_range.2 (c.2.1 x hx))
  simpa using this
theorem Coll_end {h : Frag} {ps : List (ID × Value)} {ns : List Nd} {seen : List Nat} {outs ys : List Nd} (hN : NMap h ps ns) (c : Coll ps ns seen outs) (hall : ∀ i, i < ps.length → i ∈ seen) (hp : ys.Perm outs) (hs : ys.Pairwise fun x y => ¬ cmpID y.id x.id < 0) : ys = ns := by
  obtain ⟨n1, n2, n3, n4⟩ := hN
  obtain ⟨c1, c2, c3, c4⟩ := c
  have hids : outs.Pairwise fun x y => x.id ≠ y.id := by
    rw [List.pairwise_iff_getElem]
    intro i j hi hj hij e
    have hsi : seen[i]? = some seen[i] := by simp
    have hsj : seen[j]? = some seen[j] := by simp
    obtain ⟨k1, v1, p1, f1⟩ := c4 i _ hsi
    obtain ⟨k2, v2, p2, f2⟩ := c4 j _ hsj
    rw [List.getElem?_eq_getElem hi] at f1
    rw [List.getElem?_eq_getElem hj] at f2
    have e1 := (findG_some f1).2
    have e2 := (findG_some f2).2
    have hk : k1 = k2 := by rw [← e1, ← e2, e]
    have hne : seen[i] ≠ seen[j] := fun e' => by
      have := (List.nodup_iff_pairwise_ne.1 c1)
      exact (List.pairwise_iff_getElem.1 this) i j (by omega) (by omega) hij e'
    have q1 : (ps.map (·.1))[seen[i]]? = some k1 := by simp [p1]
    have q2 : (ps.map (·.1))[seen[j]]? = some k2 := by simp [p2]
    obtain ⟨l1, g1⟩ := List.getElem?_eq_some_iff.1 q1
    obtain ⟨l2, g2⟩ := List.getElem?_eq_some_iff.1 q2
    have hinj := List.pairwise_iff_getElem.1 (List.nodup_iff_pairwise_ne.1 n1)
    rcases Nat.lt_or_gt_of_ne hne with hl | hl
    · exact hinj _ _ l1 l2 hl (by rw [g1, g2, hk])
    · exact hinj _ _ l2 l1 hl (by rw [g1, g2, hk])
  have hys : SN ys := by
    have h1 : ys.Pairwise fun x y => x.id ≠ y.id := hp.symm.pairwise hids (fun h => Ne.symm h)
    exact (hs.and h1).imp fun ⟨a, b⟩ => Decidable.byContradiction fun hc => b (cmp_eq.1 ⟨hc, a⟩)
  refine SN_unique hys n2 fun x => ?_
  rw [hp.mem_iff]
  constructor
  · intro hx
    obtain ⟨t, ht⟩ := List.getElem?_of_mem hx
    have hlt := (List.getElem?_eq_some_iff.1 ht).1
    obtain ⟨k, v, p1, f1⟩ := c4 t seen[t] (by simp)
    rw [ht] at f1
    exact (findG_some f1).1
  · intro hx
    have hf := findG_mem n2 hx
    have hq := n4 x.id
    cases hm : mget x.id ps with
    | none => rw [hm] at hq; rw [hq] at hf; cases hf
    | some v =>
      obtain ⟨i, hi⟩ := mget_idx hm
      obtain ⟨t, ht⟩ := List.getElem?_of_mem (hall i (List.getElem?_eq_some_iff.1 hi).1)
      obtain ⟨k', v', p1, f1⟩ := c4 t i ht
      rw [hi] at p1; cases p1
      rw [hf] at f1
      exact List.mem_of_getElem? f1.symm
theorem NMap.nodup {h : Frag} {ps : List (ID × Value)} {ns : List Nd} (x : NMap h ps ns) : (ps.map (·.1)).Nodup := x.1
theorem NMap.len {h : Frag} {ps : List (ID × Value)} {ns : List Nd} (x : NMap h ps ns) : ps.length = ns.length := x.2.2.1
theorem Coll.len {ps : List (ID × Value)} {ns : List Nd} {seen : List Nat} {outs : List Nd} (c : Coll ps ns seen outs) : outs.length = seen.length := c.2.2.1
attribute [local irreducible] NMap Coll
theorem union_s {h : Frag} {a : Value} {l : List (List Nd)} (hs : SL h 1 (GraphC 4398046511104) a l) (hb : l.flatten.length ≤ 1000000) : PSpec Tryz.prog 36 #[a] h (fun h' v => ∃ us, v = .tuple #[.agg us.toArray, .int .i64 (unionR l).2] ∧ GraphC 4398046511104 h' (unionR l).1 us) := by
  have hl := hs.le
  refine pspec_of (vs := [a]) Tryz.func36 Tryz.ntmps36 rfl rfl ?_
  (focus (refine WP_seq ?_; refine R_region ?_; refine S_c rfl rfl rfl (C_alloc rfl (zer rfl) ?_); intro b0_1; refine S_q rfl rfl rfl (Q_assign rfl rfl) ?_; refine OPS_nil ?_; refine then_n ?_; refine WP_seq ?_; refine WP_seq ?_; refine R_region ?_; refine S_q rfl rfl rfl (Q_move rfl rfl) ?_; refine S_q rfl rfl rfl (Q_lenS rfl rfl rfl rfl rfl rfl (by assumption)) ?_; refine S_q rfl rfl rfl (Q_move rfl rfl) ?_; refine OPS_nil ?_; refine then_n ?_; refine WP_block ?_))
  (refine WP_loopC (α := Nat) [17, 16, 2, 0] (fun (k : Nat) => l.length - k) (fun (k : Nat) => [(18, .int .i64 k)]) (fun hh (k : Nat) => hh = h ∧ k ≤ l.length ∧ (l.drop k).all validG = l.all validG) 0 ⟨_, _, rfl, ⟨_, _, rfl, ⟨_, _, rfl, ⟨_, _, rfl, rfl, rfl⟩, rfl⟩, rfl⟩, rfl⟩ (by repeat' (first | exact trivial | refine ⟨rfl, ?_⟩)) ?_ ?_)
  · exact ⟨rfl, Nat.zero_le _, rfl⟩
  rintro h1 k _ ⟨rfl, hk, ht⟩
  by_cases hlt : k < l.length
  · obtain ⟨g, eg⟩ := get_of hlt
    have had := all_drop (p := validG) eg
    (focus (refine WP_seq ?_; refine R_region ?_; refine S_q rfl rfl rfl (Q_cmp rfl rfl rfl rfl) ?_; refine OPS_nil ?_; refine then_n ?_; refine WP_seq ?_; refine WP_cond rfl (fun c2_1 => ?_) (fun c2_1 => ?_) <;> (first | (simp [*] at c2_1; done) | (try simp at c2_1)); refine WP_skip ?_; refine then_n ?_; refine WP_seq ?_; refine WP_block ?_; refine WP_seq ?_; refine R_region ?_; refine S_q rfl rfl rfl (Q_indexS (by assumption) (by assumption) rfl rfl rfl (elm rfl) rfl) ?_; refine S_load rfl rfl rfl rfl rfl ?_; refine L_elA (by assumption) (by assumption) (ty rfl) ?_; rintro _ _ _ ⟨pg2_2, qg2_2, rfl, fg2_2⟩; refine S_c rfl rfl rfl (C_alloc rfl (zer rfl) ?_); intro b2_3; refine S_w0 rfl rfl (W_all rfl rfl rfl (ty rfl) u0 (by first | rfl | assumption) (by first | rfl | assumption) (by first | rfl | assumption | exact ones_sub (by assumption) _ _) ?_); refine OPS_nil ?_; refine then_n ?_; refine WP_seq ?_; refine R_region ?_; refine S_load rfl rfl rfl rfl rfl ?_; refine L_agg (Rd.own m0) (ty rfl) (by first | rfl | assumption) ?_; refine S_c rfl rfl rfl (C_callv (valid_s ⟨_, _, rfl, by assumption⟩) rfl rfl ⟨_, _, rfl, rfl, rfl⟩ (cal rfl) ?_); refine S_q rfl rfl rfl (Q_not rfl rfl) ?_; refine OPS_nil ?_; refine then_n ?_; refine WP_cond rfl (fun c2_4 => ?_) (fun c2_4 => ?_) <;> (first | (simp [*] at c2_4; done) | (try simp at c2_4)); (focus (refine WP_seq ?_; refine R_region ?_; refine S_q rfl rfl rfl (Q_build rfl (by decide +kernel) (zer rfl) rfl rfl) ?_; refine S_w0 rfl rfl (W_all rfl rfl rfl (ty rfl) u1 (by first | rfl | assumption) (by first | rfl | assumption) (by first | rfl | assumption | exact ones_sub (by assumption) _ _) ?_); refine S_q rfl rfl rfl (Q_assign rfl rfl) ?_; refine OPS_nil ?_; refine then_n ?_; refine WP_ret ?_; refine block_r ?_; refine then_r ?_; refine roundF_r ?_; refine block_r ?_; refine then_r ?_)); rotate_left 1; (focus (refine WP_skip ?_; refine block_n ?_; refine then_n ?_; refine R_region ?_; refine S_q rfl rfl rfl (Q_add rfl rfl rfl (by omega)) ?_; refine S_q rfl rfl rfl (Q_move rfl rfl) ?_; refine OPS_nil ?_)); rotate_left 1))
    · have hr : unionR l = ([], 1) := by
        have : l.all validG = false := by rw [← ht, had, c2_4]; rfl
        rw [unionR, this]; rfl
      refine pret (.inl rfl) rfl ⟨_, _, _, rfl, Loads_agg (Rd.own m1) (ty rfl) rfl, ⟨_, _, rfl, rfl, rfl⟩, rfl⟩ ?_
      rw [hr]; exact ⟨_, rfl, _, _, rfl, SLB.nil _ _ _ _ _ _⟩
    · refine roundF_n (k + 1) (by omega) ⟨rfl, by omega, ?_⟩ (by repeat' (first | exact List.Sublist.refl _ | exact List.sublist_append_left _ _ | exact List.nil_sublist _ | apply List.Sublist.cons₂ | apply List.Sublist.cons)) (by repeat' (first | exact trivial | refine ⟨rfl, ?_⟩))
      rw [← ht, had, c2_4]; rfl
  · have hge : k = l.length := by omega
    subst hge
    have hall : l.all validG = true := by rw [← ht]; simp
    have hun : unionR l = resU (insAll [] l.flatten) := by rw [unionR, if_pos hall]
    clear ht hall
    (focus (refine WP_seq ?_; refine R_region ?_; refine S_q rfl rfl rfl (Q_cmp rfl rfl rfl rfl) ?_; refine OPS_nil ?_; refine then_n ?_; refine WP_seq ?_; refine WP_cond rfl (fun c3_1 => ?_) (fun c3_1 => ?_) <;> (first | (simp [*] at c3_1; done) | (try simp at c3_1)); refine WP_exit ?_; refine then_e ?_; refine roundF_e ?_; refine block_e ?_; refine then_n ?_; refine WP_seq ?_; refine R_region ?_; refine S_c rfl rfl rfl (C_makeMapK idk rfl rfl ?_); intro b3_2; refine S_q rfl rfl rfl (Q_assign rfl rfl) ?_; refine OPS_nil ?_; refine then_n ?_; refine WP_seq ?_; refine WP_seq ?_; refine R_region ?_; refine S_q rfl rfl rfl (Q_move rfl rfl) ?_; refine S_q rfl rfl rfl (Q_lenS rfl rfl rfl rfl rfl rfl (by assumption)) ?_; refine S_q rfl rfl rfl (Q_move rfl rfl) ?_; refine OPS_nil ?_; refine then_n ?_; refine WP_block ?_))
    (refine WP_loopM (α := Nat × List (ID × Value) × List Nd) []  _ [29, 28, 6, 2] (fun (s : Nat × List (ID × Value) × List Nd) => l.length - s.1) (fun (s : Nat × List (ID × Value) × List Nd) =>  [(b3_2, mapObj idv s.2.1)]) (fun (s : Nat × List (ID × Value) × List Nd) => [(30, .int .i64 s.1)]) (fun hh (s : Nat × List (ID × Value) × List Nd) => hh = h1 ∧ s.1 ≤ l.length ∧ NMap h1 s.2.1 s.2.2 ∧ s.2.2.length ≤ (l.take s.1).flatten.length ∧ insAll s.2.2 (l.drop s.1).flatten = insAll [] l.flatten) (0, [], []) rfl ⟨_, _, rfl, ⟨_, _, rfl, ⟨_, _, rfl, ⟨_, _, rfl, rfl, rfl⟩, rfl⟩, rfl⟩, rfl⟩ (by repeat' (first | exact trivial | refine ⟨rfl, ?_⟩)) ?_ ?_)
    · exact ⟨rfl, Nat.zero_le _, NMap_nil _, Nat.zero_le _, rfl⟩
    rintro h1 ⟨k, ps, ns⟩ _ ⟨rfl, hk, hN, hnl, hins⟩
    simp only at hk hN hnl hins
    dsimp only
    by_cases hlt : k < l.length
    · obtain ⟨g, eg⟩ := get_of hlt
      have hdg : (l.drop k).flatten = g ++ (l.drop (k + 1)).flatten := by rw [drop_get eg]; simp
      rw [hdg] at hins
      (focus (refine WP_seq ?_; refine R_region ?_; refine S_q rfl rfl rfl (Q_cmp rfl rfl rfl rfl) ?_; refine OPS_nil ?_; refine then_n ?_; refine WP_seq ?_; refine WP_cond rfl (fun c5_1 => ?_) (fun c5_1 => ?_) <;> (first | (simp [*] at c5_1; done) | (try simp at c5_1)); refine WP_skip ?_; refine then_n ?_; refine WP_seq ?_; refine WP_block ?_; refine WP_seq ?_; refine R_region ?_; refine S_q rfl rfl rfl (Q_indexS (by assumption) (by assumption) rfl rfl rfl (elm rfl) rfl) ?_; refine S_load rfl rfl rfl rfl rfl ?_; refine L_elA (by assumption) (by assumption) (ty rfl) ?_; rintro _ _ _ ⟨pg5_2, qg5_2, rfl, fg5_2⟩; refine S_c rfl rfl rfl (C_alloc rfl (zer rfl) ?_); intro b5_3; refine S_w0 rfl rfl (W_all rfl rfl rfl (ty rfl) u0 (by first | rfl | assumption) (by first | rfl | assumption) (by first | rfl | assumption | exact ones_sub (by assumption) _ _) ?_); refine OPS_nil ?_; refine then_n ?_; refine WP_seq ?_; refine R_region ?_; refine S_q rfl rfl rfl (Q_fieldAddr rfl rfl (fld rfl rfl)) ?_; refine S_load rfl rfl rfl rfl rfl ?_; refine L_one (Rd.own m0) (ty rfl) ?_; refine S_q rfl rfl rfl (Q_len rfl rfl rfl rfl rfl rfl) ?_; refine S_q rfl rfl rfl (Q_move rfl rfl) ?_; refine OPS_nil ?_; refine then_n ?_; refine WP_block ?_))
      have hgl := fg5_2.le
      (refine WP_loopM (α := Nat × List (ID × Value) × List Nd) [_]  _ [36, 35, 30, 29, 28, 6, 2] (fun (s : Nat × List (ID × Value) × List Nd) => g.length - s.1) (fun (s : Nat × List (ID × Value) × List Nd) =>  [(b3_2, mapObj idv s.2.1)]) (fun (s : Nat × List (ID × Value) × List Nd) => [(37, .int .i64 s.1)]) (fun hh (s : Nat × List (ID × Value) × List Nd) => hh = h1 ∧ s.1 ≤ g.length ∧ NMap h1 s.2.1 s.2.2 ∧ s.2.2.length ≤ (l.take k).flatten.length + s.1 ∧ insAll s.2.2 (g.drop s.1 ++ (l.drop (k + 1)).flatten) = insAll [] l.flatten) (0, ps, ns) rfl ⟨_, _, rfl, ⟨_, _, rfl, ⟨_, _, rfl, ⟨_, _, rfl, ⟨_, _, rfl, ⟨_, _, rfl, ⟨_, _, rfl, rfl, rfl⟩, rfl⟩, rfl⟩, rfl⟩, rfl⟩, rfl⟩, rfl⟩ (by repeat' (first | exact trivial | refine ⟨rfl, ?_⟩)) ?_ ?_)
      · exact ⟨rfl, Nat.zero_le _, hN, hnl, hins⟩
      clear hN hnl hins ps ns
      rintro h1 ⟨j, ps, ns⟩ _ ⟨rfl, hj, hN, hnl, hins⟩
      simp only at hj hN hnl hins
      dsimp only
      by_cases hlt2 : j < g.length
      · obtain ⟨⟨⟨i1, i2⟩, kd, cl, fs⟩, ex⟩ := get_of hlt2
        rw [drop_get ex, List.cons_append, insAll] at hins
        cases hq : mget (i1, i2) ps with
        | none =>
          (focus (refine WP_seq ?_; refine R_region ?_; refine S_q rfl rfl rfl (Q_cmp rfl rfl rfl rfl) ?_; refine OPS_nil ?_; refine then_n ?_; refine WP_seq ?_; refine WP_cond rfl (fun c7_1 => ?_) (fun c7_1 => ?_) <;> (first | (simp [*] at c7_1; done) | (try simp at c7_1)); refine WP_skip ?_; refine then_n ?_; refine WP_seq ?_; refine WP_block ?_; refine WP_seq ?_; refine R_region ?_; refine S_q rfl rfl rfl (Q_indexS (by assumption) (by assumption) rfl rfl rfl (elm rfl) rfl) ?_; refine S_load rfl rfl rfl rfl rfl ?_; refine L_elA (by assumption) (by assumption) (ty rfl) ?_; rintro _ _ _ ⟨pn7_2, qn7_2, rfl, fn7_2⟩; refine S_c rfl rfl rfl (C_alloc rfl (zer rfl) ?_); intro b7_3; refine S_w0 rfl rfl (W_all rfl rfl rfl (ty rfl) u0 (by first | rfl | assumption) (by first | rfl | assumption) (by first | rfl | assumption | exact ones_sub (by assumption) _ _) ?_); refine OPS_nil ?_; refine then_n ?_; refine WP_seq ?_; refine R_region ?_; refine S_q rfl rfl rfl (Q_move rfl rfl) ?_; refine S_q rfl rfl rfl (Q_fieldAddr rfl rfl (fld rfl rfl)) ?_; refine S_load rfl rfl rfl rfl rfl ?_; refine L_sub (Rd.own m0) (ty rfl) rfl ?_; refine S_q rfl rfl rfl (Q_lookupOkN rfl rfl (key_id rfl) idk rfl rfl (.inr m2) (by assumption)) ?_; refine S_q rfl rfl rfl (Q_move rfl rfl) ?_; refine S_q rfl rfl rfl (Q_extract rfl rfl rfl) ?_; refine S_q rfl rfl rfl (Q_extract rfl rfl rfl) ?_; refine S_c rfl rfl rfl (C_alloc rfl (zer rfl) ?_); intro b7_4; refine S_w0 rfl rfl (W_all rfl rfl rfl (ty rfl) u0 (by first | rfl | assumption) (by first | rfl | assumption) (by first | rfl | assumption | exact ones_sub (by assumption) _ _) ?_); refine S_q rfl rfl rfl (Q_assign rfl rfl) ?_; refine OPS_nil ?_; refine then_n ?_; refine WP_block ?_; refine WP_seq ?_; refine R_region ?_; refine S_q rfl rfl rfl (Q_move rfl rfl) ?_; refine S_q rfl rfl rfl (Q_not rfl rfl) ?_; refine S_q rfl rfl rfl (Q_assign rfl rfl) ?_; refine OPS_nil ?_; refine then_n ?_; refine cond_t rfl ?_; refine R_region ?_; refine S_q rfl rfl rfl (Q_move rfl rfl) ?_; refine S_q rfl rfl rfl (Q_fieldAddr rfl rfl (fld rfl rfl)) ?_; refine S_load rfl rfl rfl rfl rfl ?_; refine L_sub (Rd.own m1) (ty rfl) rfl ?_; refine S_load rfl rfl rfl rfl rfl ?_; refine L_agg (Rd.own m1) (ty rfl) (by first | rfl | assumption) ?_; refine S_w0 rfl rfl (W_mapUpdate rfl rfl (key_id rfl) rfl idk rfl u3 ?_); refine OPS_nil ?_; refine block_n ?_; refine block_n ?_; refine then_n ?_; refine R_region ?_; refine S_q rfl rfl rfl (Q_add rfl rfl rfl (by omega)) ?_; refine S_q rfl rfl rfl (Q_move rfl rfl) ?_; refine OPS_nil ?_))
          obtain ⟨ns', e1, e2, e3⟩ := NMap_new (n := ⟨(i1, i2), kd, cl, fs⟩) hN hq fn7_2
          rw [e1] at hins
          exact roundF_n (j + 1, mput (i1, i2) (ndv ⟨(i1, i2), kd, cl, fs⟩ pn7_2 qn7_2) ps, ns') (by simp only; omega) ⟨rfl, by simp only; omega, e3, by simp only; omega, hins⟩ (by repeat' (first | exact List.Sublist.refl _ | exact List.sublist_append_left _ _ | exact List.nil_sublist _ | apply List.Sublist.cons₂ | apply List.Sublist.cons)) (by repeat' (first | exact trivial | refine ⟨rfl, ?_⟩))
        | some v =>
          obtain ⟨pv, cv, o, rfl, fo, ho⟩ := NMap_get hN hq
          (focus (refine WP_seq ?_; refine R_region ?_; refine S_q rfl rfl rfl (Q_cmp rfl rfl rfl rfl) ?_; refine OPS_nil ?_; refine then_n ?_; refine WP_seq ?_; refine WP_cond rfl (fun c8_1 => ?_) (fun c8_1 => ?_) <;> (first | (simp [*] at c8_1; done) | (try simp at c8_1)); refine WP_skip ?_; refine then_n ?_; refine WP_seq ?_; refine WP_block ?_; refine WP_seq ?_; refine R_region ?_; refine S_q rfl rfl rfl (Q_indexS (by assumption) (by assumption) rfl rfl rfl (elm rfl) rfl) ?_; refine S_load rfl rfl rfl rfl rfl ?_; refine L_elA (by assumption) (by assumption) (ty rfl) ?_; rintro _ _ _ ⟨pn8_2, qn8_2, rfl, fn8_2⟩; refine S_c rfl rfl rfl (C_alloc rfl (zer rfl) ?_); intro b8_3; refine S_w0 rfl rfl (W_all rfl rfl rfl (ty rfl) u0 (by first | rfl | assumption) (by first | rfl | assumption) (by first | rfl | assumption | exact ones_sub (by assumption) _ _) ?_); refine OPS_nil ?_; refine then_n ?_; refine WP_seq ?_; refine R_region ?_; refine S_q rfl rfl rfl (Q_move rfl rfl) ?_; refine S_q rfl rfl rfl (Q_fieldAddr rfl rfl (fld rfl rfl)) ?_; refine S_load rfl rfl rfl rfl rfl ?_; refine L_sub (Rd.own m0) (ty rfl) rfl ?_; refine S_q rfl rfl rfl (Q_lookupOkS rfl rfl (key_id rfl) idk rfl rfl (.inr m2) (by assumption)) ?_; refine S_q rfl rfl rfl (Q_move rfl rfl) ?_; refine S_q rfl rfl rfl (Q_extract rfl rfl rfl) ?_; refine S_q rfl rfl rfl (Q_extract rfl rfl rfl) ?_; refine S_c rfl rfl rfl (C_alloc rfl (zer rfl) ?_); intro b8_4; refine S_w0 rfl rfl (W_all rfl rfl rfl (ty rfl) u0 (by first | rfl | assumption) (by first | rfl | assumption) (by first | rfl | assumption | exact ones_sub (by assumption) _ _) ?_); refine S_q rfl rfl rfl (Q_assign rfl rfl) ?_; refine OPS_nil ?_; refine then_n ?_; refine WP_block ?_; refine WP_seq ?_; refine R_region ?_; refine S_q rfl rfl rfl (Q_move rfl rfl) ?_; refine S_q rfl rfl rfl (Q_not rfl rfl) ?_; refine S_q rfl rfl rfl (Q_assign rfl rfl) ?_; refine OPS_nil ?_; refine then_n ?_; refine cond_f rfl ?_; refine WP_seq ?_; refine R_region ?_; refine S_q rfl rfl rfl (Q_fieldAddr rfl rfl (fld rfl rfl)) ?_; refine S_load rfl rfl rfl rfl rfl ?_; refine L_fld (Rd.own m0) (ty rfl) rfl ?_; refine S_q rfl rfl rfl (Q_cmp rfl rfl rfl rfl) ?_; refine S_q rfl rfl rfl (Q_fieldAddr rfl rfl (fld rfl rfl)) ?_; refine S_load rfl rfl rfl rfl rfl ?_; refine L_fld (Rd.own m1) (ty rfl) rfl ?_; refine S_q rfl rfl rfl (Q_cmp rfl rfl rfl rfl) ?_; refine S_q rfl rfl rfl (Q_bne rfl rfl rfl rfl) ?_; refine S_q rfl rfl rfl (Q_assign rfl rfl) ?_; refine OPS_nil ?_; refine then_n ?_; refine WP_cond rfl (fun c8_5 => ?_) (fun c8_5 => ?_) <;> (first | (simp [*] at c8_5; done) | (try simp at c8_5)); (focus (refine WP_seq ?_; refine WP_seq ?_; refine R_region ?_; refine S_q rfl rfl rfl (Q_fieldAddr rfl rfl (fld rfl rfl)) ?_; refine S_load rfl rfl rfl rfl rfl ?_; refine L_fld (Rd.own m0) (ty rfl) rfl ?_; refine S_q rfl rfl rfl (Q_fieldAddr rfl rfl (fld rfl rfl)) ?_; refine S_load rfl rfl rfl rfl rfl ?_; refine L_fld (Rd.own m1) (ty rfl) rfl ?_; refine S_q rfl rfl rfl (Q_cmp rfl rfl rfl rfl) ?_; refine OPS_nil ?_; refine then_n ?_; refine WP_cond rfl (fun c8_6 => ?_) (fun c8_6 => ?_) <;> (first | (simp [*] at c8_6; done) | (try simp at c8_6)); (focus (refine WP_seq ?_; refine R_region ?_; refine S_q rfl rfl rfl (Q_build rfl (by decide +kernel) (zer rfl) rfl rfl) ?_; refine S_w0 rfl rfl (W_all rfl rfl rfl (ty rfl) u4 (by first | rfl | assumption) (by first | rfl | assumption) (by first | rfl | assumption | exact ones_sub (by assumption) _ _) ?_); refine S_q rfl rfl rfl (Q_assign rfl rfl) ?_; refine OPS_nil ?_; refine then_n ?_; refine WP_ret ?_; refine then_r ?_; refine block_r ?_; refine block_r ?_; refine then_r ?_; refine roundF_r ?_; refine block_r ?_; refine block_r ?_; refine then_r ?_; refine roundF_r ?_; refine block_r ?_; refine then_r ?_)); rotate_left 1; (focus (refine WP_skip ?_; refine then_n ?_; refine WP_seq ?_; refine R_region ?_; refine S_q rfl rfl rfl (Q_fieldAddr rfl rfl (fld rfl rfl)) ?_; refine S_load rfl rfl rfl rfl rfl ?_; refine L_fld (Rd.own m0) (ty rfl) rfl ?_; refine S_q rfl rfl rfl (Q_cmp rfl rfl rfl rfl) ?_; refine OPS_nil ?_; refine then_n ?_; refine WP_cond rfl (fun c8_7 => ?_) (fun c8_7 => ?_) <;> (first | (simp [*] at c8_7; done) | (try simp at c8_7)); (focus (refine R_region ?_; refine S_q rfl rfl rfl (Q_move rfl rfl) ?_; refine S_q rfl rfl rfl (Q_fieldAddr rfl rfl (fld rfl rfl)) ?_; refine S_load rfl rfl rfl rfl rfl ?_; refine L_sub (Rd.own m1) (ty rfl) rfl ?_; refine S_load rfl rfl rfl rfl rfl ?_; refine L_agg (Rd.own m1) (ty rfl) (by first | rfl | assumption) ?_; refine S_w0 rfl rfl (W_mapUpdate rfl rfl (key_id rfl) rfl idk rfl u3 ?_); refine OPS_nil ?_; refine block_n ?_; refine block_n ?_; refine then_n ?_; refine R_region ?_; refine S_q rfl rfl rfl (Q_add rfl rfl rfl (by omega)) ?_; refine S_q rfl rfl rfl (Q_move rfl rfl) ?_; refine OPS_nil ?_)); rotate_left 1; (focus (refine WP_skip ?_; refine block_n ?_; refine block_n ?_; refine then_n ?_; refine R_region ?_; refine S_q rfl rfl rfl (Q_add rfl rfl rfl (by omega)) ?_; refine S_q rfl rfl rfl (Q_move rfl rfl) ?_; refine OPS_nil ?_)); rotate_left 1)); rotate_left 2)); rotate_left 3; (focus (refine WP_seq ?_; refine R_region ?_; refine S_load rfl rfl rfl rfl rfl ?_; refine L_agg (Rd.own m0) (ty rfl) (by first | rfl | assumption) ?_; refine S_load rfl rfl rfl rfl rfl ?_; refine L_agg (Rd.own m1) (ty rfl) (by first | rfl | assumption) ?_; refine S_c rfl rfl rfl (C_callv (sameNode_s ⟨_, _, rfl, by assumption⟩ ⟨_, _, rfl, by assumption⟩) rfl rfl ⟨_, _, rfl, ⟨_, _, rfl, rfl, rfl⟩, rfl⟩ (cal rfl) ?_); refine S_q rfl rfl rfl (Q_not rfl rfl) ?_; refine S_q rfl rfl rfl (Q_assign rfl rfl) ?_; refine OPS_nil ?_; refine then_n ?_; refine WP_cond rfl (fun c8_8 => ?_) (fun c8_8 => ?_) <;> (first | (simp [*] at c8_8; done) | (try simp at c8_8)); (focus (refine WP_seq ?_; refine R_region ?_; refine S_q rfl rfl rfl (Q_build rfl (by decide +kernel) (zer rfl) rfl rfl) ?_; refine S_w0 rfl rfl (W_all rfl rfl rfl (ty rfl) u4 (by first | rfl | assumption) (by first | rfl | assumption) (by first | rfl | assumption | exact ones_sub (by assumption) _ _) ?_); refine S_q rfl rfl rfl (Q_assign rfl rfl) ?_; refine OPS_nil ?_; refine then_n ?_; refine WP_ret ?_; refine block_r ?_; refine block_r ?_; refine then_r ?_; refine roundF_r ?_; refine block_r ?_; refine block_r ?_; refine then_r ?_; refine roundF_r ?_; refine block_r ?_; refine then_r ?_)); rotate_left 1; (focus (refine WP_skip ?_; refine block_n ?_; refine block_n ?_; refine then_n ?_; refine R_region ?_; refine S_q rfl rfl rfl (Q_add rfl rfl rfl (by omega)) ?_; refine S_q rfl rfl rfl (Q_move rfl rfl) ?_; refine OPS_nil ?_)); rotate_left 1)); rotate_left 2))
          · have hm : mergeN o ⟨(i1, i2), kd, cl, fs⟩ = none := by rw [mergeN, if_neg c8_5, if_neg c8_6]
            rw [NMap_err hN ho hm] at hins
            refine pret (.inl rfl) rfl ⟨_, _, _, rfl, Loads_agg (Rd.own m4) (ty rfl) rfl, ⟨_, _, rfl, rfl, rfl⟩, rfl⟩ ?_
            rw [hun, ← hins]; exact ⟨_, rfl, _, _, rfl, SLB.nil _ _ _ _ _ _⟩
          · have hm : mergeN o ⟨(i1, i2), kd, cl, fs⟩ = some ⟨(i1, i2), kd, cl, fs⟩ := by rw [mergeN, if_neg c8_5, if_pos c8_6, if_pos c8_7]
            obtain ⟨ns', e1, e2, e3⟩ := NMap_set hN hq ho hm fn8_2
            rw [e1] at hins
            exact roundF_n (j + 1, mput (i1, i2) (ndv ⟨(i1, i2), kd, cl, fs⟩ pn8_2 qn8_2) ps, ns') (by simp only; omega) ⟨rfl, by simp only; omega, e3, by simp only; omega, hins⟩ (by repeat' (first | exact List.Sublist.refl _ | exact List.sublist_append_left _ _ | exact List.nil_sublist _ | apply List.Sublist.cons₂ | apply List.Sublist.cons)) (by repeat' (first | exact trivial | refine ⟨rfl, ?_⟩))
          · have hm : mergeN o ⟨(i1, i2), kd, cl, fs⟩ = some o := by rw [mergeN, if_neg c8_5, if_pos c8_6, if_neg c8_7]
            obtain ⟨ns', e1, e2, e3⟩ := NMap_keep hN ho hm
            rw [e1] at hins
            exact roundF_n (j + 1, ps, ns') (by simp only; omega) ⟨rfl, by simp only; omega, e3, by simp only; omega, hins⟩ (by repeat' (first | exact List.Sublist.refl _ | exact List.sublist_append_left _ _ | exact List.nil_sublist _ | apply List.Sublist.cons₂ | apply List.Sublist.cons)) (by repeat' (first | exact trivial | refine ⟨rfl, ?_⟩))
          · have hm : mergeN o ⟨(i1, i2), kd, cl, fs⟩ = none := by rw [mergeN, if_pos c8_5, if_neg c8_8]
            rw [NMap_err hN ho hm] at hins
            refine pret (.inl rfl) rfl ⟨_, _, _, rfl, Loads_agg (Rd.own m4) (ty rfl) rfl, ⟨_, _, rfl, rfl, rfl⟩, rfl⟩ ?_
            rw [hun, ← hins]; exact ⟨_, rfl, _, _, rfl, SLB.nil _ _ _ _ _ _⟩
          · have hm : mergeN o ⟨(i1, i2), kd, cl, fs⟩ = some o := by rw [mergeN, if_pos c8_5, if_pos c8_8]
            obtain ⟨ns', e1, e2, e3⟩ := NMap_keep hN ho hm
            rw [e1] at hins
            exact roundF_n (j + 1, ps, ns') (by simp only; omega) ⟨rfl, by simp only; omega, e3, by simp only; omega, hins⟩ (by repeat' (first | exact List.Sublist.refl _ | exact List.sublist_append_left _ _ | exact List.nil_sublist _ | apply List.Sublist.cons₂ | apply List.Sublist.cons)) (by repeat' (first | exact trivial | refine ⟨rfl, ?_⟩))
      · have hge : j = g.length := by omega
        subst hge
        (focus (refine WP_seq ?_; refine R_region ?_; refine S_q rfl rfl rfl (Q_cmp rfl rfl rfl rfl) ?_; refine OPS_nil ?_; refine then_n ?_; refine WP_seq ?_; refine WP_cond rfl (fun c9_1 => ?_) (fun c9_1 => ?_) <;> (first | (simp [*] at c9_1; done) | (try simp at c9_1)); refine WP_exit ?_; refine then_e ?_; refine roundF_e ?_; refine block_e ?_; refine block_n ?_; refine then_n ?_; refine R_region ?_; refine S_q rfl rfl rfl (Q_add rfl rfl rfl (by omega)) ?_; refine S_q rfl rfl rfl (Q_move rfl rfl) ?_; refine OPS_nil ?_))
        refine roundF_n (k + 1, ps, ns) (by simp only; omega) ⟨rfl, by simp only; omega, hN, ?_, ?_⟩ (by repeat' (first | exact List.Sublist.refl _ | exact List.sublist_append_left _ _ | exact List.nil_sublist _ | apply List.Sublist.cons₂ | apply List.Sublist.cons)) (by repeat' (first | exact trivial | refine ⟨rfl, ?_⟩))
        · simp only; rw [List.take_add_one, eg]; simpa using hnl
        · simpa using hins
    · have hge : k = l.length := by omega
      subst hge
      rw [List.drop_length] at hins
      have hins' : insAll [] l.flatten = some ns := by rw [← hins, List.flatten_nil, insAll]
      rw [hins', resU] at hun
      rw [List.take_length] at hnl
      clear hins hins'
      (focus (refine WP_seq ?_; refine R_region ?_; refine S_q rfl rfl rfl (Q_cmp rfl rfl rfl rfl) ?_; refine OPS_nil ?_; refine then_n ?_; refine WP_seq ?_; refine WP_cond rfl (fun c10_1 => ?_) (fun c10_1 => ?_) <;> (first | (simp [*] at c10_1; done) | (try simp at c10_1)); refine WP_exit ?_; refine then_e ?_; refine roundF_e ?_; refine block_e ?_; refine then_n ?_; refine WP_seq ?_; refine R_region ?_; refine S_c rfl rfl rfl (C_alloc rfl (zer rfl) ?_); intro b10_2; refine OPS_nil ?_; refine then_n ?_; refine WP_seq ?_; refine WP_seq ?_; refine R_region ?_; refine S_q rfl rfl rfl (Q_move rfl rfl) ?_; refine S_c rfl rfl rfl (C_range rfl rfl rfl (.inr m1) ?_); intro b10_3; refine OPS_nil ?_; refine then_n ?_; refine WP_block ?_))
      refine WP_keepM [_, _] [(b3_2, mapObj idv ps)] [_] rfl fun h2 hle hmm => ?_
      have hmp : IsMapP idv h2 b3_2 ps := hmm (b3_2, mapObj idv ps) (by simp)
      have hN := hN.up hle
      (refine WP_loopF (α := List Nat × List Nd × Option Addr × Nat × Hp) [85, 13, 2] (fun (s : List Nat × List Nd × Option Addr × Nat × Hp) => ps.length - s.1.length) (fun (s : List Nat × List Nd × Option Addr × Nat × Hp) => (b10_3, iterObj b3_2 ps.length s.1) :: (b10_2, cells [.slice s.2.2.1 s.2.1.length s.2.2.2.1] 27) :: (b0_1, cells [.slice none 0 0] 27) :: (s.2.2.2.2 ++ [])) (fun (s : List Nat × List Nd × Option Addr × Nat × Hp) => []) (fun hh (s : List Nat × List Nd × Option Addr × Nat × Hp) => le h2 hh ∧ Coll ps ns s.1 s.2.1 ∧ OS hh 38 5 (NodeC 4398046511104) (.slice s.2.2.1 s.2.1.length s.2.2.2.1) s.2.1 s.2.2.2.2) ([], [], none, 0, []) ⟨_, _, rfl, ⟨_, _, rfl, ⟨_, _, rfl, rfl, rfl⟩, rfl⟩, rfl⟩ ?_ (by repeat' (first | exact List.Sublist.refl _ | exact List.sublist_append_left _ _ | exact List.nil_sublist _ | apply List.Sublist.cons₂ | apply List.Sublist.cons)) (by repeat' (first | exact trivial | refine ⟨rfl, ?_⟩)) ?_)
      · exact ⟨le_refl _, Coll_nil _ _, OS.nil _ _ _ _⟩
      rintro h3 ⟨seen, outs, p, c, M⟩ _ ⟨hl3, hC, hO⟩
      simp only at hC hO
      dsimp only
      have hmp := hmp.up hl3
      have hN := hN.up hl3
      have hcl := Coll_le hC
      have hpn := hN.len
      have hol := hC.len
      (focus (refine WP_seq ?_; refine R_region ?_))
      refine S_w rfl rfl rfl (W_next (fun ob => (b10_3, ob) :: (b10_2, cells [.slice p outs.length c] 27) :: (b0_1, cells [.slice none 0 0] 27) :: (M ++ [])) rfl rfl (.inl hmp) (fun ob => Upd.head _) ?_ ?_)
      · intro i k v hpi hns
        obtain ⟨pv, cv, n, rfl, fo, ho⟩ := NMap_get hN (mget_at hN.nodup hpi)
        have hC' := Coll_snoc hC hns hpi ho
        have hcl' := Coll_le hC'
        simp only [List.length_append, List.length_singleton] at hcl'
        (focus (refine S_q rfl rfl rfl (Q_extract rfl rfl rfl) ?_; refine OPS_nil ?_; refine then_n ?_; refine WP_seq ?_; refine cond_t rfl ?_; refine WP_skip ?_; refine then_n ?_; refine WP_block ?_; refine WP_seq ?_; refine R_region ?_; refine S_q rfl rfl rfl (Q_entry rfl rfl (.inl (by assumption)) m0 (by assumption)) ?_; refine S_q rfl rfl rfl (Q_extract rfl rfl rfl) ?_; refine S_c rfl rfl rfl (C_alloc rfl (zer rfl) ?_); intro b13_1; refine S_w0 rfl rfl (W_all rfl rfl rfl (ty rfl) u0 (by first | rfl | assumption) (by first | rfl | assumption) (by first | rfl | assumption | exact ones_sub (by assumption) _ _) ?_); refine OPS_nil ?_; refine then_n ?_; refine R_draw (n := 8) mixed rfl ?_; refine A_at 0 rfl rfl ?_; refine A_q (m' := 1) rfl rfl rfl (Q_fieldAddr rfl rfl (fld rfl rfl)) rfl (by decide +kernel) ?_; refine A_at 1 rfl rfl ?_; refine A_load (m' := 3) rfl rfl rfl rfl rfl rfl (by decide +kernel) ?_; refine L_one (Rd.own m2) (ty rfl) ?_; refine A_at 2 rfl rfl ?_; refine A_load (m' := 7) rfl rfl rfl rfl rfl rfl (by decide +kernel) ?_; refine L_agg (Rd.own m0) (ty rfl) (by first | rfl | assumption) ?_; refine A_at 3 rfl rfl ?_; refine A_c (m' := 15) rfl rfl rfl rfl (by decide +kernel) (C_call (copyNode_s ⟨_, _, rfl, by assumption⟩) rfl rfl ⟨_, _, rfl, rfl, rfl⟩ (cal rfl) ?_); rintro h13_2 _ l13_2 ⟨pc13_2, qc13_2, rfl, fc13_2⟩; replace hO := hO.up l13_2; replace hmp := hmp.up l13_2; replace hN := hN.up l13_2; replace fo := fo.up l13_2; refine A_at 4 rfl rfl ?_; refine A_c (m' := 31) rfl rfl rfl rfl (by decide +kernel) (C_buildSlice rfl (elm rfl) (zer rfl) rfl ⟨_, _, _, rfl, rfl, rfl, rfl, rfl, rfl⟩ rfl rfl ?_); intro b13_3))
        refine A_at 5 rfl rfl ?_
        refine A_w (m' := 63) rfl rfl rfl rfl rfl (by decide +kernel) ?_
        refine W_app1 (y := n) (by_ := 56) [_, _, _, _] _ hO rfl rfl rfl rfl rfl rfl (elm rfl) (zer rfl) rfl rfl rfl rfl ⟨_, _, rfl, fc13_2⟩ (by omega) (by omega) ?_
        rintro p2 c2 M2 hO2
        (focus (refine A_at 6 rfl rfl ?_; refine A_q (m' := 127) rfl rfl rfl (Q_fieldAddr rfl rfl (fld rfl rfl)) rfl (by decide +kernel) ?_; refine A_at 7 rfl rfl ?_; refine A_w0 (m' := 255) rfl rfl rfl rfl (by decide +kernel) (W_one rfl rfl rfl (ty rfl) u2 rfl rfl rfl ?_); refine A_done (by decide +kernel) ?_; refine block_n ?_))
        exact roundF_n (seen ++ [i], outs ++ [n], p2, c2, M2) (by simp only [List.length_append, List.length_singleton]; omega) ⟨le_trans hl3 l13_2, hC', hO2⟩ (by repeat' (first | exact List.Sublist.refl _ | exact List.sublist_append_left _ _ | exact List.nil_sublist _ | apply List.Sublist.cons₂ | apply List.Sublist.cons)) (by repeat' (first | exact trivial | refine ⟨rfl, ?_⟩))
      · intro hall
        (focus (refine S_q rfl rfl rfl (Q_extract rfl rfl rfl) ?_; refine OPS_nil ?_; refine then_n ?_; refine WP_seq ?_; refine cond_f rfl ?_; refine WP_exit ?_; refine then_e ?_; refine roundF_e ?_; refine block_e ?_; refine then_n ?_; refine WP_seq ?_; refine R_region ?_; refine S_q rfl rfl rfl (Q_fieldAddr rfl rfl (fld rfl rfl)) ?_; refine S_load rfl rfl rfl rfl rfl ?_; refine L_one (Rd.own m1) (ty rfl) ?_; refine S_w rfl rfl rfl (W_callF [_, _, _] _ (sortNd_s (by assumption) (by omega)) rfl rfl ⟨_, _, rfl, ⟨_, _, rfl, rfl, rfl⟩, rfl⟩ (cal rfl) rfl ?_); rintro h15_1 m15_1 _ l15_1 ⟨e15_1, rfl, ys15_1, hp15_1, hs15_1, o15_1⟩; replace hO := hO.up l15_1; replace hmp := hmp.up l15_1; replace hN := hN.up l15_1; replace o15_1 := o15_1.up l15_1; refine OPS_nil ?_; refine then_n ?_; refine WP_seq ?_; refine R_region ?_; refine S_load rfl rfl rfl rfl rfl ?_; refine L_agg (Rd.own m1) (ty rfl) (by first | rfl | assumption) ?_; refine S_w0 rfl rfl (W_all rfl rfl rfl (ty rfl) u2 (by first | rfl | assumption) (by first | rfl | assumption) (by first | rfl | assumption | exact ones_sub (by assumption) _ _) ?_); refine S_q rfl rfl rfl (Q_assign rfl rfl) ?_; refine OPS_nil ?_; refine then_n ?_; refine WP_ret ?_))
        have hys := Coll_end hN hC hall hp15_1 hs15_1
        have hyl := hp15_1.length_eq
        subst hys
        refine pretKM [_, _, _] m15_1 _ rfl (.inl rfl) rfl ⟨_, _, _, rfl, Loads_agg (Rd.own m2) (ty rfl) rfl, ⟨_, _, rfl, rfl, rfl⟩, rfl⟩ fun h' hl' hm => ?_
        rw [hun]
        exact ⟨_, rfl, _, _, by rw [hyl], o15_1.sl hl' (NodeC_mono _) hm (by omega)⟩
end Go.Proofs.YtfhoecgiahpddaaGreat
