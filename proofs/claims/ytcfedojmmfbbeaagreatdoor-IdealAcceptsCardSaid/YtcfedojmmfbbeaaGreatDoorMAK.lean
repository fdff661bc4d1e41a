/-
  Part MAK of the proof's ground: X15, X16, X17.
-/
import Derived.Test.YtcfedojmmfbbeaaGreatDoorMAA
import Derived.Test.YtcfedojmmfbbeaaGreatDoorMAJ
/-
  A RUN THAT THE KERNEL RECKONS: what a region that draws its order comes to in the order of its text; which operations are ordered.
-/
set_option linter.all false
namespace Go.Mesh
open Go.RowKit
set_option linter.unusedSimpArgs false
set_option linter.unusedVariables false

theorem agree.symm {off k : Nat} {a b : AO} (x : agree off k a b) : agree off k b a := by
  rcases x with rfl | ⟨c1, c2, e1, e2, l1, h1⟩
  · exact .inl rfl
  · exact .inr ⟨c2, c1, e2, e1, l1.symm, fun c h h' => (h1 c h h').symm⟩

/-! ### Which are ordered -/
theorem orE_bits {acc : List Nat} {i : Nat} : ∀ (es : List Edge) (s : Nat), Nat.testBit (es.foldl (orE acc) s) i = true → Nat.testBit s i = true ∨ ∃ e ∈ es, Region.binds .any e = true ∧ (i = e.on ∨ Nat.testBit ((nthL acc e.on).getD 0) i = true)
  | [], s, h => .inl h
  | e :: es, s, h => by
    rw [List.foldl_cons] at h
    rcases orE_bits es _ h with h | ⟨e', he, hb, h⟩
    · unfold orE at h
      cases hb : Region.binds .any e with
      | false => rw [hb, cond_false] at h; exact .inl h
      | true =>
        rw [hb, cond_true] at h
        have h' : Nat.testBit ((s ||| 2 ^ e.on) ||| ((nthL acc e.on).getD 0)) i = true := h
        rw [Nat.testBit_or, Nat.testBit_or, Nat.testBit_two_pow] at h'
        simp only [Bool.or_eq_true, decide_eq_true_eq] at h'
        rcases h' with (h' | h') | h'
        · exact .inl h'
        · exact .inr ⟨e, by simp, hb, .inl h'.symm⟩
        · exact .inr ⟨e, by simp, hb, .inr h'⟩
    · exact .inr ⟨e', List.mem_cons_of_mem _ he, hb, h⟩
theorem befores_pre : ∀ (os : List Oper) (acc : List Nat), acc <+: befores os acc
  | [], acc => List.prefix_refl _
  | o :: os, acc => (List.prefix_append acc _).trans (befores_pre os _)
theorem befores_get : ∀ (os : List Oper) (acc : List Nat) (j : Nat) (o : Oper), os[j]? = some o → ∃ pre, pre.length = acc.length + j ∧ pre <+: befores os acc ∧ (befores os acc)[acc.length + j]? = some (o.after.toList.foldl (orE pre) 0)
  | [], _, _, _, h => by simp at h
  | o :: os, acc, 0, o', h => by
    simp at h; subst h
    refine ⟨acc, by simp, befores_pre (o :: os) acc, ?_⟩
    have hp := befores_pre os (acc ++ [o.after.toList.foldl (orE acc) 0])
    obtain ⟨t, ht⟩ := hp
    simp only [befores]
    rw [← ht]
    simp
  | o :: os, acc, j + 1, o', h => by
    have h' : os[j]? = some o' := by simpa using h
    obtain ⟨pre, h1, h2, h3⟩ := befores_get os (acc ++ [o.after.toList.foldl (orE acc) 0]) j o' h'
    refine ⟨pre, by simp at h1; omega, h2, ?_⟩
    simp only [befores]
    rw [← h3]; congr 1; simp; omega
abbrev In (listed : Array Bool) (i : Nat) : Prop := listed.getD i false = true

section
variable {l : List Oper}
theorem edges_lt (he : edgesOk l = true) {j : Nat} {o : Oper} (ho : l[j]? = some o) {e : Edge} (h1 : e ∈ o.after) (h2 : Region.binds .any e = true) : e.on < j := by
  unfold edgesOk at he
  rw [List.all_eq_true] at he
  have := he (o, j) (by rw [List.mem_zipIdx_iff_getElem?]; exact ho)
  simp only [List.all_eq_true] at this
  have := this e (by simpa using h1)
  rw [h2] at this
  exact bltT.1 (by simpa using this)
theorem bf_spec (he : edgesOk l = true) {i j : Nat} (h : bfB (befores l []) i j = true) : ∃ o e, l[j]? = some o ∧ e ∈ o.after ∧ Region.binds .any e = true ∧ e.on < j ∧ (i = e.on ∨ bfB (befores l []) i e.on = true) := by
  unfold bfB at h
  cases ho : l[j]? with
  | none =>
    have hl : (befores l []).length ≤ j := by
      have : ∀ (os : List Oper) (acc : List Nat), (befores os acc).length = acc.length + os.length := by
        intro os
        induction os with
        | nil => intro acc; simp [befores]
        | cons o os ih => intro acc; simp [befores, ih]; omega
      rw [this]; simpa using ho
    rw [nthL_eq, List.getElem?_eq_none hl] at h
    simp at h
  | some o =>
    obtain ⟨pre, h1, h2, h3⟩ := befores_get l [] j o ho
    simp only [List.length_nil, Nat.zero_add] at h1 h3
    rw [nthL_eq, h3, Option.getD_some] at h
    rcases orE_bits _ _ h with h | ⟨e, he', hb, h⟩
    · simp at h
    · have he'' : e ∈ o.after := by simpa using he'
      have hlt := edges_lt he ho he'' hb
      refine ⟨o, e, rfl, he'', hb, hlt, h.imp id fun h => ?_⟩
      unfold bfB
      rw [nthL_eq] at h ⊢
      obtain ⟨t, ht⟩ := h2
      rw [← ht, List.getElem?_append_left (by omega)]
      exact h
theorem bf_lt (he : edgesOk l = true) {i : Nat} : ∀ (j : Nat), bfB (befores l []) i j = true → i < j := by
  intro j
  induction j using Nat.strongRecOn with
  | _ j ih =>
    intro h
    obtain ⟨o, e, _, _, _, h1, h2 | h2⟩ := bf_spec he h
    · omega
    · have := ih e.on h1 h2; omega
theorem bf_in (he : edgesOk l = true) {listed : Array Bool} (hc : Closed l.toArray listed) {i : Nat} : ∀ (j : Nat), (∀ o, l[j]? = some o → ∀ e ∈ o.after, Region.binds .any e = true → In listed e.on) → bfB (befores l []) i j = true → In listed i := by
  intro j
  induction j using Nat.strongRecOn with
  | _ j ih =>
    intro hj h
    obtain ⟨o, e, h0, h1, h2, h3, h4⟩ := bf_spec he h
    have hin := hj o h0 e h1 h2
    rcases h4 with rfl | h4
    · exact hin
    · exact ih e.on h3 (fun o' ho' e' he' hb' => hc e.on o' (by simpa using ho') hin e' he' hb') h4
theorem dstsOk_spec : ∀ (l : List Oper) (ds : List Tmp), dstsOk l ds = true → (∀ (i : Nat) (o : Oper) (d : Tmp), l[i]? = some o → o.dst = some d → d ∉ ds) ∧ ∀ (i j : Nat) (o o' : Oper) (d : Tmp), l[i]? = some o → l[j]? = some o' → o.dst = some d → o'.dst = some d → i = j
  | [], ds, _ => ⟨fun i o d h => by simp at h, fun i j o o' d h => by simp at h⟩
  | o :: l, ds, h => by
    unfold dstsOk at h
    cases hd : o.dst with
    | none =>
      rw [hd] at h
      obtain ⟨h1, h2⟩ := dstsOk_spec l ds h
      refine ⟨fun i o' d ho hd' => ?_, fun i j o1 o2 d e1 e2 d1 d2 => ?_⟩
      · cases i with
        | zero => simp at ho; subst ho; rw [hd] at hd'; cases hd'
        | succ i => exact h1 i o' d (by simpa using ho) hd'
      · cases i with
        | zero => simp at e1; subst e1; rw [hd] at d1; cases d1
        | succ i =>
          cases j with
          | zero => simp at e2; subst e2; rw [hd] at d2; cases d2
          | succ j => rw [h2 i j o1 o2 d (by simpa using e1) (by simpa using e2) d1 d2]
    | some d0 =>
      rw [hd] at h
      simp only at h
      cases hc : ds.contains d0 with
      | true => rw [hc] at h; cases h
      | false =>
        rw [hc, cond_false] at h
        obtain ⟨h1, h2⟩ := dstsOk_spec l (d0 :: ds) h
        have hnot : ∀ (i : Nat) (o' : Oper), l[i]? = some o' → o'.dst ≠ some d0 := fun i o' e e' => h1 i o' d0 e e' (by simp)
        refine ⟨fun i o' d ho hd' => ?_, fun i j o1 o2 d e1 e2 d1 d2 => ?_⟩
        · cases i with
          | zero => simp at ho; subst ho; rw [hd] at hd'; cases hd'; simpa using hc
          | succ i => have := h1 i o' d (by simpa using ho) hd'; simp at this; exact this.2
        · cases i with
          | zero =>
            simp at e1; subst e1; rw [hd] at d1; cases d1
            cases j with
            | zero => rfl
            | succ j => exact absurd d2 (hnot j o2 (by simpa using e2))
          | succ i =>
            cases j with
            | zero => simp at e2; subst e2; rw [hd] at d2; cases d2; exact absurd d1 (hnot i o1 (by simpa using e1))
            | succ j => rw [h2 i j o1 o2 d (by simpa using e1) (by simpa using e2) d1 d2]
theorem pairs_spec (hp : pairsOk (befores l []) l = true) {i j : Nat} {a b : Oper} (ha : l[i]? = some a) (hb : l[j]? = some b) (hi : incB (befores l []) i j = true) : looks l a b = false ∧ looks l b a = false ∧ (quiet a.op = true ∨ quiet b.op = true ∨ (isSt a.op = true ∧ isSt b.op = true)) := by
  unfold pairsOk at hp
  rw [List.all_eq_true] at hp
  have h1 := hp (b, j) (by rw [List.mem_zipIdx_iff_getElem?]; exact hb)
  simp only [List.all_eq_true] at h1
  have h2 := h1 (a, i) (by rw [List.mem_zipIdx_iff_getElem?]; exact ha)
  simp only [hi, Bool.not_true, Bool.false_or, pairOk, Bool.and_eq_true, Bool.not_eq_true', Bool.or_eq_true] at h2
  exact ⟨h2.1.1, h2.1.2, by rcases h2.2 with (h | h) | h <;> simp [h]⟩
theorem incB_symm {bs : List Nat} {i j : Nat} (h : incB bs i j = true) : incB bs j i = true := by
  unfold incB at *
  simp only [Bool.and_eq_true, Bool.not_eq_true'] at *
  obtain ⟨⟨h1, h2⟩, h3⟩ := h
  refine ⟨⟨?_, h3⟩, h2⟩
  cases hb : Nat.beq j i with
  | false => rfl
  | true => rw [beqT.1 hb, show Nat.beq i i = true from beqT.2 rfl] at h1; cases h1
/-- what is not unordered is ordered -/
theorem inc_or {bs : List Nat} {i j : Nat} (hne : i ≠ j) (h : incB bs i j = false) : bfB bs i j = true ∨ bfB bs j i = true := by
  unfold incB at h
  have : Nat.beq i j = false := by
    cases hb : Nat.beq i j with
    | false => rfl
    | true => exact absurd (beqT.1 hb) hne
  rw [this] at h
  cases h1 : bfB bs i j with
  | true => exact .inl rfl
  | false =>
    cases h2 : bfB bs j i with
    | true => exact .inr rfl
    | false => rw [h1, h2] at h; cases h
end

/-! ### Frames that are cut to what is looked at -/
theorem pickFr_get {fr : Tr AV} : ∀ (ds : List Tmp) (d : Tmp), (pickFr fr ds).get d = if d ∈ ds then fr.get d else none
  | [], d => by simp [pickFr, Tr.get]
  | e :: ds, d => by
    unfold pickFr
    by_cases hd : d = e
    · subst hd
      cases h : fr.get d with
      | some v => simp [Tr.get_set]
      | none =>
        simp only [pickFr_get ds d, h]
        simp
    · cases h : fr.get e with
      | some v => simp [Tr.get_set, hd, pickFr_get ds d]
      | none => simp [pickFr_get ds d, hd]
theorem pickFr_le {fr : Tr AV} {ds : List Tmp} {d : Tmp} {v : AV} (h : (pickFr fr ds).get d = some v) : fr.get d = some v := by
  rw [pickFr_get] at h
  split at h
  · exact h
  · cases h
theorem aev_le {fr fr' : Tr AV} (hl : ∀ d v, fr.get d = some v → fr'.get d = some v) {x : Operand} {v : AV} (h : aev fr x = some v) : aev fr' x = some v := by
  cases x with
  | tmp t => exact hl _ _ h
  | _ => exact h
theorem readsOf_le {P : Program} {fr fr' : Tr AV} (hl : ∀ d v, fr.get d = some v → fr'.get d = some v) {op : Op} {r : Nat × Nat × Nat} (h : readsOf P fr op = some r) : readsOf P fr' op = some r := by
  unfold readsOf at h ⊢
  split at h
  · simp only [Option.bind_eq_some_iff] at h ⊢
    obtain ⟨v, h1, h2⟩ := h
    exact ⟨v, aev_le hl h1, h2⟩
  · simp only [Option.bind_eq_some_iff] at h ⊢
    obtain ⟨v, h1, h2⟩ := h
    exact ⟨v, aev_le hl h1, h2⟩
  · simp only [Option.bind_eq_some_iff] at h ⊢
    obtain ⟨v, h1, h2⟩ := h
    exact ⟨v, aev_le hl h1, h2⟩
  · split at h
    · simp only [Option.bind_eq_some_iff] at h ⊢
      obtain ⟨v, h1, h2⟩ := h
      exact ⟨v, aev_le hl h1, h2⟩
    · cases h
  · cases h

/-! ### The steps in the order of the text -/
section
variable {P : Program} {call : CallA}
/-- what a step does to the frame -/
theorem stepO_slots {s s' : St} {o : Oper} (h : stepO P call s o = some s') : s'.nt = s.nt ∧ ∃ v, (∀ d, o.dst = some d → d < s.nt ∧ s'.fr = s.fr.set d (some v)) ∧ (o.dst = none → s'.fr = s.fr) := by
  unfold stepO at h
  split at h
  · rename_i v _
    obtain ⟨h1, _, _, _, h2, h3⟩ := St.put_spec h
    exact ⟨h1, v, h2, h3⟩
  · split at h
    · rename_i v _
      obtain ⟨h1, _, _, _, h2, h3⟩ := St.put_spec h
      exact ⟨h1, v.1, h2, h3⟩
    · unfold stepW at h
      split at h
      · simp only [stepC, Option.bind_eq_some_iff] at h
        obtain ⟨q, _, ⟨v, s1⟩, _, h4⟩ := h
        obtain ⟨h1, _, _, _, h2, h3⟩ := St.put_spec h4
        exact ⟨h1, v, h2, h3⟩
      · simp only [Option.bind_eq_some_iff] at h
        obtain ⟨⟨v, s1⟩, h4, h5⟩ := h
        obtain ⟨h1, _, _, _, h2, h3⟩ := St.put_spec h5
        obtain ⟨e1, e2⟩ := opW_fr h4
        refine ⟨h1.trans e2, v, fun d hd => ?_, fun hd => (h3 hd).trans e1⟩
        obtain ⟨q1, q2⟩ := h2 d hd
        exact ⟨by rw [← e2]; exact q1, by rw [q2, e1]⟩
theorem stepG_slots {ops : List Oper} {s s' : St} {o : Oper} (h : stepG P call ops s o = some s') : s'.nt = s.nt ∧ ∃ v, (∀ d, o.dst = some d → d < s.nt ∧ s'.fr = s.fr.set d (some v)) ∧ (o.dst = none → s'.fr = s.fr) := by
  simp only [stepG, Option.bind_eq_some_iff] at h
  obtain ⟨b, _, h⟩ := h
  cases b with
  | true => exact stepO_slots h
  | false =>
    obtain ⟨h1, _, _, _, h2, h3⟩ := St.put_spec h
    exact ⟨h1, _, h2, h3⟩
theorem stepR_slots {ops : List Oper} {s s' : St} {o : Oper} (h : stepR P call ops s o = some s') : s'.nt = s.nt ∧ ∃ v, ∀ d, s'.fr.get d = if o.dst = some d then some v else s.fr.get d := by
  simp only [stepR, Option.bind_eq_some_iff, Option.some.injEq] at h
  obtain ⟨s1, h1, rfl⟩ := h
  obtain ⟨h2, v, h3, h4⟩ := stepG_slots h1
  refine ⟨h2, v, fun d => ?_⟩
  cases hd : o.dst with
  | none => simp
  | some d' =>
    obtain ⟨_, h5⟩ := h3 d' hd
    simp only [Tr.get_set, h5, if_true, Option.some.injEq]
    by_cases he : d = d'
    · subst he; simp
    · have : ¬ d' = d := fun e => he e.symm
      simp [he, this]
theorem quiet_W {s s' : St} {o : Oper} (hq : quiet o.op = true) (h : stepW P call s o = some s') : False := by
  unfold stepW at h
  split at h
  · rename_i c hc
    unfold callOf at hc
    split at hc
    · rename_i c' hop
      rw [hop] at hq
      split at hc
      · cases hc
      · rename_i hnb
        obtain ⟨callee, args, argTypes⟩ := c'
        cases callee with
        | builtin b => exact hnb b rfl
        | value f => simp [quiet] at hq
        | invoke r m => simp [quiet] at hq
    · cases hc
  · simp only [Option.bind_eq_some_iff] at h
    obtain ⟨v, h1, _⟩ := h
    unfold opW at h1
    split at h1
    · rename_i e; rw [e] at hq; simp [quiet] at hq
    · rename_i e; rw [e] at hq; simp [quiet] at hq
    · rename_i e; rw [e] at hq; simp [quiet] at hq
    · rename_i e; rw [e] at hq; simp [quiet] at hq
    · rename_i e; rw [e] at hq; simp [quiet] at hq
    · rename_i c e
      rw [e] at hq
      obtain ⟨callee, args, argTypes⟩ := c
      split at h1
      · rename_i e2; simp only at e2; subst e2; simp [quiet] at hq
      · rename_i e2; simp only at e2; subst e2; simp [quiet] at hq
      · rename_i e2; simp only at e2; subst e2; simp [quiet] at hq
      · cases h1
    · cases h1
theorem quiet_log {ops : List Oper} {s s' : St} {o : Oper} (hq : quiet o.op = true) (h : stepR P call ops s o = some s') : s'.log = [] := by
  simp only [stepR, stepG, Option.bind_eq_some_iff, Option.some.injEq] at h
  obtain ⟨s1, ⟨b, _, h1⟩, rfl⟩ := h
  cases b with
  | false => exact (St.put_spec h1).2.2.2.1
  | true =>
    rw [cond_true] at h1
    unfold stepO at h1
    split at h1
    · exact (St.put_spec h1).2.2.2.1
    · split at h1
      · exact (St.put_spec h1).2.2.2.1
      · exact (quiet_W hq h1).elim
/-- a store that is taken: its block, what it writes -/
theorem store_log {ops : List Oper} {s s' : St} {o : Oper} (hq : isSt o.op = true) (h : stepR P call ops s o = some s') : ∀ e, e ∈ s'.log → readsOf P s.fr o.op = some (e.1, 0, big) := by
  simp only [stepR, stepG, Option.bind_eq_some_iff, Option.some.injEq] at h
  obtain ⟨s1, ⟨b, _, h1⟩, rfl⟩ := h
  obtain ⟨dst, op, type, pos, after, guard⟩ := o
  simp only at hq h1 ⊢
  intro e he
  cases b with
  | false => rw [(St.put_spec h1).2.2.2.1] at he; cases he
  | true =>
    cases op <;> simp only [isSt, Bool.false_eq_true] at hq
    rename_i t p q
    rw [cond_true] at h1
    simp only [stepO, opQ, opA, stepW, callOf, Option.bind_eq_some_iff, opW] at h1
    obtain ⟨⟨v, s2⟩, h2, h3⟩ := h1
    rw [(St.put_spec h3).2.2.2.1] at he
    simp only [wStore, Option.bind_eq_some_iff, bsome, Option.some.injEq, Prod.mk.injEq] at h2
    obtain ⟨vp, e1, q1, e2, u, e3, g, e4, e5, s3, e6, _, rfl⟩ := h2
    obtain ⟨l0, f0⟩ := (⟨_, HpF.cells e6⟩ : HasF _ _)
    have hlog := (HpF.cells e6).log
    simp only [List.append_nil] at hlog
    rw [hlog] at he
    simp only [List.mem_singleton] at he
    subst he
    simp only [readsOf, Option.bind_eq_some_iff]
    exact ⟨vp, aev_le (fun d v h => pickFr_le h) e1, q1, e2, rfl⟩
end
end Go.Mesh
/-
  A RUN THAT THE KERNEL RECKONS: a region that draws its order; what holds when some of its operations have been taken.
-/
set_option linter.all false
namespace Go.Mesh
open Go.RowKit
set_option linter.unusedSimpArgs false
set_option linter.unusedVariables false

structure Trc (P : Program) (call : CallA) (l : List Oper) (st : Nat → St) (lg : Nat → Lg) : Prop where
  step : ∀ i o, l[i]? = some o → ∃ s1, stepR P call l (st i) o = some s1 ∧ st (i + 1) = { s1 with log := s1.log ++ (st i).log } ∧ lg i = s1.log
  watch : ∀ i j o n, l[i]? = some o → j < l.length → readsOf P (st i).fr o.op = some n → hits n (lg j) = true → incB (befores l []) i j = false

section
variable {P : Program} {call : CallA} {l : List Oper}

/-! ### The trace of a run -/
def stA (P : Program) (call : CallA) (l : List Oper) (s0 : St) : Nat → St
  | 0 => s0
  | i + 1 => match l[i]? with
    | some o => (match stepR P call l (stA P call l s0 i) o with | some s1 => { s1 with log := s1.log ++ (stA P call l s0 i).log } | none => stA P call l s0 i)
    | none => stA P call l s0 i
def lgA (P : Program) (call : CallA) (l : List Oper) (s0 : St) (i : Nat) : Lg :=
  match l[i]? with
  | some o => (match stepR P call l (stA P call l s0 i) o with | some s1 => s1.log | none => [])
  | none => []
theorem runD_trace {s0 : St} : ∀ (rest : List Oper) (k : Nat) (s' : St) (rw : List RW), l.drop k = rest → k ≤ l.length → runD P call l rest (stA P call l s0 k) = some (s', rw) →
    (∀ i o, k ≤ i → l[i]? = some o → ∃ s1, stepR P call l (stA P call l s0 i) o = some s1 ∧ rw[i - k]? = some (readsOf P (stA P call l s0 i).fr o.op, s1.log)) ∧ stA P call l s0 l.length = s'
  | [], k, s', rw, hd, hk, h => by
    have hlen : l.length ≤ k := by simpa using hd
    have : k = l.length := by omega
    subst this
    simp only [runD, Option.some.injEq, Prod.mk.injEq] at h
    refine ⟨fun i o hi ho => ?_, h.1⟩
    have := (List.getElem?_eq_some_iff.1 ho).1
    omega
  | o :: rest, k, s', rw, hd, hk, h => by
    have hget : l[k]? = some o := by
      have := congrArg (·[0]?) hd
      simpa using this
    have hlt := (List.getElem?_eq_some_iff.1 hget).1
    have hd' : l.drop (k + 1) = rest := by
      rw [← List.drop_drop, hd]; rfl
    simp only [runD, Option.bind_eq_some_iff, Option.some.injEq, Prod.mk.injEq] at h
    obtain ⟨s1, h1, ⟨s2, rw2⟩, h2, h3, h4⟩ := h
    simp only at h3 h4
    have hst : stA P call l s0 (k + 1) = { s1 with log := s1.log ++ (stA P call l s0 k).log } := by
      simp only [stA, hget, h1]
    rw [← hst] at h2
    obtain ⟨g1, g2⟩ := runD_trace rest (k + 1) s2 rw2 hd' hlt h2
    refine ⟨fun i o' hi ho' => ?_, g2.trans h3⟩
    by_cases he : i = k
    · subst he
      rw [hget] at ho'; cases ho'
      exact ⟨s1, h1, by rw [← h4]; simp⟩
    · obtain ⟨s3, g3, g4⟩ := g1 i o' (by omega) ho'
      refine ⟨s3, g3, ?_⟩
      rw [← h4, show i - k = (i - (k + 1)) + 1 by omega]
      simpa using g4
theorem trc_of {s0 s' : St} {rw : List RW} (h : runD P call l l s0 = some (s', rw)) (hw : watchOk (befores l []) rw = true) : Trc P call l (stA P call l s0) (lgA P call l s0) ∧ stA P call l s0 l.length = s' := by
  obtain ⟨h1, h2⟩ := runD_trace (s0 := s0) l 0 s' rw (by simp) (Nat.zero_le _) h
  refine ⟨⟨fun i o ho => ?_, fun i j o n ho hj hr hh => ?_⟩, h2⟩
  · obtain ⟨s1, g1, _⟩ := h1 i o (Nat.zero_le _) ho
    exact ⟨s1, g1, by simp only [stA, ho, g1], by simp only [lgA, ho, g1]⟩
  · obtain ⟨s1, g1, g2⟩ := h1 i o (Nat.zero_le _) ho
    obtain ⟨oj, hoj⟩ : ∃ oj, l[j]? = some oj := ⟨l[j], by simp [hj]⟩
    obtain ⟨s2, g3, g4⟩ := h1 j oj (Nat.zero_le _) hoj
    have hlj : lgA P call l s0 j = s2.log := by simp only [lgA, hoj, g3]
    rw [hlj] at hh
    simp only [Nat.sub_zero, hr] at g2 g4
    unfold watchOk at hw
    rw [List.all_eq_true] at hw
    have w1 := hw (_, i) (by rw [List.mem_zipIdx_iff_getElem?]; exact g2)
    simp only [List.all_eq_true] at w1
    have w2 := w1 (_, j) (by rw [List.mem_zipIdx_iff_getElem?]; exact g4)
    simp only [hh, cond_true, Bool.not_eq_true'] at w2
    exact w2

variable {st : Nat → St} {lg : Nat → Lg}
def inR (st : Nat → St) (i n : Nat) : Prop := (st i).next ≤ n ∧ n < (st (i + 1)).next
def tch (st : Nat → St) (lg : Nat → Lg) (i n : Nat) : Prop := (∃ e, e ∈ lg i ∧ e.1 = n) ∨ inR st i n

section
variable (T : Trc P call l st lg) (hcf : ∀ f vs s v s', call f vs s = some (v, s') → HasF s s')
include T hcf
theorem T_hpf {i : Nat} (hi : i < l.length) : HpF (lg i) (st i) (st (i + 1)) := by
  obtain ⟨s1, h1, h2, h3⟩ := T.step i l[i] (by simp [hi])
  rw [h2, h3]; exact stepR_f hcf h1
theorem T_mono {i : Nat} : ∀ (j : Nat), i ≤ j → j ≤ l.length → (st i).next ≤ (st j).next := by
  intro j
  induction j with
  | zero => intro h _; rw [show i = 0 by omega]; exact Nat.le_refl _
  | succ j ih =>
    intro h h'
    by_cases he : i = j + 1
    · subst he; exact Nat.le_refl _
    · exact Nat.le_trans (ih (by omega) (by omega)) (T_hpf T hcf (by omega)).next
theorem T_dom (hd : DomS (st 0)) : ∀ (i : Nat), i ≤ l.length → DomS (st i) := by
  intro i
  induction i with
  | zero => intro _; exact hd
  | succ i ih => intro h; exact (T_hpf T hcf (by omega)).dom (ih (by omega))
theorem T_nt : ∀ (i : Nat), i ≤ l.length → (st i).nt = (st 0).nt := by
  intro i
  induction i with
  | zero => intro _; rfl
  | succ i ih =>
    intro h
    obtain ⟨s1, h1, h2, h3⟩ := T.step i l[i] (List.getElem?_eq_getElem (by omega))
    rw [h2]; exact (stepR_slots h1).1.trans (ih (by omega))
theorem R_disj {i j n : Nat} (hi : i < l.length) (hj : j < l.length) (h1 : inR st i n) (h2 : inR st j n) : i = j := by
  rcases Nat.lt_trichotomy i j with h | h | h
  · have := T_mono T hcf (i := i + 1) j (by omega) (by omega); have := h1.2; have := h2.1; omega
  · exact h
  · have := T_mono T hcf (i := j + 1) i (by omega) (by omega); have := h2.2; have := h1.1; omega
theorem R_lt {i j n : Nat} (hi : i < l.length) (hj : j ≤ l.length) (h1 : inR st i n) (h2 : n < (st j).next) : i < j := by
  refine Nat.lt_of_not_le fun h => ?_
  have := T_mono T hcf (i := j) i h (by omega); have := h1.1; omega
theorem T_same {m n : Nat} : ∀ (i : Nat), m ≤ i → i ≤ l.length → n < (st m).next → (∀ j, m ≤ j → j < i → ∀ e, e ∈ lg j → e.1 ≠ n) → (st i).hp.get n = (st m).hp.get n := by
  intro i
  induction i with
  | zero => intro h _ _ _; rw [show m = 0 by omega]
  | succ i ih =>
    intro h h' hn hj
    by_cases he : m = i + 1
    · subst he; rfl
    · rw [← ih (by omega) (by omega) hn fun j h1 h2 => hj j h1 (by omega)]
      exact (T_hpf T hcf (by omega)).same n (Nat.lt_of_lt_of_le hn (T_mono T hcf i (by omega) (by omega))) (hj i (by omega) (by omega))
theorem T_agree {m n off k : Nat} : ∀ (i : Nat), m ≤ i → i ≤ l.length → n < (st m).next → (∀ j, m ≤ j → j < i → ∀ e, e ∈ lg j → hit (n, off, k) e = false) →
    (st i).hp.get n = (st m).hp.get n ∨ ∃ o o', (st m).hp.get n = some o ∧ (st i).hp.get n = some o' ∧ agree off k o o' := by
  intro i
  induction i with
  | zero => intro h _ _ _; rw [show m = 0 by omega]; exact .inl rfl
  | succ i ih =>
    intro h h' hn hj
    by_cases he : m = i + 1
    · subst he; exact .inl rfl
    · have h1 := ih (by omega) (by omega) hn fun j h1 h2 => hj j h1 (by omega)
      have h2 := (T_hpf T hcf (i := i) (by omega)).part n off k (Nat.lt_of_lt_of_le hn (T_mono T hcf i (by omega) (by omega))) (hj i (by omega) (by omega))
      rcases h1 with e1 | ⟨o1, o2, e1, e2, a1⟩
      · rcases h2 with e3 | ⟨o3, o4, e3, e4, a2⟩
        · exact .inl (e3.trans e1)
        · exact .inr ⟨o3, o4, by rw [← e1]; exact e3, e4, a2⟩
      · rcases h2 with e3 | ⟨o3, o4, e3, e4, a2⟩
        · exact .inr ⟨o1, o2, e1, by rw [e3]; exact e2, a1⟩
        · rw [e2] at e3; cases e3
          exact .inr ⟨o1, o4, e1, e4, a1.trans a2⟩
omit hcf in
/-- two operations that write the same block are ordered -/
theorem T_ww (hd : drawOk l = true) {i k n : Nat} (hi : i < l.length) (hk : k < l.length) (hne : k ≠ i) (h1 : ∃ e, e ∈ lg k ∧ e.1 = n) (h2 : ∃ e, e ∈ lg i ∧ e.1 = n) : incB (befores l []) k i = false := by
  cases hb : incB (befores l []) k i with
  | false => rfl
  | true =>
    exfalso
    obtain ⟨e1, he1, rfl⟩ := h1
    obtain ⟨e2, he2, hee⟩ := h2
    simp only [drawOk, Bool.and_eq_true] at hd
    obtain ⟨_, _, q⟩ := pairs_spec hd.2.2 (show l[k]? = some l[k] by simp [hk]) (show l[i]? = some l[i] by simp [hi]) hb
    obtain ⟨s1, g1, _, g3⟩ := T.step k l[k] (by simp [hk])
    obtain ⟨s2, g4, _, g6⟩ := T.step i l[i] (by simp [hi])
    rcases q with q | q | ⟨_, q⟩
    · rw [g3, quiet_log q g1] at he1; cases he1
    · rw [g6, quiet_log q g4] at he2; cases he2
    · rw [g6] at he2
      have hr := store_log q g4 e2 he2
      have hh : hits (e2.1, 0, big) (lg k) = true := by
        have : ∀ (L : Lg), e1 ∈ L → hits (e2.1, 0, big) L = true := by
          intro L
          induction L with
          | nil => intro h; cases h
          | cons b L ih =>
            intro h
            simp only [hits]
            rcases List.mem_cons.1 h with rfl | h
            · have : hit (e2.1, 0, big) e1 = true := by
                unfold hit
                rw [show Nat.beq e2.1 e1.1 = true from beqT.2 hee]
                simp only [cond_true]
                cases Nat.beq e1.2.2 big <;> simp
              rw [this]; rfl
            · rw [ih h]; cases hit (e2.1, 0, big) b <;> rfl
        exact this _ he1
      have := T.watch i k _ _ (show l[i]? = some l[i] by simp [hi]) hk hr hh
      rw [incB_symm hb] at this; cases this
end

/-! ### What holds when the operations S have been taken -/
structure DInv (l : List Oper) (st : Nat → St) (lg : Nat → Lg) (B base : Nat) (ρ0 : Nm) (w0 : World) (a0 : Act) (S : Array Bool) (ρ : Nm) (hp : Tr AO) (a : Act) (w : World) : Prop where
  ssize : S.size = l.length
  closed : Closed l.toArray S
  tsize : a.tmps.size = (st 0).nt
  defers : a.defers = a0.defers
  slot1 : ∀ i o d v, l[i]? = some o → In S i → o.dst = some d → (st (i + 1)).fr.get d = some v → ∃ u, a.tmps[d]? = some u ∧ DenV ρ v u
  slot0 : ∀ d v, (∀ i o, l[i]? = some o → In S i → o.dst ≠ some d) → (st 0).fr.get d = some v → ∃ u, a.tmps[d]? = some u ∧ DenV ρ v u
  hp0 : ∀ n, (∀ i, In S i → ¬ tch st lg i n) → hp.get n = (st 0).hp.get n
  hp1 : ∀ n i, In S i → tch st lg i n → (∀ j, In S j → tch st lg j n → j ≤ i) → hp.get n = (st (i + 1)).hp.get n
  glob : Glob ρ
  fresh : ∀ n, (st 0).next ≤ n → n < B → (∀ i, In S i → ¬ inR st i n) → ρ n = none ∧ ρ.κ n = none
  size : base ≤ w.heap.size
  cont : ∀ n o b, hp.get n = some o → ρ n = some b → ∃ ob, w.heap[b]? = some ob ∧ DenO ρ o ob
  high : ∀ n b, n0 ≤ n → ρ n = some b → base ≤ b
  low : ∀ n b, n < n0 → ρ n = some b → b < base
  inj : ∀ n m o o' b, n0 ≤ n → n0 ≤ m → hp.get n = some o → hp.get m = some o' → ρ n = some b → ρ m = some b → n = m
  ext : leN ρ0 ρ
  new : ∀ n b, ρ n = some b → ρ0 n = some b ∨ ((∃ i, In S i ∧ inR st i n) ∧ (w0.heap.size ≤ b ∨ ∃ i e, In S i ∧ e ∈ lg i ∧ ρ0 e.1 = some b))
  newκ : ∀ n c, ρ.κ n = some c → ρ0.κ n = some c ∨ ∃ i, In S i ∧ inR st i n
  gsize : w0.heap.size ≤ w.heap.size
  frame : ∀ b, b < w0.heap.size → (∀ i e, In S i → e ∈ lg i → ρ0 e.1 ≠ some b) → w.heap[b]? = w0.heap[b]?
  os : w.os = w0.os
  tape : w.tape = w0.tape
  output : w.output = w0.output
  drawn : w0.drawn ≤ w.drawn
  known : ∀ i e, In S i → e ∈ lg i → ∃ b, ρ e.1 = some b

theorem exists_max {p : Nat → Prop} {N : Nat} (hN : ∀ i, p i → i < N) : (∀ i, ¬ p i) ∨ ∃ m, p m ∧ ∀ i, p i → i ≤ m := by
  induction N with
  | zero => exact .inl fun i h => by have := hN i h; omega
  | succ N ih =>
    by_cases hp : p N
    · exact .inr ⟨N, hp, fun i h => by have := hN i h; omega⟩
    · refine ih fun i h => ?_
      have := hN i h
      by_cases e : i = N
      · subst e; exact absurd h hp
      · omega

section
variable {B base : Nat} {ρ0 ρ : Nm} {w0 w : World} {a0 a : Act} {S : Array Bool} {hp : Tr AO}
variable (T : Trc P call l st lg) (hcf : ∀ f vs s v s', call f vs s = some (v, s') → HasF s s') (hdr : drawOk l = true) (hB : (st l.length).next ≤ B) (hdom : DomS (st 0))
variable (D : DInv l st lg B base ρ0 w0 a0 S ρ hp a w) {i : Nat} {o : Oper} (ho : l[i]? = some o) (hni : ¬ In S i) (hdep : ∀ e ∈ o.after, Region.binds .any e = true → In S e.on)
include D
theorem In.lt {j : Nat} (h : In S j) : j < l.length := by
  rw [← D.ssize]
  refine Nat.lt_of_not_le fun hle => ?_
  unfold In at h
  rw [Array.getD_eq_getD_getElem?, Array.getElem?_eq_none hle] at h
  cases h
include T hcf hB
/-- what is known and was not there, some operation has made -/
theorem D_made {n b : Nat} (hr : ρ n = some b) (hi : i ≤ l.length) (hn : n < (st i).next) : n < (st 0).next ∨ ∃ c, In S c ∧ c < i ∧ inR st c n := by
  by_cases h0 : n < (st 0).next
  · exact .inl h0
  · by_cases hx : ∃ c, In S c ∧ inR st c n
    · obtain ⟨c, h1, h2⟩ := hx
      exact .inr ⟨c, h1, R_lt T hcf (In.lt D h1) hi h2 hn, h2⟩
    · have h1 := T_mono T hcf l.length hi (Nat.le_refl _)
      have h2 := (D.fresh n (by omega) (by omega) fun c h1 h2 => hx ⟨c, h1, h2⟩).1
      rw [hr] at h2; cases h2
include hdr ho hni hdep
omit T hcf hB in
theorem D_before {k : Nat} (h : bfB (befores l []) k i = true) : In S k := by
  simp only [drawOk, Bool.and_eq_true] at hdr
  exact bf_in hdr.1 D.closed i (fun o' ho' e he hb => by rw [ho] at ho'; cases ho'; exact hdep e he hb) h
omit T hcf hB ho hdep in
theorem D_after {k : Nat} (h : bfB (befores l []) i k = true) : ¬ In S k := fun hk => by
  simp only [drawOk, Bool.and_eq_true] at hdr
  exact hni (bf_in hdr.1 D.closed k (fun o' ho' e he hb => D.closed k o' (by simpa using ho') hk e he hb) h)
theorem D_same {n b : Nat} (hr : ρ n = some b) (hn : n < (st i).next) (hc : ∀ k, k < l.length → k ≠ i → (∃ e, e ∈ lg k ∧ e.1 = n) → incB (befores l []) k i = false) : hp.get n = (st i).hp.get n := by
  have hi := (List.getElem?_eq_some_iff.1 ho).1
  have hed : edgesOk l = true := by simp only [drawOk, Bool.and_eq_true] at hdr; exact hdr.1
  have hmade := D_made T hcf hB D hr (Nat.le_of_lt hi) hn
  have hj : ∀ j, j < i → (∃ e, e ∈ lg j ∧ e.1 = n) → In S j := fun j hlt he => by
    rcases inc_or (by omega) (hc j (by omega) (by omega) he) with h | h
    · exact D_before hdr D ho hni hdep h
    · have := bf_lt hed _ h; omega
  rcases exists_max (p := fun j => In S j ∧ tch st lg j n) (fun j h => In.lt D h.1) with h | ⟨m, ⟨hm1, hm2⟩, hmax⟩
  · rw [D.hp0 n fun j h1 h2 => h j ⟨h1, h2⟩]
    have h0 : n < (st 0).next := by
      rcases hmade with h0 | ⟨c, h1, _, h2⟩
      · exact h0
      · exact absurd ⟨h1, .inr h2⟩ (h c)
    refine (T_same T hcf i (Nat.zero_le _) (by omega) h0 fun j _ hlt e he hee => ?_).symm
    exact h j ⟨hj j hlt ⟨e, he, hee⟩, .inl ⟨e, he, hee⟩⟩
  · have hmi : m < i := by
      rcases hm2 with hm2 | hm2
      · have hne : m ≠ i := fun e => hni (e ▸ hm1)
        rcases inc_or hne (hc m (In.lt D hm1) hne hm2) with h | h
        · exact bf_lt hed _ h
        · exact absurd hm1 (D_after hdr D hni h)
      · exact R_lt T hcf (In.lt D hm1) (by omega) hm2 hn
    rw [D.hp1 n m hm1 hm2 fun j h1 h2 => hmax j ⟨h1, h2⟩]
    have h0 : n < (st (m + 1)).next := by
      rcases hmade with h0 | ⟨c, h1, _, h2⟩
      · exact Nat.lt_of_lt_of_le h0 (T_mono T hcf _ (Nat.zero_le _) (by omega))
      · have := hmax c ⟨h1, .inr h2⟩
        exact Nat.lt_of_lt_of_le h2.2 (T_mono T hcf _ (by omega) (by omega))
    refine (T_same T hcf i hmi (by omega) h0 fun j h1 hlt e he hee => ?_).symm
    have := hmax j ⟨hj j hlt ⟨e, he, hee⟩, .inl ⟨e, he, hee⟩⟩
    omega
theorem D_agree {n b off kk : Nat} (hr : ρ n = some b) (hn : n < (st i).next) (hli : lg i = []) (hc : ∀ k, k < l.length → k ≠ i → incB (befores l []) k i = true → ∀ e, e ∈ lg k → hit (n, off, kk) e = false) :
    hp.get n = (st i).hp.get n ∨ ∃ o o', hp.get n = some o ∧ (st i).hp.get n = some o' ∧ agree off kk o o' := by
  have hi := (List.getElem?_eq_some_iff.1 ho).1
  have hed : edgesOk l = true := by simp only [drawOk, Bool.and_eq_true] at hdr; exact hdr.1
  have hmade := D_made T hcf hB D hr (Nat.le_of_lt hi) hn
  have hit_ne : ∀ e : Nat × Nat × Nat, e.1 ≠ n → hit (n, off, kk) e = false := fun e he => by
    unfold hit
    have : Nat.beq n e.1 = false := by
      cases hb : Nat.beq n e.1 with
      | false => rfl
      | true => exact absurd (beqT.1 hb).symm he
    simp [this]
  -- an operation before i in the text that is not among S's writers of n does not hit
  have hj : ∀ j, j < i → (¬ (In S j ∧ tch st lg j n)) → ∀ e, e ∈ lg j → hit (n, off, kk) e = false := fun j hlt hns e he => by
    by_cases hee : e.1 = n
    · cases hb : incB (befores l []) j i with
      | true => exact hc j (by omega) (by omega) hb e he
      | false =>
        rcases inc_or (by omega) hb with h | h
        · exact absurd ⟨D_before hdr D ho hni hdep h, .inl ⟨e, he, hee⟩⟩ hns
        · have := bf_lt hed _ h; omega
    · exact hit_ne e hee
  rcases exists_max (p := fun j => In S j ∧ tch st lg j n) (fun j h => In.lt D h.1) with h | ⟨m, ⟨hm1, hm2⟩, hmax⟩
  · rw [D.hp0 n fun j h1 h2 => h j ⟨h1, h2⟩]
    have h0 : n < (st 0).next := by
      rcases hmade with h0 | ⟨c, h1, _, h2⟩
      · exact h0
      · exact absurd ⟨h1, .inr h2⟩ (h c)
    rcases T_agree T hcf (off := off) (k := kk) i (Nat.zero_le _) (by omega) h0 fun j _ hlt e he => hj j hlt (h j) e he with e | e
    · exact .inl e.symm
    · exact .inr e
  · rw [D.hp1 n m hm1 hm2 fun j h1 h2 => hmax j ⟨h1, h2⟩]
    have hne : m ≠ i := fun e => hni (e ▸ hm1)
    by_cases hmi : m < i
    · have h0 : n < (st (m + 1)).next := by
        rcases hmade with h0 | ⟨c, h1, _, h2⟩
        · exact Nat.lt_of_lt_of_le h0 (T_mono T hcf _ (Nat.zero_le _) (by omega))
        · have := hmax c ⟨h1, .inr h2⟩
          exact Nat.lt_of_lt_of_le h2.2 (T_mono T hcf _ (by omega) (by omega))
      rcases T_agree T hcf (off := off) (k := kk) i hmi (by omega) h0 fun j h1 hlt e he => hj j hlt (fun h2 => by have := hmax j h2; omega) e he with e | e
      · exact .inl e.symm
      · exact .inr e
    · have hmlt := In.lt D hm1
      have hml : ∃ e, e ∈ lg m ∧ e.1 = n := by
        rcases hm2 with h | h
        · exact h
        · have := R_lt T hcf hmlt (by omega) h hn; omega
      rcases T_agree T hcf (m := i) (off := off) (k := kk) (m + 1) (by omega) (by omega) hn (fun j h1 hlt e he => by
        by_cases hee : e.1 = n
        · have hji : j ≠ i := fun e' => by subst e'; rw [hli] at he; cases he
          cases hb : incB (befores l []) j i with
          | true => exact hc j (by omega) hji hb e he
          | false =>
            rcases inc_or hji hb with h | h
            · have := bf_lt hed _ h; omega
            · exfalso
              by_cases hjm : j = m
              · exact D_after hdr D hni h (hjm ▸ hm1)
              · rcases inc_or hjm (T_ww T hdr hmlt (by omega) hjm ⟨e, he, hee⟩ hml) with h2 | h2
                · have : In S j := bf_in hed D.closed m (fun o' ho' e he hb => D.closed m o' (by simpa using ho') hm1 e he hb) h2
                  exact D_after hdr D hni h this
                · have := bf_lt hed _ h2; omega
        · exact hit_ne e hee) with e | ⟨o1, o2, e1, e2, ag⟩
      · exact .inl e
      · exact .inr ⟨o2, o1, e2, e1, ag.symm⟩
/-- the slots that operation i looks at -/
theorem D_slots : SlotsD ρ (pickFr (st i).fr (needs l o)) (st i).nt a.tmps := by
  have hi := (List.getElem?_eq_some_iff.1 ho).1
  have hdr' := hdr
  simp only [drawOk, Bool.and_eq_true] at hdr'
  obtain ⟨hed, hds, hps⟩ := hdr'
  have huniq := (dstsOk_spec l [] hds).2
  refine ⟨by rw [D.tsize, T_nt T hcf i (by omega)], fun d v hv => ?_⟩
  rw [pickFr_get] at hv
  split at hv
  · rename_i hd
    -- the slot is of an operation before i, or of none
    have last : ∀ j, j ≤ l.length → (∃ k ok, k < j ∧ l[k]? = some ok ∧ ok.dst = some d ∧ (st j).fr.get d = (st (k + 1)).fr.get d) ∨ ((∀ k ok, k < j → l[k]? = some ok → ok.dst ≠ some d) ∧ (st j).fr.get d = (st 0).fr.get d) := by
      intro j
      induction j with
      | zero => intro _; exact .inr ⟨fun k ok h => by omega, rfl⟩
      | succ j ih =>
        intro hj
        have hlj : l[j]? = some l[j] := List.getElem?_eq_getElem (by omega)
        obtain ⟨s1, g1, g2, _⟩ := T.step j l[j] hlj
        obtain ⟨_, v', g3⟩ := stepR_slots g1
        by_cases hdj : l[j].dst = some d
        · exact .inl ⟨j, l[j], by omega, hlj, hdj, rfl⟩
        · have hsame : (st (j + 1)).fr.get d = (st j).fr.get d := by rw [g2]; simp only [g3, hdj, if_false]
          rw [hsame]
          rcases ih (by omega) with ⟨k, ok, h1, h2, h3, h4⟩ | ⟨h1, h2⟩
          · exact .inl ⟨k, ok, by omega, h2, h3, h4⟩
          · refine .inr ⟨fun k ok hk hok => ?_, h2⟩
            by_cases e : k = j
            · subst e; rw [hlj] at hok; cases hok; exact hdj
            · exact h1 k ok (by omega) hok
    have looked : ∀ k ok, l[k]? = some ok → ok.dst = some d → k ≠ i → bfB (befores l []) k i = true ∨ bfB (befores l []) i k = true := fun k ok hk hdk hne => by
      cases hb : incB (befores l []) k i with
      | false => exact inc_or hne hb
      | true =>
        have := (pairs_spec hps hk ho hb).1
        unfold looks at this
        rw [hdk] at this
        simp only [List.contains_eq_mem, decide_eq_false_iff_not] at this
        exact absurd hd this
    rcases last i (by omega) with ⟨k, ok, h1, h2, h3, h4⟩ | ⟨h1, h2⟩
    · have hk : In S k := by
        rcases looked k ok h2 h3 (by omega) with h | h
        · exact D_before hdr D ho hni hdep h
        · have := bf_lt hed _ h; omega
      exact D.slot1 k ok d v h2 hk h3 (by rw [← h4]; exact hv)
    · refine D.slot0 d v (fun k ok hk hin hdk => ?_) (by rw [← h2]; exact hv)
      have hne : k ≠ i := fun e => hni (e ▸ hin)
      rcases looked k ok hk hdk hne with h | h
      · exact h1 k ok (bf_lt hed _ h) hk hdk
      · exact D_after hdr D hni h hin
  · cases hv
/-- the state in which operation i is taken -/
theorem D_rep (hlow : n0 ≤ (st 0).next) (fr : Tr AV) (lo : Lg) : Rep (st (i + 1)).next base ρ { st i with hp := hp, fr := fr, log := lo } w := by
  have hi := (List.getElem?_eq_some_iff.1 ho).1
  refine ⟨D.glob, fun n h1 h2 => ?_, ?_, D.size, D.cont, D.high, D.low, D.inj⟩
  · refine D.fresh n (Nat.le_trans (T_mono T hcf i (Nat.zero_le _) (by omega)) h1) ?_ fun j h3 h4 => ?_
    · have := T_mono T hcf (i := i + 1) l.length (by omega) (Nat.le_refl _); omega
    · have := R_disj T hcf (In.lt D h3) hi h4 ⟨h1, h2⟩
      exact hni (this ▸ h3)
  · exact Nat.le_trans hlow (T_mono T hcf i (Nat.zero_le _) (by omega))
include hdom in
theorem D_rep' (hlow : n0 ≤ (st 0).next) (fr : Tr AV) (lo : Lg) (hsame : ∀ n b, ρ n = some b → n < (st i).next → hp.get n = (st i).hp.get n) : Rep (st (i + 1)).next base ρ { st i with fr := fr, log := lo } w := by
  obtain ⟨x1, x2, x3, x4, x5, x6, x7, x8⟩ := D_rep T hcf hdr hB D ho hni hdep hlow fr lo
  have hi := (List.getElem?_eq_some_iff.1 ho).1
  have hlt : ∀ n o, (st i).hp.get n = some o → n < (st i).next := fun n o h => Nat.lt_of_not_le fun hle => by
    rw [T_dom T hcf hdom i (by omega) n hle] at h; cases h
  refine ⟨x1, x2, x3, x4, fun n o b h1 h2 => x5 n o b (by rw [show _ = hp.get n from rfl, hsame n b h2 (hlt n o h1)]; exact h1) h2, x6, x7, fun n m o o' b h1 h2 e1 e2 r1 r2 => ?_⟩
  exact x8 n m o o' b h1 h2 (by rw [show _ = hp.get n from rfl, hsame n b r1 (hlt n o e1)]; exact e1) (by rw [show _ = hp.get m from rfl, hsame m b r2 (hlt m o' e2)]; exact e2) r1 r2
end
end
end Go.Mesh
/-
  A RUN THAT THE KERNEL RECKONS: a region that draws its order; one more operation; the whole region.
-/
set_option linter.all false
namespace Go.Mesh
open Go.RowKit
set_option linter.unusedSimpArgs false
set_option linter.unusedVariables false

/-- two tries, joined -/
theorem Tr.join {α : Type} (p : Nat → Prop) : ∀ (N : Nat) (t1 t2 : Tr α), (∀ n, N ≤ n → p n → t1.get n = none ∧ t2.get n = none) → ∃ t : Tr α, ∀ n, (p n → t.get n = t1.get n) ∧ (¬ p n → t.get n = t2.get n)
  | 0, t1, t2, h => ⟨t2, fun n => ⟨fun hp => by rw [(h n (Nat.zero_le _) hp).1, (h n (Nat.zero_le _) hp).2], fun _ => rfl⟩⟩
  | N + 1, t1, t2, h => by
    by_cases hN : p N
    · obtain ⟨t, ht⟩ := Tr.join (fun n => p n ∧ n ≠ N) N t1 t2 fun n hn hp => h n (by have := hp.2; omega) hp.1
      refine ⟨t.set N (t1.get N), fun n => ⟨fun hp => ?_, fun hp => ?_⟩⟩
      · rw [Tr.get_set]
        by_cases e : n = N
        · subst e; simp
        · rw [if_neg e]; exact (ht n).1 ⟨hp, e⟩
      · have e : n ≠ N := fun e => hp (e ▸ hN)
        rw [Tr.get_set, if_neg e]
        exact (ht n).2 fun h => hp h.1
    · exact Tr.join p N t1 t2 fun n hn hp => h n (by
        have : n ≠ N := fun e => hN (e ▸ hp)
        omega) hp

section
variable {P : Program} {call : CallA} {l : List Oper} {st : Nat → St} {lg : Nat → Lg}
variable {B base : Nat} {ρ0 ρ : Nm} {w0 w : World} {a0 a : Act} {S : Array Bool} {hp : Tr AO}
variable (T : Trc P call l st lg) (hcf : ∀ f vs s v s', call f vs s = some (v, s') → HasF s s') (hdr : drawOk l = true) (hB : (st l.length).next ≤ B) (hdom : DomS (st 0))
variable (D : DInv l st lg B base ρ0 w0 a0 S ρ hp a w) {i : Nat} {o : Oper} (ho : l[i]? = some o) (hni : ¬ In S i) (hdep : ∀ e ∈ o.after, Region.binds .any e = true → In S e.on)
theorem In_set {j : Nat} (hi : i < S.size) : In (S.setIfInBounds i true) j ↔ j = i ∨ In S j := by
  unfold In
  rw [Array.getD_eq_getD_getElem?, Array.getD_eq_getD_getElem?, Array.getElem?_setIfInBounds]
  by_cases h : i = j
  · subst h; simp [hi]
  · have : ¬ j = i := fun e => h e.symm
    simp [h, this]
include T hcf hdr hB D ho hni hdep
theorem D_fin {σ σ' : St} {ρ' : Nm} {w' : World} {L : Lg} (hσ : σ.next = (st i).next) (hσ' : σ'.next = (st (i + 1)).next) (g : Go (st (i + 1)).next base L ρ σ w ρ' σ' w') (hL : L = lg i)
    (F1 : ∀ m, tch st lg i m → σ'.hp.get m = (st (i + 1)).hp.get m) (F3 : ∀ m b, ρ m = some b → m < σ.next → σ.hp.get m = hp.get m) {u : Value}
    (hu : ∀ d v, o.dst = some d → (st (i + 1)).fr.get d = some v → ∃ u', (a.put o.dst u).tmps[d]? = some u' ∧ DenV ρ' v u') : ∃ hp', DInv l st lg B base ρ0 w0 a0 (S.setIfInBounds i true) ρ' hp' (a.put o.dst u) w' := by
  subst hL
  have hi := (List.getElem?_eq_some_iff.1 ho).1
  have hdr' := hdr
  simp only [drawOk, Bool.and_eq_true] at hdr'
  obtain ⟨hed, hds, hps⟩ := hdr'
  have huniq := (dstsOk_spec l [] hds).2
  have hS : ∀ j, In (S.setIfInBounds i true) j ↔ j = i ∨ In S j := fun j => In_set (by rw [D.ssize]; exact hi)
  have hf := T_hpf T hcf hi
  have mono0 : (st 0).next ≤ (st i).next := T_mono T hcf i (Nat.zero_le _) (by omega)
  have monoN : (st (i + 1)).next ≤ (st l.length).next := T_mono T hcf l.length (by omega) (Nat.le_refl _)
  have hfresh_i : ∀ n, inR st i n → ρ n = none ∧ ρ.κ n = none := fun n h => D.fresh n (by have := h.1; omega) (by have := h.2; omega) fun j h1 h2 => hni (R_disj T hcf hi (In.lt D h1) h h2 ▸ h1)
  obtain ⟨hp', hhp⟩ := Tr.join (fun m => tch st lg i m) (st (i + 1)).next σ'.hp hp fun n hn hpn => by
    rcases hpn with ⟨e, he, hee⟩ | h
    · have := hf.hi e he; omega
    · have := h.2; omega
  -- a name that is written was known and is there
  have hwr : ∀ e b, e ∈ lg i → ρ e.1 = some b → n0 ≤ e.1 ∧ e.1 < σ.next ∧ ∃ o', hp.get e.1 = some o' := fun e b he hr => by
    have h1 := g.hpf.low e he
    have h2 : e.1 < σ.next := Nat.lt_of_not_le fun hle => by
      have h3 := g.hpf.hi e he
      have := (hfresh_i e.1 ⟨by omega, by omega⟩).1
      rw [hr] at this; cases this
    have h3 := (g.hpf.live e he h2).1
    rw [F3 _ _ hr h2] at h3
    cases h4 : hp.get e.1 with
    | none => exact absurd h4 h3
    | some o' => exact ⟨h1, h2, o', rfl⟩
  have back : ∀ m b, ¬ inR st i m → ρ' m = some b → ρ m = some b := fun m b h1 h2 => by
    rcases g.new m b h2 with h | ⟨h3, h4, _⟩
    · exact h
    · exact absurd ⟨by rw [← hσ]; exact h3, by rw [← hσ']; exact h4⟩ h1
  have hcont_lt : ∀ n o' b, hp.get n = some o' → ρ n = some b → b < w.heap.size := fun n o' b h1 h2 => by
    obtain ⟨ob, e, _⟩ := D.cont n o' b h1 h2
    exact (Array.getElem?_eq_some_iff.1 e).1
  -- what stays
  have hstay : ∀ m o' b, ¬ tch st lg i m → hp.get m = some o' → ρ m = some b → w'.heap[b]? = w.heap[b]? := fun m o' b h1 h2 h3 => by
    refine g.frame b (hcont_lt m o' b h2 h3) fun e he hr => ?_
    obtain ⟨q1, q2, o2, q3⟩ := hwr e b he hr
    have hm : n0 ≤ m := Nat.le_of_not_lt fun hlt => by
      have := D.low m b hlt h3
      have := D.high e.1 b q1 hr
      omega
    exact h1 (.inl ⟨e, he, D.inj e.1 m o2 o' b q1 hm q3 h2 hr h3⟩)
  -- one that is touched and one that is not are not the same
  have hcross : ∀ m1 m2 p1 p2 b, n0 ≤ m1 → n0 ≤ m2 → tch st lg i m1 → ¬ tch st lg i m2 → σ'.hp.get m1 = some p1 → hp.get m2 = some p2 → ρ' m1 = some b → ρ m2 = some b → False := by
    intro m1 m2 p1 p2 b n1 n2 t1 t2 e1 e2 r1 r2
    by_cases hm2 : m2 < σ.next
    · have e3 : σ'.hp.get m2 = some p2 := by
        rw [g.hpf.same m2 hm2 fun e he hee => t2 (.inl ⟨e, he, hee⟩), F3 m2 b r2 hm2]; exact e2
      exact t2 (g.rep.inj m1 m2 p1 p2 b n1 n2 e1 e3 r1 (g.ext.1 _ _ r2) ▸ t1)
    · rcases g.new m1 b r1 with h | ⟨h1, h2, h3 | ⟨e, he, hr⟩⟩
      · rcases t1 with ⟨e, he, hee⟩ | hin
        · obtain ⟨q1, q2, o2, q3⟩ := hwr e b he (by rw [hee]; exact h)
          have := D.inj e.1 m2 o2 p2 b q1 n2 q3 e2 (by rw [hee]; exact h) r2
          omega
        · have := (hfresh_i m1 hin).1; rw [h] at this; cases this
      · have := hcont_lt m2 p2 b e2 r2; omega
      · obtain ⟨q1, q2, o2, q3⟩ := hwr e b he hr
        have := D.inj e.1 m2 o2 p2 b q1 n2 q3 e2 hr r2
        omega
  refine ⟨hp', ⟨by simp [D.ssize], ?_, ?_, by rw [Act.defers_put]; exact D.defers, ?_, ?_, ?_, ?_, g.rep.glob, ?_, g.rep.size, ?_, g.rep.high, g.rep.low, ?_, D.ext.trans g.ext, ?_, ?_, Nat.le_trans D.gsize g.size, ?_, g.os.trans D.os, g.tape.trans D.tape, g.output.trans D.output, Nat.le_trans D.drawn g.drawn, ?_⟩⟩
  · -- closed
    intro j oj hj hl e he hb
    have hl' : In (S.setIfInBounds i true) j := hl
    rcases (hS j).1 hl' with h | h
    · subst h
      have : oj = o := by simp at hj; rw [ho] at hj; cases hj; rfl
      subst this
      exact (hS _).2 (.inr (hdep e he hb))
    · exact (hS _).2 (.inr (D.closed j oj hj h e he hb))
  · rw [← D.tsize]; cases o.dst <;> simp [Act.put]
  · -- slot1
    intro j oj d v hj hl hdj hv
    rcases (hS j).1 hl with h | h
    · subst h
      rw [ho] at hj; cases hj
      exact hu d v hdj hv
    · have hne : o.dst ≠ some d := fun hd => hni (huniq j i oj o d hj ho hdj hd ▸ h)
      obtain ⟨u1, h1, h2⟩ := D.slot1 j oj d v hj h hdj hv
      refine ⟨u1, ?_, h2.mono g.ext⟩
      cases hd : o.dst with
      | none => exact h1
      | some d' =>
        have : ¬ d' = d := fun e => hne (by rw [hd, e])
        simp only [Act.put]
        rw [Array.getElem?_setIfInBounds_ne this]; exact h1
  · -- slot0
    intro d v hno hv
    have hne : o.dst ≠ some d := hno i o ho ((hS i).2 (.inl rfl))
    obtain ⟨u1, h1, h2⟩ := D.slot0 d v (fun j oj hj hl => hno j oj hj ((hS j).2 (.inr hl))) hv
    refine ⟨u1, ?_, h2.mono g.ext⟩
    cases hd : o.dst with
    | none => exact h1
    | some d' =>
      have : ¬ d' = d := fun e => hne (by rw [hd, e])
      simp only [Act.put]
      rw [Array.getElem?_setIfInBounds_ne this]; exact h1
  · -- hp0
    intro n hn
    rw [(hhp n).2 (hn i ((hS i).2 (.inl rfl)))]
    exact D.hp0 n fun j hj => hn j ((hS j).2 (.inr hj))
  · -- hp1
    intro n k hk tk hmax
    by_cases hti : tch st lg i n
    · have hki : k = i := by
        rcases (hS k).1 hk with h | h
        · exact h
        · exfalso
          have hle := hmax i ((hS i).2 (.inl rfl)) hti
          have hne : k ≠ i := fun e => hni (e ▸ h)
          have hklt := In.lt D h
          have hmon := T_mono T hcf (i := i + 1) k (by omega) (by omega)
          rcases hti with ⟨e, he, hee⟩ | hin
          · rcases tk with ⟨e2, he2, hee2⟩ | hin2
            · rcases inc_or hne (T_ww T hdr hi hklt hne ⟨e2, he2, hee2⟩ ⟨e, he, hee⟩) with h3 | h3
              · have := bf_lt hed _ h3; omega
              · exact D_after hdr D hni h3 h
            · have := hf.hi e he; have := hin2.1; omega
          · rcases tk with ⟨e2, he2, hee2⟩ | hin2
            · obtain ⟨b, hb⟩ := D.known k e2 h he2
              rw [hee2, (hfresh_i n hin).1] at hb; cases hb
            · exact hne (R_disj T hcf hklt hi hin2 hin)
      subst hki
      rw [(hhp n).1 hti, F1 n hti]
    · rw [(hhp n).2 hti]
      rcases (hS k).1 hk with h | h
      · subst h; exact absurd tk hti
      · exact D.hp1 n k h tk fun j hj => hmax j ((hS j).2 (.inr hj))
  · -- fresh
    intro n h1 h2 h3
    have hnr := h3 i ((hS i).2 (.inl rfl))
    obtain ⟨f1, f2⟩ := D.fresh n h1 h2 fun j hj => h3 j ((hS j).2 (.inr hj))
    constructor
    · cases hr : ρ' n with
      | none => rfl
      | some b => have := back n b hnr hr; rw [f1] at this; cases this
    · cases hr : ρ'.κ n with
      | none => rfl
      | some c =>
        rcases g.newκ n c hr with h | ⟨h4, h5⟩
        · rw [f2] at h; cases h
        · exact absurd ⟨by rw [← hσ]; exact h4, by rw [← hσ']; exact h5⟩ hnr
  · -- cont
    intro n o' b h1 h2
    by_cases ht : tch st lg i n
    · rw [(hhp n).1 ht] at h1; exact g.rep.cont n o' b h1 h2
    · rw [(hhp n).2 ht] at h1
      have h3 := back n b (fun h => ht (.inr h)) h2
      obtain ⟨ob, e, d⟩ := D.cont n o' b h1 h3
      exact ⟨ob, by rw [hstay n o' b ht h1 h3]; exact e, d.mono g.ext⟩
  · -- inj
    intro m1 m2 p1 p2 b n1 n2 e1 e2 r1 r2
    by_cases t1 : tch st lg i m1
    · rw [(hhp m1).1 t1] at e1
      by_cases t2 : tch st lg i m2
      · rw [(hhp m2).1 t2] at e2
        exact g.rep.inj m1 m2 p1 p2 b n1 n2 e1 e2 r1 r2
      · rw [(hhp m2).2 t2] at e2
        exact (hcross m1 m2 p1 p2 b n1 n2 t1 t2 e1 e2 r1 (back m2 b (fun h => t2 (.inr h)) r2)).elim
    · rw [(hhp m1).2 t1] at e1
      have r1' := back m1 b (fun h => t1 (.inr h)) r1
      by_cases t2 : tch st lg i m2
      · rw [(hhp m2).1 t2] at e2
        exact (hcross m2 m1 p2 p1 b n2 n1 t2 t1 e2 e1 r2 r1').elim
      · rw [(hhp m2).2 t2] at e2
        exact D.inj m1 m2 p1 p2 b n1 n2 e1 e2 r1' (back m2 b (fun h => t2 (.inr h)) r2)
  · -- new
    have olds : ∀ n b, ρ n = some b → ρ0 n = some b ∨ ((∃ j, In (S.setIfInBounds i true) j ∧ inR st j n) ∧ (w0.heap.size ≤ b ∨ ∃ j e, In (S.setIfInBounds i true) j ∧ e ∈ lg j ∧ ρ0 e.1 = some b)) := fun n b h => by
      rcases D.new n b h with h | ⟨⟨j, h1, h2⟩, h3⟩
      · exact .inl h
      · refine .inr ⟨⟨j, (hS j).2 (.inr h1), h2⟩, h3.imp id fun ⟨j2, e, q1, q2, q3⟩ => ⟨j2, e, (hS j2).2 (.inr q1), q2, q3⟩⟩
    intro n b h
    rcases g.new n b h with h | ⟨h1, h2, h3⟩
    · exact olds n b h
    · refine .inr ⟨⟨i, (hS i).2 (.inl rfl), by rw [← hσ]; exact h1, by rw [← hσ']; exact h2⟩, ?_⟩
      rcases h3 with h3 | ⟨e, he, hr⟩
      · exact .inl (Nat.le_trans D.gsize h3)
      · rcases olds e.1 b hr with h4 | ⟨_, h4⟩
        · exact .inr ⟨i, e, (hS i).2 (.inl rfl), he, h4⟩
        · exact h4
  · -- newκ
    intro n c h
    rcases g.newκ n c h with h | ⟨h1, h2⟩
    · rcases D.newκ n c h with h | ⟨j, h1, h2⟩
      · exact .inl h
      · exact .inr ⟨j, (hS j).2 (.inr h1), h2⟩
    · exact .inr ⟨i, (hS i).2 (.inl rfl), by rw [← hσ]; exact h1, by rw [← hσ']; exact h2⟩
  · -- frame
    intro b hb hh
    rw [← D.frame b hb fun j e h1 h2 => hh j e ((hS j).2 (.inr h1)) h2]
    refine g.frame b (Nat.lt_of_lt_of_le hb D.gsize) fun e he hr => ?_
    rcases D.new e.1 b hr with h | ⟨_, h | ⟨j, e2, q1, q2, q3⟩⟩
    · exact hh i e ((hS i).2 (.inl rfl)) he h
    · omega
    · exact hh j e2 ((hS j).2 (.inr q1)) q2 q3
  · -- known
    intro j e hj he
    rcases (hS j).1 hj with h | h
    · subst h; exact g.known e he
    · obtain ⟨b, hb⟩ := D.known j e h he
      exact ⟨b, g.ext.1 _ _ hb⟩

variable (hc : CallOk P call) (hlow : n0 ≤ (st 0).next)
include hc hdom hlow
/-- ONE MORE OPERATION. -/
theorem D_step (r : Option Nat) (Q : Exit → Act → World → Prop) : wpOpIn (FW r) 0 P l.toArray Q i (fun a' w' => ∃ ρ' hp', DInv l st lg B base ρ0 w0 a0 (S.setIfInBounds i true) ρ' hp' a' w') a w := by
  have hi := (List.getElem?_eq_some_iff.1 ho).1
  obtain ⟨s1, g1, g2, g3⟩ := T.step i o ho
  simp only [stepR, stepG, Option.bind_eq_some_iff, Option.some.injEq] at g1
  obtain ⟨s2, ⟨b, hb, hs2⟩, rfl⟩ := g1
  have hslots := D_slots T hcf hdr hB D ho hni hdep
  have hslots' : SlotsD ρ ({ st i with fr := pickFr (st i).fr (needs l o), log := [] } : St).fr ({ st i with fr := pickFr (st i).fr (needs l o), log := [] } : St).nt a.tmps := hslots
  have hwant := wantA_ok (ops := l) (o := o) hslots' hb
  -- the next state's parts
  have n_next : (st (i + 1)).next = s2.next := by rw [g2]
  have n_hp : (st (i + 1)).hp = s2.hp := by rw [g2]
  have n_lg : lg i = s2.log := g3
  have n_fr : ∀ d v, o.dst = some d → (st (i + 1)).fr.get d = some v → s2.fr.get d = some v := fun d v h1 h2 => by
    rw [g2] at h2
    simp only [h1, Tr.get_set, if_true] at h2
    exact h2
  have hslotU : ∀ {ρ' : Nm} {u : Value}, SlotsD ρ' s2.fr s2.nt (a.put o.dst u).tmps → ∀ d v, o.dst = some d → (st (i + 1)).fr.get d = some v → ∃ u', (a.put o.dst u).tmps[d]? = some u' ∧ DenV ρ' v u' :=
    fun h d v h1 h2 => h.2 d v (n_fr d v h1 h2)
  have rep0 := D_rep T hcf hdr hB D ho hni hdep hlow (pickFr (st i).fr (needs l o)) []
  unfold wpOpIn
  have ho' : l.toArray[i]? = some o := by simpa using ho
  simp only [ho', hwant]
  cases b with
  | false =>
    simp only [Bool.false_eq_true, if_false]
    rw [cond_false] at hs2
    obtain ⟨p0, p1, p2, p3, _⟩ := St.put_spec hs2
    refine ⟨fun _ _ => trivial, ρ, ?_⟩
    refine D_fin T hcf hdr hB D ho hni hdep (σ := { st i with hp := hp, fr := pickFr (st i).fr (needs l o), log := [] }) (σ' := { st i with hp := hp, fr := pickFr (st i).fr (needs l o), log := [] }) (L := []) rfl (by rw [n_next, p1]) (Go.refl rep0 rfl rfl rfl rfl (Nat.le_refl _)) (by rw [n_lg, p3]) ?_ (fun _ _ _ _ => rfl) (hslotU (hslots'.put hs2 undef_den))
    intro m hm
    rcases hm with ⟨e, he, _⟩ | hm
    · rw [n_lg, p3] at he; cases he
    · have h1 := hm.1
      have h2 : m < (st i).next := by have := hm.2; rw [n_next, p1] at this; exact this
      omega
  | true =>
    simp only [if_true]
    rw [cond_true] at hs2
    refine Oper.wpIn_monoQ ?_
    have hs2c := hs2
    unfold stepO at hs2
    split at hs2
    · -- a value
      rename_i v hq
      obtain ⟨p0, p1, p2, p3, _⟩ := St.put_spec hs2
      have hli : lg i = [] := by rw [n_lg, p3]
      obtain ⟨u, du, hrun⟩ := opQ_ok hslots D.glob hq fun n off k hrd b o1 hrn hon => by
        have hlt : n < (st i).next := Nat.lt_of_not_le fun hle => by
          rw [T_dom T hcf hdom i (by omega) n hle] at hon; cases hon
        have hrd' := readsOf_le (fun d v h => pickFr_le h) hrd
        have hag := D_agree T hcf hdr hB D ho hni hdep (off := off) (kk := k) hrn hlt hli fun j hj hji hinc e he => by
          cases hh : hit (n, off, k) e with
          | false => rfl
          | true =>
            have : hits (n, off, k) (lg j) = true := by
              have : ∀ (L : Lg), e ∈ L → hits (n, off, k) L = true := by
                intro L
                induction L with
                | nil => intro h; cases h
                | cons c L ih =>
                  intro h
                  simp only [hits]
                  rcases List.mem_cons.1 h with rfl | h
                  · rw [hh]; rfl
                  · rw [ih h]; cases hit (n, off, k) c <;> rfl
              exact this _ he
            have h1 := T.watch i j o _ ho hj hrd' this
            rw [incB_symm hinc] at h1; cases h1
        rcases hag with e | ⟨o2, o3, e1, e2, ag⟩
        · obtain ⟨ob, q1, q2⟩ := D.cont n o1 b (e.trans hon) hrn
          exact ⟨o1, ob, q1, q2, .inl rfl⟩
        · obtain ⟨ob, q1, q2⟩ := D.cont n o2 b e1 hrn
          have e2' : (st i).hp.get n = some o1 := hon
          rw [e2'] at e2; cases e2
          exact ⟨o2, ob, q1, q2, ag.symm⟩
      refine wpIn_of_value (opQ_defer hq) hrun ⟨ρ, ?_⟩
      refine D_fin T hcf hdr hB D ho hni hdep (σ := { st i with hp := hp, fr := pickFr (st i).fr (needs l o), log := [] }) (σ' := { st i with hp := hp, fr := pickFr (st i).fr (needs l o), log := [] }) (L := []) rfl (by rw [n_next, p1]) (Go.refl rep0 rfl rfl rfl rfl (Nat.le_refl _)) hli.symm ?_ (fun _ _ _ _ => rfl) (hslotU (hslots'.put hs2 du))
      intro m hm
      rcases hm with ⟨e, he, _⟩ | hm
      · rw [hli] at he; cases he
      · have h1 := hm.1
        have h2 : m < (st i).next := by have := hm.2; rw [n_next, p1] at this; exact this
        omega
    · split at hs2
      · -- a new block
        rename_i v ha
        obtain ⟨p0, p1, p2, p3, _⟩ := St.put_spec hs2
        have hnx : (st i).next < (st (i + 1)).next := by rw [n_next, p1]; exact Nat.lt_succ_self _
        obtain ⟨hf, hf'⟩ := rep0.fresh (st i).next (Nat.le_refl _) hnx
        obtain ⟨ρ', u, w', d1, g, hrun⟩ := new_go (s := { st i with hp := hp, fr := pickFr (st i).fr (needs l o), log := [] }) rep0 hnx (opA_ok hslots D.glob hf hf' ha)
        refine wpIn_of_value (opA_defer ha) hrun ⟨ρ', ?_⟩
        have hli : lg i = [] := by rw [n_lg, p3]; rfl
        refine D_fin T hcf hdr hB D ho hni hdep (L := []) (σ := { st i with hp := hp, fr := pickFr (st i).fr (needs l o), log := [] }) rfl (by rw [n_next, p1]; rfl) g hli.symm ?_ (fun _ _ _ _ => rfl) (hslotU (SlotsD.put (s := ({ st i with fr := pickFr (st i).fr (needs l o), log := [] } : St).new v.2) (hslots'.mono g.ext) hs2 d1))
        intro m hm
        rcases hm with ⟨e, he, _⟩ | hm
        · rw [hli] at he; cases he
        · have h1 := hm.1
          have h2 := hm.2
          rw [n_next, p1] at h2
          have h2 : m < (st i).next + 1 := h2
          have hm : m = (st i).next := by omega
          subst hm
          rw [n_hp, p2]
          simp [St.new, Tr.get_set]
      · -- memory is written
        have hnq : quiet o.op = false := by
          cases hq : quiet o.op with
          | false => rfl
          | true => exact (quiet_W hq hs2).elim
        have hinc : ∀ k, k < l.length → k ≠ i → (∃ e, e ∈ lg k) → (isSt o.op = false ∨ ∃ n, (∃ e, e ∈ lg k ∧ e.1 = n) ∧ ∃ e, e ∈ lg i ∧ e.1 = n) → incB (befores l []) k i = false := by
          intro k hk hne ⟨e, he⟩ hor
          rcases hor with hst | ⟨n, h1, h2⟩
          · cases hbb : incB (befores l []) k i with
            | false => rfl
            | true =>
              exfalso
              have hdr' := hdr
              simp only [drawOk, Bool.and_eq_true] at hdr'
              obtain ⟨_, _, q⟩ := pairs_spec hdr'.2.2 (show l[k]? = some l[k] by simp [hk]) ho hbb
              obtain ⟨s3, q1, _, q3⟩ := T.step k l[k] (by simp [hk])
              rcases q with q | q | ⟨_, q⟩
              · rw [q3, quiet_log q q1] at he; cases he
              · rw [hnq] at q; cases q
              · rw [hst] at q; cases q
          · exact T_ww T hdr hi hk hne h1 h2
        cases hst : isSt o.op with
        | false =>
          have hsame : ∀ n b, ρ n = some b → n < (st i).next → hp.get n = (st i).hp.get n := fun n b h1 h2 =>
            D_same T hcf hdr hB D ho hni hdep h1 h2 fun k hk hne ⟨e, he, _⟩ => hinc k hk hne ⟨e, he⟩ (.inl hst)
          have rep1 := D_rep' T hcf hdr hB hdom D ho hni hdep hlow (pickFr (st i).fr (needs l o)) [] hsame
          have hstep := stepO_ok hc rep1 (T_dom T hcf hdom i (by omega)) hslots' (by rw [n_next]; exact Nat.le_refl _) hs2c r
          refine Oper.wpIn_mono (fun a' w' ⟨ρ', L, u, e, q1, q2⟩ => ?_) hstep
          subst e
          refine ⟨ρ', D_fin T hcf hdr hB D ho hni hdep (σ := { st i with fr := pickFr (st i).fr (needs l o), log := [] }) rfl n_next.symm q2 ?_ (fun m _ => by rw [n_hp]) (fun m b h1 h2 => (hsame m b h1 h2).symm) (hslotU q1)⟩
          have := q2.hpf.log
          rw [n_lg, this]; simp
        | true =>
          obtain ⟨dst, op, type, pos, after, guard⟩ := o
          obtain ⟨t, p, q, rfl⟩ : ∃ t p q, op = .store t p q := by
            cases op <;> simp only [isSt, Bool.false_eq_true] at hst
            exact ⟨_, _, _, rfl⟩
          simp only [stepW, callOf, Option.bind_eq_some_iff, opW] at hs2
          obtain ⟨⟨v, s3⟩, h2, h3⟩ := hs2
          obtain ⟨p0, p1, p2, p3, _⟩ := St.put_spec h3
          simp only [wStore, Option.bind_eq_some_iff, bsome, Option.some.injEq, Prod.mk.injEq] at h2
          obtain ⟨vp, e1, ⟨n, off⟩, e2, u, e3, gk, e4, e5, s4, e6, rfl, rfl⟩ := h2
          obtain ⟨k1, k2, cs, o', ⟨o1, c1, c2, c3, c4, c5⟩, k3⟩ := setCells_spec e6
          obtain ⟨m1, m2, m3⟩ := upd_spec k3
          have hlog : lg i = [(n, off, u.cells.length)] := by rw [n_lg, p3, m3]
          have dp := aev_ok hslots' D.glob e1
          obtain ⟨bb, hbb, _⟩ := den_ptr dp e2
          have hlt : n < (st i).next := m2
          have hsame : hp.get n = (st i).hp.get n := D_same T hcf hdr hB D ho hni hdep hbb hlt fun k hk hne ⟨e, he, hee⟩ => hinc k hk hne ⟨e, he⟩ (.inr ⟨n, ⟨e, he, hee⟩, (n, off, u.cells.length), by rw [hlog]; simp, rfl⟩)
          -- the store where the blocks are
          let σ : St := { st i with hp := hp, fr := pickFr (st i).fr (needs l ⟨dst, .store t p q, type, pos, after, guard⟩), log := [] }
          have hset : setCells σ n off u.cells = some { σ with hp := hp.set n (some o'), log := [(n, off, u.cells.length)] } := by
            have hget : σ.hp.get n = some o1 := hsame.trans c1
            unfold setCells
            have hk12 : (onesA u.cells && Nat.blt 0 (lenL u.cells)) = true := by rw [k1, lenL_eq]; simp [bltT.2 k2]
            rw [hk12, cond_true, hget]
            have hup : ∀ x, σ.upd n off (lenL u.cells) (some x) = some { σ with hp := hp.set n (some x), log := [(n, off, u.cells.length)] } := fun x => by
              unfold St.upd
              have : (Nat.ble n0 n && Nat.blt n σ.next) = true := by rw [Bool.and_eq_true]; exact ⟨bleT.2 m1, bltT.2 m2⟩
              rw [this, cond_true, lenL_eq]
            have hle : Nat.ble (Nat.add off (lenL u.cells)) (lenL cs) = true := by rw [lenL_eq, lenL_eq]; exact bleT.2 c3
            rcases c5 with ⟨t', rfl, rfl⟩ | ⟨t', k', me', rfl, rfl⟩
            · simp only [hle, cond_true]; rw [hup]
            · simp only [hle, cond_true]; rw [hup]
          have hw : wStore P σ t p q = some (.tup [], { σ with hp := hp.set n (some o'), log := [(n, off, u.cells.length)] }) := by
            unfold wStore
            have e1' : aev σ.fr p = some vp := e1
            have e3' : aev σ.fr q = some u := e3
            simp only [e1', Option.bind_some, e2, e3', e4, e5, cond_true, hset]
          obtain ⟨ρ', uu, w', L, d1, go, hrun⟩ := w_store (o := ⟨dst, .store t p q, type, pos, after, guard⟩) (s := σ) rep0 hslots rfl hw
          have fin : ∃ ρ' hp', DInv l st lg B base ρ0 w0 a0 (S.setIfInBounds i true) ρ' hp' (a.put dst uu) w' := by
            refine ⟨ρ', D_fin T hcf hdr hB D ho hni hdep (o := ⟨dst, .store t p q, type, pos, after, guard⟩) (σ := σ) rfl ?_ go ?_ ?_ (fun _ _ _ _ => rfl) (u := uu) (hslotU ?_)⟩
            · rw [n_next, p1, m3]
            · have h1 : [(n, off, u.cells.length)] = L ++ [] := go.hpf.log
              rw [hlog]; simpa using h1.symm
            · intro m hm
              rcases hm with ⟨e, he, hee⟩ | hm
              · rw [hlog] at he
                simp only [List.mem_singleton] at he
                subst he
                simp only at hee
                subst hee
                rw [n_hp, p2, m3]
                simp [Tr.get_set]
              · have h1 := hm.1
                have h2 : m < (st i).next := by have := hm.2; rw [n_next, p1, m3] at this; exact this
                omega
            · have hsl : SlotsD ρ' s4.fr s4.nt a.tmps := by rw [m3]; exact hslots'.mono go.ext
              exact hsl.put h3 d1
          rcases hrun with hrun | ⟨hrun, rfl⟩
          · exact wpIn_of_value (fun c h => by cases h) hrun fin
          · exact wpIn_of_skip (fun c h => by cases h) hrun fin
end
end Go.Mesh
