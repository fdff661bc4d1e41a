/-
  Part MAJ of the proof's ground: X11, X12, X13, X14.
-/
import Derived.Test.YtcfedojmmfbbeaaGreatDoorMAC
import Derived.Test.YtcfedojmmfbbeaaGreatDoorMAI
/-
  A RUN THAT THE KERNEL RECKONS: states and worlds; operations that write memory.
-/
set_option linter.all false
namespace Go.Mesh
open Go.RowKit
set_option linter.unusedSimpArgs false
set_option linter.unusedVariables false

structure Rep (B base : Nat) (ρ : Nm) (s : St) (w : World) : Prop where
  glob : Glob ρ
  fresh : ∀ n, s.next ≤ n → n < B → ρ n = none ∧ ρ.κ n = none
  low0 : n0 ≤ s.next
  size : base ≤ w.heap.size
  cont : ∀ n o a, s.hp.get n = some o → ρ n = some a → ∃ ob, w.heap[a]? = some ob ∧ DenO ρ o ob
  high : ∀ n a, n0 ≤ n → ρ n = some a → base ≤ a
  low : ∀ n a, n < n0 → ρ n = some a → a < base
  inj : ∀ n m o o' a, n0 ≤ n → n0 ≤ m → s.hp.get n = some o → s.hp.get m = some o' → ρ n = some a → ρ m = some a → n = m
structure Go (B base : Nat) (l : Lg) (ρ : Nm) (s : St) (w : World) (ρ' : Nm) (s' : St) (w' : World) : Prop where
  rep : Rep B base ρ' s' w'
  ext : leN ρ ρ'
  new : ∀ n a, ρ' n = some a → ρ n = some a ∨ (s.next ≤ n ∧ n < s'.next ∧ (w.heap.size ≤ a ∨ ∃ e, e ∈ l ∧ ρ e.1 = some a))
  newκ : ∀ n c, ρ'.κ n = some c → ρ.κ n = some c ∨ (s.next ≤ n ∧ n < s'.next)
  hpf : HpF l s s'
  size : w.heap.size ≤ w'.heap.size
  frame : ∀ a, a < w.heap.size → (∀ e, e ∈ l → ρ e.1 ≠ some a) → w'.heap[a]? = w.heap[a]?
  os : w'.os = w.os
  tape : w'.tape = w.tape
  output : w'.output = w.output
  drawn : w.drawn ≤ w'.drawn
  known : ∀ e, e ∈ l → ∃ a, ρ' e.1 = some a

theorem Rep.of {B base : Nat} {ρ : Nm} {s t : St} {w : World} (x : Rep B base ρ s w) (h1 : t.next = s.next) (h2 : t.hp = s.hp) : Rep B base ρ t w := by
  obtain ⟨a, b, c, d, e, f, g, h⟩ := x
  exact ⟨a, by rw [h1]; exact b, by rw [h1]; exact c, d, by rw [h2]; exact e, f, g, by rw [h2]; exact h⟩
theorem Rep.heap {B base : Nat} {ρ : Nm} {s : St} {w w' : World} (x : Rep B base ρ s w) (h : w'.heap = w.heap) : Rep B base ρ s w' := by
  obtain ⟨a, b, c, d, e, f, g, i⟩ := x
  exact ⟨a, b, c, by rw [h]; exact d, by rw [h]; exact e, f, g, i⟩
theorem Go.refl {B base : Nat} {ρ : Nm} {s : St} {w w' : World} (x : Rep B base ρ s w) (hh : w'.heap = w.heap) (ho : w'.os = w.os) (ht : w'.tape = w.tape) (hp : w'.output = w.output) (hd : w.drawn ≤ w'.drawn) : Go B base [] ρ s w ρ s w' :=
  ⟨x.heap hh, .refl _, fun _ _ h => .inl h, fun _ _ h => .inl h, .refl _, by rw [hh]; exact Nat.le_refl _, fun _ _ _ => by rw [hh], ho, ht, hp, hd, fun _ h => by cases h⟩
theorem Go.of {B base : Nat} {l : Lg} {ρ ρ' : Nm} {s s' t t' : St} {w w' : World} (x : Go B base l ρ s w ρ' s' w') (h1 : t.next = s.next) (h2 : t.hp = s.hp) (h3 : t.log = s.log) (h1' : t'.next = s'.next) (h2' : t'.hp = s'.hp) (h3' : t'.log = s'.log) : Go B base l ρ t w ρ' t' w' := by
  obtain ⟨a, b, c, d, e, f, g, h, i, j, k, q⟩ := x
  exact ⟨a.of h1' h2', b, by rw [h1, h1']; exact c, by rw [h1, h1']; exact d, e.of h1 h2 h3 h1' h2' h3', f, g, h, i, j, k, q⟩
theorem Go.trans {B base : Nat} {l m : Lg} {ρ ρ1 ρ2 : Nm} {s s1 s2 : St} {w w1 w2 : World} (x : Go B base l ρ s w ρ1 s1 w1) (y : Go B base m ρ1 s1 w1 ρ2 s2 w2) : Go B base (m ++ l) ρ s w ρ2 s2 w2 where
  rep := y.rep
  ext := x.ext.trans y.ext
  new := fun n a h => by
    have n1 := x.hpf.next
    have n2 := y.hpf.next
    rcases y.new n a h with h | ⟨h1, h2, h3⟩
    · rcases x.new n a h with h | ⟨h1, h2, h3⟩
      · exact .inl h
      · refine .inr ⟨h1, by omega, h3.imp id fun ⟨e, he, hr⟩ => ⟨e, List.mem_append_right _ he, hr⟩⟩
    · refine .inr ⟨by omega, h2, ?_⟩
      rcases h3 with h3 | ⟨e, he, hr⟩
      · exact .inl (Nat.le_trans x.size h3)
      · rcases x.new e.1 a hr with h4 | ⟨_, _, h5 | ⟨e', he', hr'⟩⟩
        · exact .inr ⟨e, List.mem_append_left _ he, h4⟩
        · exact .inl h5
        · exact .inr ⟨e', List.mem_append_right _ he', hr'⟩
  newκ := fun n c h => by
    have n1 := x.hpf.next
    have n2 := y.hpf.next
    rcases y.newκ n c h with h | ⟨h1, h2⟩
    · rcases x.newκ n c h with h | ⟨h1, h2⟩
      · exact .inl h
      · exact .inr ⟨h1, by omega⟩
    · exact .inr ⟨by omega, h2⟩
  hpf := x.hpf.trans y.hpf
  size := Nat.le_trans x.size y.size
  frame := fun a ha h => by
    have h1 := x.frame a ha fun e he => h e (List.mem_append_right _ he)
    rw [← h1]
    refine y.frame a (Nat.lt_of_lt_of_le ha x.size) fun e he hr => ?_
    rcases x.new e.1 a hr with h2 | ⟨_, _, h3 | ⟨e', he', hr'⟩⟩
    · exact h e (List.mem_append_left _ he) h2
    · omega
    · exact h e' (List.mem_append_right _ he') hr'
  os := y.os.trans x.os
  tape := y.tape.trans x.tape
  output := y.output.trans x.output
  drawn := Nat.le_trans x.drawn y.drawn
  known := fun e he => (List.mem_append.1 he).elim (y.known e) fun h => let ⟨a, ha⟩ := x.known e h; ⟨a, y.ext.1 _ _ ha⟩

section
variable {P : Program} {ρ : Nm} {a : Act} {w : World} {o : Oper} {B base : Nat} {s : St}

theorem Rep.at_lt (x : Rep B base ρ s w) {n b : Nat} {ob : AO} (h : s.hp.get n = some ob) (h' : ρ n = some b) : b < w.heap.size := by
  obtain ⟨o', e, _⟩ := x.cont n ob b h h'
  exact (Array.getElem?_eq_some_iff.1 e).1
/-- A new block. -/
theorem Go.alloc (x : Rep B base ρ s w) (hB : s.next < B) {ao : AO} {ob : Obj} {w' : World} {c : Option Nat} (hh : w'.heap = w.heap.push ob) (ho : w'.os = w.os) (ht : w'.tape = w.tape) (hp : w'.output = w.output) (hd : w.drawn ≤ w'.drawn)
    (d : DenO (ρ.up s.next w.heap.size c) ao ob) : Go B base [] ρ s w (ρ.up s.next w.heap.size c) (s.new ao) w' := by
  obtain ⟨hf, hf'⟩ := x.fresh s.next (Nat.le_refl _) hB
  have hle : leN ρ (ρ.up s.next w.heap.size c) := Nm.up_le hf hf'
  have hlow := x.low0
  have hsz : w'.heap.size = w.heap.size + 1 := by rw [hh]; simp
  have hgt : ∀ b, b < w.heap.size → w'.heap[b]? = w.heap[b]? := fun b hb => by rw [hh, Array.getElem?_push, if_neg (by omega)]
  refine ⟨⟨?_, ?_, ?_, ?_, ?_, ?_, ?_, ?_⟩, hle, ?_, ?_, .new s ao, by omega, fun b hb _ => hgt b hb, ho, ht, hp, hd, fun _ h => by cases h⟩
  · exact fun g hg => hle.1 _ _ (x.glob g hg)
  · intro n hn hnB
    have hn : s.next + 1 ≤ n := hn
    have := x.fresh n (by omega) hnB
    have hne : n ≠ s.next := by omega
    simp only [Nm.up, hne, if_false]; exact this
  · show n0 ≤ s.next + 1; omega
  · have := x.size; omega
  · intro n o1 b h1 h2
    simp only [St.new, Tr.get_set] at h1
    by_cases hn : n = s.next
    · subst hn
      simp only [if_true, Option.some.injEq] at h1; subst h1
      rw [Nm.up_at] at h2; cases h2
      exact ⟨ob, by rw [hh]; simp, d⟩
    · rw [if_neg hn] at h1
      rw [Nm.up_ne hn] at h2
      obtain ⟨o', e, d'⟩ := x.cont n o1 b h1 h2
      exact ⟨o', by rw [hgt b (x.at_lt h1 h2)]; exact e, d'.mono hle⟩
  · intro n b h1 h2
    by_cases hn : n = s.next
    · subst hn; rw [Nm.up_at] at h2; cases h2; exact x.size
    · rw [Nm.up_ne hn] at h2; exact x.high n b h1 h2
  · intro n b h1 h2
    by_cases hn : n = s.next
    · omega
    · rw [Nm.up_ne hn] at h2; exact x.low n b h1 h2
  · intro n m o1 o2 b h1 h2 e1 e2 r1 r2
    simp only [St.new, Tr.get_set] at e1 e2
    by_cases hn : n = s.next
    · by_cases hm : m = s.next
      · omega
      · subst hn
        rw [if_neg hm] at e2
        rw [Nm.up_at] at r1; cases r1
        rw [Nm.up_ne hm] at r2
        have := x.at_lt e2 r2; omega
    · rw [if_neg hn] at e1
      rw [Nm.up_ne hn] at r1
      by_cases hm : m = s.next
      · subst hm
        rw [Nm.up_at] at r2; cases r2
        have := x.at_lt e1 r1; omega
      · rw [if_neg hm] at e2
        rw [Nm.up_ne hm] at r2
        exact x.inj n m o1 o2 b h1 h2 e1 e2 r1 r2
  · intro n b h
    by_cases hn : n = s.next
    · subst hn; rw [Nm.up_at] at h; cases h; exact .inr ⟨Nat.le_refl _, Nat.lt_succ_self _, .inl (Nat.le_refl _)⟩
    · rw [Nm.up_ne hn] at h; exact .inl h
  · intro n b h
    by_cases hn : n = s.next
    · subst hn; exact .inr ⟨Nat.le_refl _, Nat.lt_succ_self _⟩
    · simp only [Nm.up, hn, if_false] at h; exact .inl h
/-- A block is given a new content. -/
theorem Go.upd (x : Rep B base ρ s w) {s' : St} {n off k b : Nat} {o1 : AO} {o2 : Option AO} {w' : World} {ob : Obj} (h : s.upd n off k o2 = some s') (h1 : s.hp.get n = some o1) (hr : ρ n = some b) (hf : HpF [(n, off, k)] s s')
    (hb : w'.heap[b]? = some ob) (hne : ∀ j, j ≠ b → w'.heap[j]? = w.heap[j]?) (hsz : w'.heap.size = w.heap.size) (ho : w'.os = w.os) (ht : w'.tape = w.tape) (hp : w'.output = w.output) (hd : w.drawn ≤ w'.drawn) (d : ∀ o', o2 = some o' → DenO ρ o' ob) :
    Go B base [(n, off, k)] ρ s w ρ s' w' := by
  obtain ⟨hn0, hnlt, rfl⟩ := upd_spec h
  have other : ∀ m o', m ≠ n → s.hp.get m = some o' → ∀ c, ρ m = some c → c ≠ b := by
    intro m o' hm e c hc hcb
    subst hcb
    rcases Nat.lt_or_ge m n0 with hlt | hge
    · have := x.low m c hlt hc
      have := x.high n c hn0 hr
      omega
    · exact hm (x.inj m n o' o1 c hge hn0 e h1 hc hr)
  refine ⟨⟨x.glob, x.fresh, x.low0, by rw [hsz]; exact x.size, ?_, x.high, x.low, ?_⟩, .refl _, fun _ _ h => .inl h, fun _ _ h => .inl h, hf, by rw [hsz]; exact Nat.le_refl _, ?_, ho, ht, hp, hd, fun e he => by simp at he; subst he; exact ⟨b, hr⟩⟩
  · intro m o' c e r
    simp only [Tr.get_set] at e
    by_cases hm : m = n
    · subst hm
      rw [if_pos rfl] at e
      rw [hr] at r; cases r
      exact ⟨ob, hb, d _ e⟩
    · rw [if_neg hm] at e
      obtain ⟨ob', e1, d1⟩ := x.cont m o' c e r
      exact ⟨ob', by rw [hne c (other m o' hm e c r)]; exact e1, d1⟩
  · intro m1 m2 p1 p2 c l1 l2 e1 e2 r1 r2
    simp only [Tr.get_set] at e1 e2
    by_cases hm1 : m1 = n
    · by_cases hm2 : m2 = n
      · omega
      · rw [if_neg hm2] at e2
        subst hm1
        rw [hr] at r1; cases r1
        exact absurd rfl (other m2 p2 hm2 e2 b r2)
    · rw [if_neg hm1] at e1
      by_cases hm2 : m2 = n
      · subst hm2
        rw [hr] at r2; cases r2
        exact absurd rfl (other m1 p1 hm1 e1 b r1)
      · rw [if_neg hm2] at e2
        exact x.inj m1 m2 p1 p2 c l1 l2 e1 e2 r1 r2
  · intro c hc hh
    exact hne c fun e => hh (n, off, k) (by simp) (by rw [e]; exact hr)

theorem one_ok {v : AV} {u : Value} (h : v.one = true) (d : DenV ρ v u) : u.oneCell' = true := by
  cases d <;> first | rfl | exact h | (simp [AV.one] at h; done)
theorem ones_ok : ∀ {vs : List AV} {us : List Value}, onesA vs = true → DenL ρ vs us → ∀ u ∈ us, u.oneCell' = true
  | _, _, _, .nil => fun u h => by cases h
  | v :: vs, _, h, .cons x y => by
    simp only [onesA] at h
    cases hv : v.one with
    | false => rw [hv] at h; cases h
    | true =>
      rw [hv, cond_true] at h
      intro u hu
      rcases List.mem_cons.1 hu with rfl | hu
      · exact one_ok hv x
      · exact ones_ok h y u hu
theorem putAt_app {l r vs : List Value} {off : Nat} (h : off + vs.length ≤ l.length) : putAt (l ++ r) off vs = putAt l off vs ++ r := by
  unfold putAt
  rw [List.take_append_of_le_length (by omega), List.drop_append_of_le_length h]
  simp
/-- Cells are stored. -/
theorem store_go (x : Rep B base ρ s w) {s' : St} {n off b : Nat} {vs : List AV} {us : List Value} (h : setCells s n off vs = some s') (hr : ρ n = some b) (d : DenL ρ vs us) :
    ∃ w', (storeCells ⟨b, off, none⟩ us 0).run P w = .ok () w' ∧ Go B base [(n, off, vs.length)] ρ s w ρ s' w' := by
  have hf := HpF.cells h
  obtain ⟨h1, h2, cs, o', ⟨o1, e1, e2, e3, e4, hsh⟩, h3⟩ := setCells_spec h
  obtain ⟨ob, e5, d5⟩ := x.cont n o1 b e1 hr
  have hones := ones_ok h1 d
  have hdl := d.length
  rcases hsh with ⟨t, rfl, rfl⟩ | ⟨t, k, me, rfl, rfl⟩
  · cases d5 with
    | @cells _ ls _ dl =>
      have hl := dl.length
      obtain ⟨w', hrun, hb', hne, hsz, ho, htp, hpo, hdn⟩ := run_storeCells (P := P) (b := b) (t := t) us 0 off ls w e5 (by omega) hones
      refine ⟨w', hrun, Go.upd x h3 e1 hr hf hb' hne hsz ho htp hpo (Nat.le_of_eq hdn.symm) fun o' eo => ?_⟩
      cases eo
      exact .cells t (dl.put d e3)
  · cases d5 with
    | @row _ ls _ rest _ _ C dl hk hlen =>
      have hl := dl.length
      obtain ⟨w', hrun, hb', hne, hsz, ho, htp, hpo, hdn⟩ := run_storeCells (P := P) (b := b) (t := t) us 0 off (ls ++ rest) w e5 (by simp; omega) hones
      refine ⟨w', hrun, Go.upd x h3 e1 hr hf hb' hne hsz ho htp hpo (Nat.le_of_eq hdn.symm) fun o' eo => ?_⟩
      cases eo
      rw [Nat.add_zero, putAt_app (by omega)]
      refine .row t rest (dl.put d e3) hk ?_
      rw [putAt_length (by omega)]; exact hlen

/-- An operation that writes memory. -/
def WR (P : Program) (B base : Nat) (ρ : Nm) (a : Act) (w : World) (o : Oper) (s : St) (v : AV) (s' : St) : Prop :=
  ∃ ρ' u w' l, DenV ρ' v u ∧ Go B base l ρ s w ρ' s' w' ∧ ((execOp a.eval o).run P w = .ok (.value u) w' ∨ ((execOp a.eval o).run P w = .ok .skip w' ∧ u = undef))

theorem w_store (x : Rep B base ρ s w) (hs : SlotsD ρ s.fr s.nt a.tmps) {t : TypeId} {p q : Operand} {v : AV} {s' : St} (hop : o.op = .store t p q) (h : wStore P s t p q = some (v, s')) : WR P B base ρ a w o s v s' := by
  simp only [wStore, Option.bind_eq_some_iff, bsome, beqT, lenL_eq, Option.some.injEq, Prod.mk.injEq] at h
  obtain ⟨vp, h1, ⟨n, off⟩, h2, vq, h3, ⟨g, k⟩, h4, h5, s1, h6, rfl, rfl⟩ := h
  obtain ⟨b, hr, hp⟩ := den_ptr (aev_ok hs x.glob h1) h2
  obtain ⟨us, e1, d1⟩ := (aev_ok hs x.glob h3).cells'
  obtain ⟨w', hrun, go⟩ := store_go (P := P) x h6 hr d1
  refine ⟨ρ, undef, w', _, .tup .nil, go, .inr ⟨?_, rfl⟩⟩
  unfold execOp; rw [hop]
  have hlen : us.length = k := by rw [d1.length]; exact h5
  simp [hp, Instr.storeAt, Instr.sureAddr, storeVar, e1, run_sizeOf h4, hlen, hrun]
theorem putE_ok {kt : TypeId} {k v : AV} {u x : Value} (dk : DenV ρ k u) (dv : DenV ρ v x) : ∀ (es es' : List (AV × AV)) (fs : List MapEntry) (j : Nat), putE P kt k v es = some es' → DenE ρ j es fs →
    (findE P kt k es = some none ∧ DenE ρ j es' (fs ++ [⟨u, x, j + fs.length⟩]) ∧ es'.length = es.length + 1) ∨
    (∃ v', findE P kt k es = some (some v') ∧ es'.length = es.length ∧ DenE ρ j es' (fs.modify (idxE P kt k es) fun e => { e with key := u, val := x }))
  | [], es', fs, j, h, d => by
    simp only [putE, Option.some.injEq] at h; subst h
    cases d
    exact .inl ⟨rfl, by simpa using DenE.cons dk dv (.nil _), rfl⟩
  | (k', v') :: es, es', fs, j, h, d => by
    simp only [putE, Option.bind_eq_some_iff] at h
    obtain ⟨b, h1, h2⟩ := h
    cases d with
    | @cons _ _ _ u' x' _ fs d1 d2 d3 =>
      cases b with
      | true =>
        simp only [cond_true, Option.some.injEq] at h2; subst h2
        exact .inr ⟨v', by simp [findE, h1], by simp, by simpa [idxE, h1] using DenE.cons dk dv d3⟩
      | false =>
        simp only [cond_false, Option.bind_eq_some_iff, Option.some.injEq] at h2
        obtain ⟨r, h3, rfl⟩ := h2
        rcases putE_ok dk dv es r fs (j + 1) h3 d3 with ⟨f1, f2, f3⟩ | ⟨v'', f1, f2, f3⟩
        · refine .inl ⟨by simp [findE, h1, f1], ?_, by simp [f3]⟩
          have := DenE.cons d1 d2 f2
          rw [List.cons_append, List.length_cons]
          rw [show j + (fs.length + 1) = j + 1 + fs.length by omega]
          exact this
        · refine .inr ⟨v'', by simp [findE, h1, f1], by simp [f2], ?_⟩
          simp only [idxE, h1, List.modify_succ_cons]
          exact DenE.cons d1 d2 f3
end
end Go.Mesh
/-
  A RUN THAT THE KERNEL RECKONS: maps that are written and ranged over; append, clear, copy.
-/
set_option linter.all false
namespace Go.Mesh
open Go.RowKit
set_option linter.unusedSimpArgs false
set_option linter.unusedVariables false

section
variable {P : Program} {ρ : Nm} {a : Act} {w : World} {o : Oper} {B base : Nat} {s : St}

theorem set_other {b : Nat} {ob : Obj} : ∀ j, j ≠ b → (w.heap.setIfInBounds b ob)[j]? = w.heap[j]? := fun j hj => by simp [Array.getElem?_setIfInBounds_ne (Ne.symm hj)]
theorem set_at {b : Nat} {ob : Obj} (h : b < w.heap.size) : (w.heap.setIfInBounds b ob)[b]? = some ob := by simp [Array.getElem?_setIfInBounds, h]
theorem run_setObj' {b : Nat} {ob o1 : Obj} (h : w.heap[b]? = some o1) (hn : ∀ c t f, o1 ≠ .cells c t f) : (setObj b ob).run P w = .ok () { w with heap := w.heap.setIfInBounds b ob } := by
  cases o1 <;> first | exact absurd rfl (hn _ _ _) | simp only [setObj, Sem.run, h]
/-- a map's block -/
theorem map_at (x : Rep B base ρ s w) {n b : Nat} {es : List (AV × AV)} (hm : mapOf s.hp n = some es) (hr : ρ n = some b) : ∃ fs, w.heap[b]? = some (.map fs.toArray es.length) ∧ DenE ρ 0 es fs := by
  obtain ⟨ob, e, d⟩ := x.cont n _ b (mapOf_get hm) hr
  cases d with
  | map d => exact ⟨_, e, d⟩
theorem w_mapUpdate (x : Rep B base ρ s w) (hs : SlotsD ρ s.fr s.nt a.tmps) {t : TypeId} {m k q : Operand} {v : AV} {s' : St} (hop : o.op = .mapUpdate t m k q) (h : wMapUpdate P s t m k q = some (v, s')) : WR P B base ρ a w o s v s' := by
  simp only [wMapUpdate, Option.bind_eq_some_iff, bsome, Option.some.injEq, Prod.mk.injEq] at h
  obtain ⟨vm, h1, n, h2, es, h3, vk, h4, vq, h5, ⟨kt, et⟩, h6, h7, es', h8, s1, h9, rfl, rfl⟩ := h
  obtain ⟨b, hr, hm⟩ := den_mp (aev_ok hs x.glob h1) h2
  have dk := aev_ok hs x.glob h4
  have dq := aev_ok hs x.glob h5
  obtain ⟨fs, hb, dE⟩ := map_at x h3 hr
  have hlt := (Array.getElem?_eq_some_iff.1 hb).1
  have ht := mapTy_spec h6
  have hget : (getObj b).run P w = .ok (.map fs.toArray es.length) w := by simp [getObj, Sem.run, hb]
  have hlen := dE.length
  have key : ∃ fs', (Instr.mapUpdate t (.map (some b)) (a.eval k) (a.eval q)).run P w = .ok () { w with heap := w.heap.setIfInBounds b (.map fs'.toArray es'.length) } ∧ DenE ρ 0 es' fs' := by
    have hset : ∀ ob, (setObj b ob).run P w = .ok () { w with heap := w.heap.setIfInBounds b ob } := fun ob => run_setObj' hb (by simp)
    rcases putE_ok dk dq es es' fs 0 h8 dE with ⟨f1, f2, f3⟩ | ⟨v', f1, f2, f3⟩
    · obtain ⟨res, g1, g2⟩ := findKey_ok (w := w) h7 dk f1 dE
      have hres : res = none := by
        rcases g2 with ⟨_, e⟩ | ⟨_, _, e, _⟩
        · exact e
        · cases e
      subst hres
      refine ⟨fs ++ [⟨a.eval k, a.eval q, es.length⟩], ?_, by rw [← hlen]; simpa using f2⟩
      unfold Instr.mapUpdate
      simp only [Sem.run_bind, run_underlying' ht, Result.andThen_ok, hget]
      simp only [keyOk_check h7 dk, Result.andThen_ok, g1, hset, f3, List.push_toArray, Sem.run_bind]
    · obtain ⟨res, g1, g2⟩ := findKey_ok (w := w) h7 dk f1 dE
      rcases g2 with ⟨e, _⟩ | ⟨v'', x', e1, e2, e3, e, e4, e5, e6⟩
      · cases e
      · subst e2
        refine ⟨fs.modify (idxE P kt vk es) fun e => { e with key := a.eval k, val := a.eval q }, ?_, f3⟩
        unfold Instr.mapUpdate
        simp only [Sem.run_bind, run_underlying' ht, Result.andThen_ok, hget]
        have hkey : ((fs.toArray[idxE P kt vk es]?).map (·.key)).getD (a.eval k) = a.eval k := by
          simp [e4, e5]
        have hstay : (Instr.keyThatStays (a.eval k) (a.eval k)).run P w = .ok (a.eval k) w := by
          unfold Instr.keyThatStays; rw [if_pos (keyOk_bits h7 dk)]; rfl
        simp only [keyOk_check h7 dk, Result.andThen_ok, g1, Nat.zero_add, Sem.run_bind, hkey, hstay, hset, f2, List.modify_toArray]
  obtain ⟨fs', hrun, d'⟩ := key
  refine ⟨ρ, undef, { w with heap := w.heap.setIfInBounds b (.map fs'.toArray es'.length) }, _, .tup .nil, Go.upd x h9 (mapOf_get h3) hr (.whole h9 (by rw [mapOf_get h3]; exact ⟨by simp, by simp⟩)) (set_at hlt) set_other (by simp) rfl rfl rfl (Nat.le_refl _) (fun o' e => by cases e; exact .map d'), .inr ⟨?_, rfl⟩⟩
  unfold execOp; rw [hop]
  simp [hm, hrun]
theorem w_range (x : Rep B base ρ s w) (hs : SlotsD ρ s.fr s.nt a.tmps) {t : TypeId} {q : Operand} {v : AV} {s' : St} (hop : o.op = .range t q) (hB : s'.next ≤ B) (h : wRange P s t q = some (v, s')) : WR P B base ρ a w o s v s' := by
  simp only [wRange, Option.bind_eq_some_iff, Option.some.injEq, Prod.mk.injEq] at h
  obtain ⟨⟨kt, et⟩, h0, vq, h1, n, h2, es, h3, rfl, rfl⟩ := h
  obtain ⟨b, hr, hm⟩ := den_mp (aev_ok hs x.glob h1) h2
  obtain ⟨fs, hb, dE⟩ := map_at x h3 hr
  have ht := mapTy_spec h0
  have hget : (getObj b).run P w = .ok (.map fs.toArray es.length) w := by simp [getObj, Sem.run, hb]
  have hBB : s.next < B := hB
  obtain ⟨hf, hf'⟩ := x.fresh s.next (Nat.le_refl _) hBB
  refine ⟨_, ptr w.heap.size 0, { w with heap := w.heap.push (.mapIter (some b) es.length #[] es.length) }, _, .ptr 0 Nm.up_at, Go.alloc (c := none) x hBB rfl rfl rfl rfl (Nat.le_refl _) ?_, .inl ?_⟩
  · have := DenO.iter (ρ := ρ.up s.next w.heap.size none) es.length false ((Nm.up_le (a := w.heap.size) (c := none) hf hf').1 _ _ hr)
    rw [lenL_eq]; simpa using this
  · unfold execOp; rw [hop]
    simp only [hm, Instr.range, Sem.run_bind, run_underlying' ht, Result.andThen_ok, hget]
    simp
theorem w_next (x : Rep B base ρ s w) (hs : SlotsD ρ s.fr s.nt a.tmps) {q : Operand} {v : AV} {s' : St} (hop : o.op = .next q false) (h : wNext s q = some (v, s')) : WR P B base ρ a w o s v s' := by
  simp only [wNext, Option.bind_eq_some_iff, bsome, beqT] at h
  obtain ⟨vq, h1, ⟨n, off⟩, h2, h3, h4⟩ := h
  simp only at h3 h4; subst h3
  obtain ⟨b, hr, hp⟩ := den_ptr (aev_ok hs x.glob h1) h2
  simp only at hr hp
  split at h4
  · rename_i m k seen e1
    simp only [Option.bind_eq_some_iff] at h4
    obtain ⟨es, h5, h6⟩ := h4
    obtain ⟨ob, hb, d⟩ := x.cont n _ b e1 hr
    cases d with
    | @iter _ mb _ _ hmb =>
      obtain ⟨fs, hmap, dE⟩ := map_at x h5 hmb
      have hlt := (Array.getElem?_eq_some_iff.1 hb).1
      have hgi : (getObj b).run P w = .ok (.mapIter (some mb) k (if seen then #[0] else #[]) k) w := by simp [getObj, Sem.run, hb]
      have hgm : (getObj mb).run P w = .ok (.map fs.toArray es.length) w := by simp [getObj, Sem.run, hmap]
      have hset : ∀ ob, (setObj b ob).run P w = .ok () { w with heap := w.heap.setIfInBounds b ob } := fun ob => run_setObj' hb (by simp)
      have hp' : a.eval q = .pointer (some ⟨b, 0, none⟩) := hp
      split at h6
      · rename_i kk uu
        simp only [Option.bind_eq_some_iff, Option.some.injEq, Prod.mk.injEq] at h6
        obtain ⟨s1, h7, rfl, rfl⟩ := h6
        cases dE with
        | @cons _ _ _ ku xu _ _ d1 d2 d3 =>
          cases d3
          refine ⟨ρ, .tuple #[.bool true, ku, xu], { w with heap := w.heap.setIfInBounds b (.mapIter (some mb) 1 #[0] 1) }, _, .tup (.cons (.bool _) (.cons d1 (.cons d2 .nil))), Go.upd x h7 e1 hr (.whole h7 (by rw [e1]; exact ⟨by simp, by simp⟩)) (set_at hlt) set_other (by simp) rfl rfl rfl (Nat.le_refl _) (fun o' e => by cases e; exact .iter 1 true hmb), .inl ?_⟩
          unfold execOp; rw [hop]
          simp only [hp', Instr.next, Sem.run_bind, hgi, Result.andThen_ok, hgm]
          simp [choose, Sem.run, Question.forced, hset]
      · rename_i p0
        cases h6
        cases dE with
        | @cons _ _ _ ku xu _ _ d1 d2 d3 =>
          cases d3
          refine ⟨ρ, .tuple #[.bool false], w, _, .tup (.cons (.bool _) .nil), Go.refl x rfl rfl rfl rfl (Nat.le_refl _), .inl ?_⟩
          unfold execOp; rw [hop]
          simp only [hp', Instr.next, Sem.run_bind, hgi, Result.andThen_ok, hgm]
          simp [choose, Sem.run, Question.forced]
      · cases h6
        cases dE
        refine ⟨ρ, .tuple #[.bool false], w, _, .tup (.cons (.bool _) .nil), Go.refl x rfl rfl rfl rfl (Nat.le_refl _), .inl ?_⟩
        unfold execOp; rw [hop]
        have hfe : ∀ (p : MapEntry → Bool), Array.filter p (#[] : Array MapEntry) 0 0 = #[] := fun p => by simp [Array.filter]
        have hfe' : ∀ (p : MapEntry → Bool), Array.filter p (#[] : Array MapEntry) = #[] := fun p => by simp
        simp only [hp', Instr.next, Sem.run_bind, hgi, Result.andThen_ok, hgm]
        simp [hfe, hfe', choose, Sem.run, Question.forced]
      · cases h6
  · cases h4
theorem w_entry (x : Rep B base ρ s w) (hs : SlotsD ρ s.fr s.nt a.tmps) {q : Operand} {v : AV} {s' : St} (hop : o.op = .entry q) (h : wEntry s q = some (v, s')) : WR P B base ρ a w o s v s' := by
  simp only [wEntry, Option.bind_eq_some_iff, bsome, beqT] at h
  obtain ⟨vq, h1, ⟨n, off⟩, h2, h3, h4⟩ := h
  simp only at h3 h4; subst h3
  obtain ⟨b, hr, hp⟩ := den_ptr (aev_ok hs x.glob h1) h2
  simp only at hr hp
  split at h4
  · rename_i m k seen e1
    simp only [Option.bind_eq_some_iff] at h4
    obtain ⟨es, h5, h6⟩ := h4
    obtain ⟨ob, hb, d⟩ := x.cont n _ b e1 hr
    cases d with
    | @iter _ mb _ _ hmb =>
      obtain ⟨fs, hmap, dE⟩ := map_at x h5 hmb
      have hgi : (getObj b).run P w = .ok (.mapIter (some mb) k (if seen then #[0] else #[]) k) w := by simp [getObj, Sem.run, hb]
      have hgm : (getObj mb).run P w = .ok (.map fs.toArray es.length) w := by simp [getObj, Sem.run, hmap]
      have hp' : a.eval q = .pointer (some ⟨b, 0, none⟩) := hp
      split at h6
      · rename_i kk uu
        cases h6
        cases dE with
        | @cons _ _ _ ku xu _ _ d1 d2 d3 =>
          cases d3
          refine ⟨ρ, .tuple #[ku, xu], w, _, .tup (.cons d1 (.cons d2 .nil)), Go.refl x rfl rfl rfl rfl (Nat.le_refl _), .inl ?_⟩
          unfold execOp; rw [hop]
          simp only [hp', Instr.entry, Sem.run_bind, hgi, Result.andThen_ok, if_true]
          simp [hgm]
      · cases h6
  · cases h4

/-! ### append -/
theorem src_ok (x : Rep B base ρ s w) {k m : Nat} {y : AV} {u : Value} {ws : List AV} (h : srcA s.hp k y = some (m, ws)) (d : DenV ρ y u) :
    ∃ p c us, u = .slice p m c ∧ DenL ρ ws us ∧ us.length = m * k ∧ (m = 0 ∨ ∃ b off, p = some ⟨b, off, none⟩ ∧ ∀ j v, us[j]? = some v → w.cell? ((⟨b, off, none⟩ : Addr).add j) = some v) := by
  unfold srcA at h
  split at h
  · cases h; cases d; exact ⟨none, 0, [], rfl, .nil, by simp, .inl rfl⟩
  · cases h; cases d; exact ⟨_, _, [], rfl, .nil, by simp, .inl rfl⟩
  · rename_i n off len cap ex
    simp only [Option.bind_eq_some_iff, bsome, bleT, lenL_eq, takeL_eq, dropL_eq, Option.some.injEq, Prod.mk.injEq] at h
    obtain ⟨cs, h1, h2, rfl, rfl⟩ := h
    cases d with
    | @sl _ b off len cap c ex hr hcc hex hwh =>
      obtain ⟨o1, e1, e2⟩ := objCells_get h1
      obtain ⟨ob, e3, d3⟩ := x.cont n o1 b e1 hr
      obtain ⟨us, rest, t, fz, rfl, dl⟩ := d3.cs e2
      have h2' : off + len * k ≤ cs.length := h2
      have hl := dl.length
      refine ⟨some ⟨b, off, none⟩, c, (us.drop off).take (len * k), rfl, (dl.drop off).take _, by simp; omega, .inr ⟨b, off, rfl, fun j v ej => ?_⟩⟩
      have := take_drop_get ej
      have hlt := (List.getElem?_eq_some_iff.1 this).1
      rw [addr_add]
      simp [World.cell?, e3, List.getElem?_append_left hlt, this]
  · cases h
theorem run_append_in {t ty e : TypeId} {i : TypeInfo} (ht : P.underlying t = some (.slice e)) (hi : P.info? e = some i) {b off sLen sCap m c : Nat} {a : Addr} {news : List Value} {w' : World} (hl : news.length = m * i.size)
    (hnews : ∀ j u, news[j]? = some u → w.cell? (a.add j) = some u) (hroom : sLen + m ≤ sCap) (hst : (storeCells ⟨b, off + sLen * i.size, none⟩ news 0).run P w = .ok () w') :
    (Builtin.append_ #[t, t] ty #[.slice (some ⟨b, off, none⟩) sLen sCap, .slice (some a) m c]).run P w = .ok (.slice (some ⟨b, off, none⟩) (sLen + m) sCap) w' := by
  have hf := run_firstCells_some (P := P) w i.size m a m c news hl hnews
  simp [Builtin.append_, run_underlying' ht, sizeOf, typeInfo, hi, Builtin.lenOf, hroom, hf, addr_add, hst]
theorem putAt_end {l r vs : List Value} (h : vs.length ≤ r.length) : putAt (l ++ r) l.length vs = (l ++ vs) ++ r.drop vs.length := by
  unfold putAt
  rw [List.take_left, List.drop_append]
  simp
/-- The block's name is given up for a new one. -/
theorem Go.rename (x : Rep B base ρ s w) {s' : St} {n b C : Nat} {o1 o2 : AO} {w' : World} {ob : Obj} (hod : o1 ≠ .defd) (h : s.upd n 0 big none = some s') (hB : s'.next < B) (h1 : s.hp.get n = some o1) (hr : ρ n = some b)
    (hb : w'.heap[b]? = some ob) (hne : ∀ j, j ≠ b → w'.heap[j]? = w.heap[j]?) (hsz : w'.heap.size = w.heap.size) (ho : w'.os = w.os) (ht : w'.tape = w.tape) (hp : w'.output = w.output) (hd : w.drawn ≤ w'.drawn) (d : DenO (ρ.up s'.next b (some C)) o2 ob) :
    Go B base [(n, 0, big)] ρ s w (ρ.up s'.next b (some C)) (s'.new o2) w' := by
  have g := Go.upd x h h1 hr (.whole h (by rw [h1]; exact ⟨by simp, by simpa using hod⟩)) hb hne hsz ho ht hp hd (fun _ e => by cases e)
  have x' := g.rep
  obtain ⟨hn0, hnlt, hs'⟩ := upd_spec h
  have hnx : s'.next = s.next := by rw [hs']
  obtain ⟨hf, hf'⟩ := x'.fresh s'.next (Nat.le_refl _) hB
  have hle : leN ρ (ρ.up s'.next b (some C)) := Nm.up_le hf hf'
  have hlow := x'.low0
  have hlive : ∀ m o', s'.hp.get m = some o' → ∀ c, ρ m = some c → n0 ≤ m → c ≠ b := by
    intro m o' e c hc hm hcb
    subst hcb
    rw [hs'] at e
    simp only [Tr.get_set] at e
    by_cases hmn : m = n
    · rw [if_pos hmn] at e; cases e
    · rw [if_neg hmn] at e
      exact hmn (x.inj m n o' o1 c hm hn0 e h1 hc hr)
  refine ⟨⟨fun g' hg => hle.1 _ _ (x'.glob g' hg), ?_, ?_, x'.size, ?_, ?_, ?_, ?_⟩, hle, ?_, ?_, ?_, g.size, g.frame, ho, ht, hp, hd, fun e he => by simp at he; subst he; exact ⟨_, hle.1 _ _ hr⟩⟩
  · intro m hm hmB
    have hm : s'.next + 1 ≤ m := hm
    have := x'.fresh m (by omega) hmB
    have hne : m ≠ s'.next := by omega
    simp only [Nm.up, hne, if_false]; exact this
  · show n0 ≤ s'.next + 1; omega
  · intro m o' c e r
    simp only [St.new, Tr.get_set] at e
    by_cases hm : m = s'.next
    · subst hm
      simp only [if_true, Option.some.injEq] at e; subst e
      rw [Nm.up_at] at r; cases r
      exact ⟨ob, hb, d⟩
    · rw [if_neg hm] at e
      rw [Nm.up_ne hm] at r
      obtain ⟨ob', e1, d1⟩ := x'.cont m o' c e r
      exact ⟨ob', e1, d1.mono hle⟩
  · intro m c h2 r
    by_cases hm : m = s'.next
    · subst hm; rw [Nm.up_at] at r; cases r; exact x.high n b hn0 hr
    · rw [Nm.up_ne hm] at r; exact x'.high m c h2 r
  · intro m c h2 r
    by_cases hm : m = s'.next
    · omega
    · rw [Nm.up_ne hm] at r; exact x'.low m c h2 r
  · intro m1 m2 p1 p2 c l1 l2 e1 e2 r1 r2
    simp only [St.new, Tr.get_set] at e1 e2
    by_cases hm1 : m1 = s'.next
    · by_cases hm2 : m2 = s'.next
      · omega
      · rw [if_neg hm2] at e2
        subst hm1
        rw [Nm.up_at] at r1; cases r1
        rw [Nm.up_ne hm2] at r2
        exact absurd rfl (hlive m2 p2 e2 b r2 l2)
    · rw [if_neg hm1] at e1
      rw [Nm.up_ne hm1] at r1
      by_cases hm2 : m2 = s'.next
      · subst hm2
        rw [Nm.up_at] at r2; cases r2
        exact absurd rfl (hlive m1 p1 e1 b r1 l1)
      · rw [if_neg hm2] at e2
        rw [Nm.up_ne hm2] at r2
        exact x'.inj m1 m2 p1 p2 c l1 l2 e1 e2 r1 r2
  · intro m c r
    by_cases hm : m = s'.next
    · subst hm; rw [Nm.up_at] at r; cases r
      exact .inr ⟨by omega, Nat.lt_succ_self _, .inr ⟨(n, 0, big), by simp, hr⟩⟩
    · rw [Nm.up_ne hm] at r; exact .inl r
  · intro m c r
    by_cases hm : m = s'.next
    · subst hm; exact .inr ⟨by omega, Nat.lt_succ_self _⟩
    · simp only [Nm.up, hm, if_false] at r; exact .inl r
  · have := (HpF.whole h (by rw [h1]; exact ⟨by simp, by simpa using hod⟩)).trans (HpF.new s' o2)
    simpa using this
theorem w_append (x : Rep B base ρ s w) {t ty : TypeId} {vx vy : AV} {ux uy : Value} {v : AV} {s' : St} (hB : s'.next ≤ B) (h : appendA P s t vx vy = some (v, s')) (dx : DenV ρ vx ux) (dy : DenV ρ vy uy) :
    ∃ ρ' u w' l, DenV ρ' v u ∧ Go B base l ρ s w ρ' s' w' ∧ (Builtin.append_ #[t, t] ty #[ux, uy]).run P w = .ok u w' := by
  unfold appendA at h
  simp only [Option.bind_eq_some_iff, bsome, beqT, bleT, lenL_eq, Bool.and_eq_true] at h
  obtain ⟨⟨e, k, by_⟩, h1, z, h2, h3, ⟨m, ws⟩, h4, ⟨h5m, h5⟩, h6, h⟩ := h
  obtain ⟨p, c, us, rfl, dw, hlen, hsrc⟩ := src_ok x h4 dy
  obtain ⟨hu, i0, hi, hk, hby⟩ := elemOf?_spec h1
  obtain ⟨zl, hzl, dz⟩ := zeroA_spec (ρ := ρ) h2
  obtain ⟨i, zv, hi', hz0, hzc⟩ := zeroOf_spec hzl
  rw [hi] at hi'; cases hi'
  have hzk : zl.length = k := by rw [dz.length]; exact h3
  have hones := ones_ok h6 dw
  have h5' : m * by_ ≤ 140737488355328 := h5
  have h5m' : m ≤ 1000000000 := h5m
  have hlen' : us.length = m * i0.size := by rw [hk]; exact hlen
  -- nothing is appended
  have zero : m = 0 → ∀ (pp : Option Addr) (sl sc : Nat), ux = .slice pp sl sc → sl ≤ sc → (Builtin.append_ #[t, t] ty #[ux, .slice p m c]).run P w = .ok ux w := by
    rintro rfl pp sl sc rfl hle
    cases pp <;> cases p <;> simp [Builtin.append_, run_underlying' hu, sizeOf, typeInfo, hi, Builtin.lenOf, Builtin.firstCells, loadCells, loadCellsFrom, hle, storeCells]
  split at h
  · cases dx
    cases hb : Nat.beq m 0 with
    | true =>
      rw [hb, cond_true] at h; cases h
      exact ⟨ρ, _, w, _, .lit _, Go.refl x rfl rfl rfl rfl (Nat.le_refl _), zero (beqT.1 hb) none 0 0 rfl (Nat.le_refl _)⟩
    | false =>
      rw [hb, cond_false] at h; cases h
      have hm0 : m ≠ 0 := fun e => by rw [beqT.2 e] at hb; cases hb
      obtain ⟨b, off, rfl, hcell⟩ := hsrc.resolve_left hm0
      have hge := grownCap_ge w m 0 e
      have hBB : s.next < B := hB
      obtain ⟨hf, hf'⟩ := x.fresh s.next (Nat.le_refl _) hBB
      have hle := Nm.up_le (a := w.heap.size) (c := some (grownCap w m 0 e)) hf hf'
      have hrun := run_append_nil (P := P) w t ty e i0 zv hu hi hz0 ⟨b, off, none⟩ m c us hlen' hcell (by omega) (by omega) (by rw [hby]; omega)
      refine ⟨ρ.up s.next w.heap.size (some (grownCap w m 0 e)), _, _, _, .sl 0 m m _ .whole Nm.up_at hge (fun e => by cases e) (fun _ => Nm.up_κ), Go.alloc (c := some (grownCap w m 0 e)) x hBB (w' := w.drew.alloc _) rfl rfl rfl rfl (Nat.le_succ _) ?_, hrun⟩
      have hz : (us.toArray ++ Builtin.zeroCells zv.cells (grownCap w m 0 e - m)) = (us ++ (Builtin.zeroCells zv.cells (grownCap w m 0 e - m)).toList).toArray := by simp
      rw [hz]
      refine .row e _ (dw.mono hle) Nm.up_κ ?_
      simp [size_zeroCells, hzc, hzk, hlen, ← Nat.add_mul]; congr 1; omega
  · rename_i n off len cap ex
    cases dx with
    | @sl _ b _ _ _ cc _ hr hcc hex hwh =>
      -- a new block
      have grown : ∀ (olds : List Value) (os : List AV) (s1 : St), DenL ρ os olds → olds.length = len * i0.size → (∀ j v, olds[j]? = some v → w.cell? ((⟨b, off, none⟩ : Addr).add j) = some v) → cc < len + m → len + m ≤ 1000000000 → (len + m) * by_ ≤ 140737488355328 → m ≠ 0 →
          ∀ (l : Lg) , (∀ (c : Option Nat) (ao : AO) (ob : Obj) (w' : World), w'.heap = w.heap.push ob → w'.os = w.os → w'.tape = w.tape → w'.output = w.output → w.drawn ≤ w'.drawn → DenO (ρ.up s1.next w.heap.size c) ao ob → Go B base l ρ s w (ρ.up s1.next w.heap.size c) (s1.new ao) w') → ρ s1.next = none → ρ.κ s1.next = none →
          ∃ ρ' u w', DenV ρ' (.sl s1.next 0 (len + m) (len + m) .whole) u ∧ Go B base l ρ s w ρ' (s1.new (.row (os ++ ws) e k s1.next)) w' ∧ (Builtin.append_ #[t, t] ty #[.slice (some ⟨b, off, none⟩) len cc, .slice p m c]).run P w = .ok u w' := by
        intro olds os s1 dolds holen hocell hlt h63 hfit hm0 l hgo hf hf'
        obtain ⟨b2, off2, rfl, hcell⟩ := hsrc.resolve_left hm0
        have hge := grownCap_ge w (len + m) cc e
        have hle := Nm.up_le (a := w.heap.size) (c := some (grownCap w (len + m) cc e)) hf hf'
        have hrun := run_append_grow (P := P) w t ty e i0 zv hu hi hz0 ⟨b, off, none⟩ len cc olds holen hocell ⟨b2, off2, none⟩ m c us hlen' hcell hlt (by omega) (growslice_fits hlt (by rw [hby]; exact hfit))
        refine ⟨ρ.up s1.next w.heap.size (some (grownCap w (len + m) cc e)), _, _, .sl 0 (len + m) (len + m) _ .whole Nm.up_at hge (fun e => by cases e) (fun _ => Nm.up_κ), hgo (some (grownCap w (len + m) cc e)) _ _ (w.drew.alloc _) rfl rfl rfl rfl (Nat.le_succ _) ?_, hrun⟩
        have hz : (olds.toArray ++ us.toArray ++ Builtin.zeroCells zv.cells (grownCap w (len + m) cc e - (len + m))) = ((olds ++ us) ++ (Builtin.zeroCells zv.cells (grownCap w (len + m) cc e - (len + m))).toList).toArray := by simp
        rw [hz]
        refine .row e _ ((dolds.append dw).mono hle) Nm.up_κ ?_
        simp [size_zeroCells, hzc, hzk, hlen, holen, hk, ← Nat.add_mul]; congr 1; omega
      cases hb : Nat.ble (Nat.add len m) cap with
      | true =>
        rw [hb, cond_true] at h
        have hroom : len + m ≤ cc := Nat.le_trans (bleT.1 hb) hcc
        cases hb2 : Nat.beq m 0 with
        | true =>
          rw [hb2, cond_true] at h; cases h
          exact ⟨ρ, _, w, _, .sl _ _ _ _ _ hr hcc hex hwh, Go.refl x rfl rfl rfl rfl (Nat.le_refl _), zero (beqT.1 hb2) _ len cc rfl (by omega)⟩
        | false =>
          rw [hb2, cond_false, Option.bind_eq_some_iff] at h
          obtain ⟨s1, g1, g2⟩ := h
          cases g2
          have hm0 : m ≠ 0 := fun e => by rw [beqT.2 e] at hb2; cases hb2
          obtain ⟨b2, off2, rfl, hcell⟩ := hsrc.resolve_left hm0
          obtain ⟨w', hst, go⟩ := store_go (P := P) x g1 hr dw
          refine ⟨ρ, _, w', _, .sl off (len + m) cap cc ex hr hcc hex hwh, go, run_append_in hu hi hlen' hcell hroom ?_⟩
          rw [hk]; exact hst
      | false =>
        have hnr : ¬ len + m ≤ cap := fun e => by rw [show Nat.ble (Nat.add len m) cap = true from bleT.2 e] at hb; cases hb
        rw [hb, cond_false, bsome, Bool.and_eq_true, Bool.and_eq_true, bleT, bleT, bltT] at h
        obtain ⟨⟨⟨h63, hfit⟩, hm0⟩, h⟩ := h
        have hm0 : m ≠ 0 := by omega
        have h63 : len + m ≤ 1000000000 := h63
        have hfit : (len + m) * by_ ≤ 140737488355328 := hfit
        cases hx : ex.isExact with
        | true =>
          have hexx : ex = .exact := by cases ex <;> first | rfl | cases hx
          rw [hx, cond_true, Option.bind_eq_some_iff] at h
          obtain ⟨⟨m2, os⟩, g1, g2⟩ := h
          cases g2
          obtain ⟨p2, c2, us2, e2, dw2, hl2, hs2⟩ := src_ok x g1 (DenV.sl off len cap cc ex hr hcc hex hwh)
          simp only [Value.slice.injEq] at e2
          obtain ⟨rfl, rfl, rfl⟩ := e2
          have hBB : s.next < B := hB
          obtain ⟨hf, hf'⟩ := x.fresh s.next (Nat.le_refl _) hBB
          have hccap := hex hexx
          -- when the old slice is not empty, its cells are read
          obtain ⟨ρ', u, w', d1, g3, g4⟩ := grown us2 os s dw2 (by rw [hk]; exact hl2) (by
            rcases hs2 with h0 | ⟨b3, off3, e3, h3⟩
            · intro j v ej
              rw [h0] at hl2
              have := List.eq_nil_of_length_eq_zero (by simpa using hl2)
              subst this; simp at ej
            · simp only [Option.some.injEq, Addr.mk.injEq] at e3
              obtain ⟨rfl, rfl, _⟩ := e3
              exact h3) (by omega) h63 hfit hm0 [] (fun c ao ob w' q1 q2 q3 q4 q5 q6 => Go.alloc x hBB q1 q2 q3 q4 q5 q6) hf hf'
          exact ⟨ρ', u, w', _, d1, g3, g4⟩
        | false =>
          rw [hx, cond_false] at h
          split at h
          · rename_i cs bt kk me hc0
            simp only [bsome, Bool.and_eq_true, beqT, lenL_eq, Option.bind_eq_some_iff, Option.some.injEq, Prod.mk.injEq] at h
            obtain ⟨⟨⟨hw, h0⟩, hme⟩, hfull, ⟨hbt, hkk⟩, s1, g1, rfl, rfl⟩ := h
            have hwx : ex = .whole := by cases ex <;> first | rfl | cases hw
            subst hwx; subst h0; subst hme; subst hbt; subst hkk
            have hfull : len * kk = cs.length := hfull
            obtain ⟨ob, hb0, d0⟩ := x.cont _ _ b hc0 hr
            have hs1 : s1.next = s.next := by rw [(upd_spec g1).2.2]
            have hBB : s1.next < B := hB
            obtain ⟨hf, hf'⟩ := x.fresh s1.next (by omega) hBB
            cases d0 with
            | @row _ ls _ rest _ _ C dl hκ hCl =>
              have hls := dl.length
              have hcC : cc = C := by have := hwh rfl; rw [hκ] at this; cases this; rfl
              subst hcC
              by_cases hroom : len + m ≤ cc
              · have hmul : (len + m) * kk ≤ cc * kk := Nat.mul_le_mul_right _ hroom
                rw [Nat.add_mul] at hmul
                have hlen2 : us.length = m * kk := hlen
                have hCl2 : ls.length + rest.length = cc * kk := hCl
                obtain ⟨b2, off2, rfl, hcell⟩ := hsrc.resolve_left hm0
                obtain ⟨w', hrun1, hb', hne, hsz, ho, htp, hpo, hdn⟩ := run_storeCells (P := P) (b := b) (t := bt) us 0 (0 + len * kk) (ls ++ rest) w hb0 (by simp only [List.length_append]; omega) hones
                have hle := Nm.up_le (a := b) (c := some cc) hf hf'
                refine ⟨ρ.up s1.next b (some cc), _, w', _, .sl 0 (len + m) (len + m) cc .whole Nm.up_at hroom (fun e => by cases e) (fun _ => Nm.up_κ), Go.rename x (by simp) g1 hBB hc0 hr hb' hne hsz ho htp hpo (Nat.le_of_eq hdn.symm) ?_, run_append_in hu hi hlen' hcell hroom (by rw [hk]; exact hrun1)⟩
                have hoff : 0 + len * kk + 0 = ls.length := by omega
                rw [hoff, putAt_end (by omega)]
                refine .row bt _ ((dl.append dw).mono hle) Nm.up_κ ?_
                simp; omega
              · obtain ⟨ρ', u, w', d1, g3, g4⟩ := grown ls cs s1 dl (by rw [hk]; omega) (by
                  intro j v ej
                  have hlt := (List.getElem?_eq_some_iff.1 ej).1
                  rw [addr_add]
                  simp [World.cell?, hb0, List.getElem?_append_left hlt, ej]) (by omega) h63 hfit hm0 [(_, 0, big)] (fun c ao ob w' q1 q2 q3 q4 q5 q6 => by
                    have g := Go.upd (w' := w) x g1 hc0 hr (.whole g1 (by rw [hc0]; exact ⟨by simp, by simp⟩)) hb0 (fun _ _ => rfl) rfl rfl rfl rfl (Nat.le_refl _) (fun _ e => by cases e)
                    exact g.trans (Go.alloc g.rep hBB q1 q2 q3 q4 q5 q6)) hf hf'
                exact ⟨ρ', u, w', _, d1, g3, g4⟩
          · cases h
  · cases h
end
end Go.Mesh
/-
  A RUN THAT THE KERNEL RECKONS: all operations that write memory.
-/
set_option linter.all false
namespace Go.Mesh
open Go.RowKit
set_option linter.unusedSimpArgs false
set_option linter.unusedVariables false

section
variable {P : Program} {ρ : Nm} {a : Act} {w : World} {o : Oper} {B base : Nat} {s : St}

theorem zeroCells_repL {zl : List Value} {z : Value} {k n : Nat} (hz : z.cells = zl.toArray) (hk : zl.length = k) : (Builtin.zeroCells z.cells n).toList = repL n zl := by
  unfold Builtin.zeroCells
  rw [hz]
  have h1 : zl.toArray.size = k := by simpa using hk
  rw [show n * zl.toArray.size = n * k by rw [h1]]
  rw [repL_zero hk]
theorem w_wappend (x : Rep B base ρ s w) (hs : SlotsD ρ s.fr s.nt a.tmps) {c : Call} {v : AV} {s' : St} (hB : s'.next ≤ B) (hop : o.op = .call c) (hc : c.callee = .builtin .append) (h : wAppend P s c = some (v, s')) : WR P B base ρ a w o s v s' := by
  unfold wAppend at h
  split at h
  · rename_i p q t t' hargs htys
    simp only [bsome, beqT, Option.bind_eq_some_iff] at h
    obtain ⟨rfl, vx, h1, vy, h2, h3⟩ := h
    obtain ⟨ρ', u, w', l, d1, g, hrun⟩ := w_append (ty := o.type) x hB h3 (aev_ok hs x.glob h1) (aev_ok hs x.glob h2)
    refine ⟨ρ', u, w', l, d1, g, .inl ?_⟩
    have ha : c.args = #[p, q] := by apply Array.toList_inj.1; rw [hargs]
    have hat : c.argTypes = #[t, t] := by apply Array.toList_inj.1; rw [htys]
    unfold execOp; rw [hop]
    simp [resolve, hc, ha, hat, invoke, builtin, hrun]
  · cases h
theorem w_clear (x : Rep B base ρ s w) (hs : SlotsD ρ s.fr s.nt a.tmps) {c : Call} {v : AV} {s' : St} (hop : o.op = .call c) (hc : c.callee = .builtin .clear) (h : wClear P s c = some (v, s')) : WR P B base ρ a w o s v s' := by
  unfold wClear at h
  split at h
  · rename_i p t hargs htys
    simp only [Option.bind_eq_some_iff] at h
    obtain ⟨vx, h1, h⟩ := h
    have ha : c.args = #[p] := by apply Array.toList_inj.1; rw [hargs]
    have hat : c.argTypes = #[t] := by apply Array.toList_inj.1; rw [htys]
    have dx := aev_ok hs x.glob h1
    split at h
    · rename_i n off len cap ex
      simp only [Option.bind_eq_some_iff, bsome, beqT, lenL_eq] at h
      obtain ⟨⟨e, k, by_⟩, h2, z, h3, h4, h⟩ := h
      cases hb : Nat.beq len 0 with
      | true => rw [hb] at h; cases h
      | false =>
        rw [hb, cond_false, Option.bind_eq_some_iff] at h
        obtain ⟨s1, h5, h6⟩ := h
        cases h6
        obtain ⟨ux, hux⟩ : ∃ ux, a.eval p = ux := ⟨_, rfl⟩
        rw [hux] at dx
        cases dx with
        | @sl _ b _ _ _ cc _ hr hcc hex hwh =>
          obtain ⟨hu, i0, hi, hk, hby⟩ := elemOf?_spec h2
          obtain ⟨zl, hzl, dz⟩ := zeroA_spec (ρ := ρ) h3
          obtain ⟨i, zv, hi', hz0, hzc⟩ := zeroOf_spec hzl
          rw [hi] at hi'; cases hi'
          have hzk : zl.length = k := by rw [dz.length]; exact h4
          obtain ⟨w', hst, go⟩ := store_go (P := P) x h5 hr (dz.rep len)
          refine ⟨ρ, .tuple #[], w', _, .tup .nil, go, .inl ?_⟩
          have hlen0 : len ≠ 0 := fun e => by rw [beqT.2 e] at hb; cases hb
          obtain ⟨len', rfl⟩ := Nat.exists_eq_succ_of_ne_zero hlen0
          have hzz := zeroCells_repL (n := len' + 1) hzc hzk
          have hrun : (Builtin.clear_ #[t] o.type #[.slice (some ⟨b, off, none⟩) (len' + 1) cc]).run P w = .ok (.tuple #[]) w' := by
            unfold Builtin.clear_
            simp [run_underlying' hu, zeroValue, typeInfo, hi, hz0, hzz, hst]
          unfold execOp; rw [hop]
          simp [resolve, hc, ha, hat, invoke, builtin, hux, hrun]
    · cases h
  · cases h
theorem w_copy (x : Rep B base ρ s w) (hs : SlotsD ρ s.fr s.nt a.tmps) {c : Call} {v : AV} {s' : St} (hop : o.op = .call c) (hc : c.callee = .builtin .copy) (h : wCopy P s c = some (v, s')) : WR P B base ρ a w o s v s' := by
  unfold wCopy at h
  split at h
  · rename_i p q t t' hargs htys
    simp only [Option.bind_eq_some_iff] at h
    obtain ⟨vx, h1, vy, h2, h⟩ := h
    have ha : c.args = #[p, q] := by apply Array.toList_inj.1; rw [hargs]
    have hat : c.argTypes = #[t, t'] := by apply Array.toList_inj.1; rw [htys]
    have dx := aev_ok hs x.glob h1
    have dy := aev_ok hs x.glob h2
    split at h
    · rename_i n off len cap ex
      simp only [Option.bind_eq_some_iff] at h
      obtain ⟨⟨e, k, by_⟩, h3, h⟩ := h
      cases h
      obtain ⟨ux, hux⟩ : ∃ ux, a.eval p = ux := ⟨_, rfl⟩
      obtain ⟨uy, huy⟩ : ∃ uy, a.eval q = uy := ⟨_, rfl⟩
      rw [hux] at dx; rw [huy] at dy
      cases dx with
      | @sl _ b off len _ cc _ hr hcc hex hwh =>
        cases dy
        obtain ⟨hu, i0, hi, hk, hby⟩ := elemOf?_spec h3
        refine ⟨ρ, .int .i64 0, w, _, .int _ _, Go.refl x rfl rfl rfl rfl (Nat.le_refl _), .inl ?_⟩
        have hrun : (Builtin.copy_ #[t, t'] o.type #[.slice (some ⟨b, off, none⟩) len cc, .slice none 0 0]).run P w = .ok (.int .i64 0) w := by
          unfold Builtin.copy_
          simp [run_underlying' hu, Builtin.lenOf, sizeOf, typeInfo, hi, Builtin.firstCells, storeCells, goInt]
        unfold execOp; rw [hop]
        simp [resolve, hc, ha, hat, invoke, builtin, hux, huy, hrun]
    · cases h
  · cases h
/-- THE OPERATIONS THAT WRITE MEMORY. -/
theorem opW_ok (x : Rep B base ρ s w) (hs : SlotsD ρ s.fr s.nt a.tmps) {v : AV} {s' : St} (hB : s'.next ≤ B) (h : opW P s o.op = some (v, s')) : WR P B base ρ a w o s v s' := by
  obtain ⟨dst, op, type, pos, after, guard⟩ := o
  simp only at h
  unfold opW at h
  split at h
  · exact w_store x hs rfl h
  · exact w_mapUpdate x hs rfl h
  · exact w_range x hs rfl hB h
  · exact w_next x hs rfl h
  · exact w_entry x hs rfl h
  · split at h
    · exact w_wappend x hs hB rfl (by assumption) h
    · exact w_clear x hs rfl (by assumption) h
    · exact w_copy x hs rfl (by assumption) h
    · cases h
  · cases h
end
end Go.Mesh
/-
  A RUN THAT THE KERNEL RECKONS: one operation; a region in the order of its text.
-/
set_option linter.all false
namespace Go.Mesh
open Go.RowKit
set_option linter.unusedSimpArgs false
set_option linter.unusedVariables false

def DomS (s : St) : Prop := ∀ n, s.next ≤ n → s.hp.get n = none
/-- a target that is invoked comes to a value -/
def InvOk (P : Program) (t : Target) (args : Array Value) (w : World) (R : Value → World → Prop) : Prop :=
  (∃ v w', (invoke t args).run P w = .ok (.value v) w' ∧ R v w') ∨
  (∃ f args', (invoke t args).run P w = .ok (.enter f args') w ∧ Calls P f args' w (fun e w' => ∃ v, e = .returned v ∧ R v w')) ∨
  (∃ l fn tmps asg body, (invoke t args).run P w = .ok (.round l fn tmps asg body) w ∧ RoundIn (FW none) 0 P l fn tmps asg body w (fun e w' => ∃ v, e = .returned v ∧ R v w'))
/-- a function's value that is called -/
def CallOk (P : Program) (call : CallA) : Prop :=
  ∀ f vs s v s', call f vs s = some (v, s') → ∀ (B base : Nat) (ρ : Nm) (w : World) (uf : Value) (us : List Value), Rep B base ρ s w → DomS s → s'.next ≤ B → DenV ρ f uf → DenL ρ vs us →
    ∃ fn first cap, uf = .func fn first cap ∧ InvOk P (.fn fn cap) (first ++ us.toArray) w (fun u w' => ∃ ρ' l, DenV ρ' v u ∧ Go B base l ρ s w ρ' s' w')

section
variable {P : Program} {ρ : Nm} {a : Act} {w : World} {o : Oper} {B base : Nat} {s s' : St} {call : CallA}

theorem InvOk.mono {t : Target} {args : Array Value} {R R' : Value → World → Prop} (h : InvOk P t args w R) (hr : ∀ v w', R v w' → R' v w') : InvOk P t args w R' := by
  rcases h with ⟨v, w', h1, h2⟩ | ⟨f, args', h1, h2⟩ | ⟨l, fn, tmps, asg, body, h1, h2⟩
  · exact .inl ⟨v, w', h1, hr _ _ h2⟩
  · exact .inr (.inl ⟨f, args', h1, h2.mono fun e w' ⟨v, he, q⟩ => ⟨v, he, hr _ _ q⟩⟩)
  · exact .inr (.inr ⟨l, fn, tmps, asg, body, h1, h2.mono fun e w' ⟨v, he, q⟩ => ⟨v, he, hr _ _ q⟩⟩)
theorem call_wp {c : Call} {d : Deferred} {R : Value → World → Prop} (hop : o.op = .call c) (hres : (resolve a.eval c o.type).run P w = .ok d w) (h : InvOk P d.target d.args w R) (r : Option Nat) :
    o.wpIn (FW r) 0 P a w (fun a' w' => ∃ u, a' = a.put o.dst u ∧ R u w') (fun _ _ _ => False) := by
  have hd : ∀ c', o.op ≠ .defer c' := fun c' => by rw [hop]; simp
  have hexec : (execOp a.eval o).run P w = (invoke d.target d.args).run P w := by
    unfold execOp; rw [hop]; simp only [Sem.run_bind, hres, Result.andThen_ok]
  rcases h with ⟨v, w', h1, h2⟩ | ⟨f, args, h1, h2⟩ | ⟨l, fn, tmps, asg, body, h1, h2⟩
  · exact wpIn_of_value hd (hexec.trans h1) ⟨v, rfl, h2⟩
  · refine ⟨fun _ _ => trivial, ?_⟩
    rw [Oper.semAt_eq _ _ _ hd, hexec, h1]
    refine ⟨fun e => by simp [FW] at e, callsIn_FW (h2.mono fun e w' ⟨v, he, q⟩ => ?_)⟩
    subst he; exact ⟨v, rfl, q⟩
  · refine ⟨fun _ _ => trivial, ?_⟩
    rw [Oper.semAt_eq _ _ _ hd, hexec, h1]
    refine ⟨fun e => by simp [FW] at e, ?_⟩
    have hr' : RoundIn (FW r) 0 P l fn tmps asg body w (fun e w' => ∃ v, e = .returned v ∧ R v w') := h2
    refine hr'.mono fun e w' ⟨v, he, q⟩ => ?_
    subst he; exact ⟨v, rfl, q⟩
theorem SlotsD.put {d : Option Tmp} {v : AV} {u : Value} (hs : SlotsD ρ s.fr s.nt a.tmps) (h : s.put d v = some s') (dv : DenV ρ v u) : SlotsD ρ s'.fr s'.nt (a.put d u).tmps := by
  obtain ⟨h1, _, _, _, h2, h3⟩ := St.put_spec h
  cases d with
  | none => rw [h1, h3 rfl]; exact hs
  | some d =>
    obtain ⟨hlt, hfr⟩ := h2 d rfl
    refine ⟨by simp [Act.put, hs.1, h1], fun i x e => ?_⟩
    rw [hfr, Tr.get_set] at e
    simp only [Act.put]
    rw [Array.getElem?_setIfInBounds]
    by_cases hi : i = d
    · subst hi
      rw [if_pos rfl, Option.some.injEq] at e; subst e
      exact ⟨u, by simp [hs.1, hlt], dv⟩
    · rw [if_neg hi] at e
      rw [if_neg (fun e => hi e.symm)]
      exact hs.2 i x e
theorem Rep.loc (x : Rep B base ρ s w) (n off k : Nat) : Loc ρ s.hp w n off k := fun b o hr ho => by
  obtain ⟨ob, e, d⟩ := x.cont n o b ho hr
  exact ⟨o, ob, e, d, .inl rfl⟩
theorem DomS.of {l : Lg} (h : DomS s) (f : HpF l s s') : DomS s' := f.dom h
/-- a method that is looked up -/
theorem methOf_run {t : TypeId} {m : String} {f : FuncId} {u : Value} {args : Array Value} (h : methOf P t m = some f) :
    (invoke (.fn (.method m) #[]) (#[.iface t u] ++ args)).run P w = (invoke (.fn (.func f) #[]) (#[u] ++ args)).run P w := by
  simp only [methOf, Option.bind_eq_some_iff] at h
  obtain ⟨i, hi, x, hx, h⟩ := h
  split at h
  · rename_i hpath hfunc hu
    cases h
    have hpos : 0 < Made.depth := by decide
    obtain ⟨n, hn⟩ : ∃ n, P.types.size + Made.depth = n + 1 := ⟨P.types.size + Made.depth - 1, by omega⟩
    simp only [invoke, callMethod]
    have h0 : (#[Value.iface t u] ++ args)[0]? = some (.iface t u) := by rw [Array.getElem?_append_left (by simp)]; rfl
    have hex : (#[Value.iface t u] ++ args).extract 1 (#[Value.iface t u] ++ args).size = args := by
      have h1 : (#[Value.iface t u] ++ args).toList = Value.iface t u :: args.toList := by simp
      apply Array.toList_inj.1
      rw [Array.toList_extract, h1]
      simp [List.extract, List.take_of_length_le]
    simp only [h0, hex, Sem.run_bind, run_program, Result.andThen_ok, hn, method, typeInfo, hi, Sem.run_pure, hx, hpath, follow, hfunc, receiverAt, run_underlying' hu, Place.get]
    rw [Array.append_empty]
  · cases h
theorem aevs_map (hs : SlotsD ρ s.fr s.nt a.tmps) (hg : Glob ρ) {xs : Array Operand} {vs : List AV} (h : aevs s.fr xs.toList = some vs) : ∃ us, xs.map a.eval = us.toArray ∧ DenL ρ vs us :=
  ⟨xs.toList.map a.eval, by apply Array.toList_inj.1; simp, aevs_ok hs hg h⟩
theorem stepC_ok (hc : CallOk P call) (x : Rep B base ρ s w) (hd : DomS s) (hs : SlotsD ρ s.fr s.nt a.tmps) (hB : s'.next ≤ B) {c : Call} (hop : o.op = .call c) (hb : ∀ b, c.callee ≠ .builtin b) (h : stepC P call s c o.dst = some s') (r : Option Nat) :
    o.wpIn (FW r) 0 P a w (fun a' w' => ∃ ρ' l u, a' = a.put o.dst u ∧ SlotsD ρ' s'.fr s'.nt a'.tmps ∧ Go B base l ρ s w ρ' s' w') (fun _ _ _ => False) := by
  simp only [stepC, Option.bind_eq_some_iff] at h
  obtain ⟨⟨vf, vs⟩, h1, ⟨v, s1⟩, h2, h3⟩ := h
  simp only at h2 h3
  have hnx : s1.next ≤ B := by have := (St.put_spec h3).2.1; rw [this] at hB; exact hB
  have fin : ∀ (u : Value) (w' : World), (∃ ρ' l, DenV ρ' v u ∧ Go B base l ρ s w ρ' s1 w') → ∃ ρ' l u', a.put o.dst u = a.put o.dst u' ∧ SlotsD ρ' s'.fr s'.nt (a.put o.dst u).tmps ∧ Go B base l ρ s w ρ' s' w' := by
    rintro u w' ⟨ρ', l, d1, g⟩
    obtain ⟨_, p1, p2, p3, _⟩ := St.put_spec h3
    refine ⟨ρ', l, u, rfl, SlotsD.put (s := { s1 with fr := s.fr, nt := s.nt }) (hs.mono g.ext) h3 d1, g.of rfl rfl rfl p1 p2 p3⟩
  unfold calleeOf at h1
  split at h1
  · rename_i f hcal
    simp only [Option.bind_eq_some_iff, Option.some.injEq, Prod.mk.injEq] at h1
    obtain ⟨vf', e1, vs', e2, rfl, rfl⟩ := h1
    obtain ⟨us, hus, du⟩ := aevs_map hs x.glob e2
    obtain ⟨fn, first, cap, huf, hinv⟩ := hc _ _ _ _ _ h2 B base ρ w _ us x hd hnx (aev_ok hs x.glob e1) du
    have hres : (resolve a.eval c o.type).run P w = .ok { target := .fn fn cap, args := first ++ us.toArray } w := by
      simp [resolve, hcal, huf, hus, Deferred.ofValue]
    exact Oper.wpIn_mono (fun a' w' ⟨u, e, q⟩ => by
      subst e
      obtain ⟨ρ', l, u', e', q1, q2⟩ := fin u w' q
      exact ⟨ρ', l, u', e', q1, q2⟩) (call_wp hop hres hinv r)
  · rename_i rc m hcal
    simp only [Option.bind_eq_some_iff] at h1
    obtain ⟨vr, e1, h1⟩ := h1
    split at h1
    · rename_i t uv
      simp only [Option.bind_eq_some_iff, Option.some.injEq, Prod.mk.injEq] at h1
      obtain ⟨f, e2, vs', e3, rfl, rfl⟩ := h1
      obtain ⟨us, hus, du⟩ := aevs_map hs x.glob e3
      have dr := aev_ok hs x.glob e1
      obtain ⟨ur, hur⟩ : ∃ ur, a.eval rc = ur := ⟨_, rfl⟩
      rw [hur] at dr
      cases dr with
      | @ifc _ _ u0 d0 =>
        obtain ⟨fn, first, cap, huf, hinv⟩ := hc _ _ _ _ _ h2 B base ρ w _ _ x hd hnx (DenV.fn f .nil .nil) (.cons d0 du)
        simp only [Value.func.injEq] at huf
        obtain ⟨rfl, rfl, rfl⟩ := huf
        have hres : (resolve a.eval c o.type).run P w = .ok { target := .fn (.method m) #[], args := #[.iface t u0] ++ us.toArray } w := by
          simp [resolve, hcal, hur, hus]
        have hinv' : InvOk P (.fn (.method m) #[]) (#[.iface t u0] ++ us.toArray) w (fun u w' => ∃ ρ' l, DenV ρ' v u ∧ Go B base l ρ s w ρ' s1 w') := by
          unfold InvOk
          rw [methOf_run e2]
          have : (#[] : Array Value) ++ (u0 :: us).toArray = #[u0] ++ us.toArray := by apply Array.toList_inj.1; simp
          unfold InvOk at hinv
          rw [this] at hinv
          exact hinv
        exact Oper.wpIn_mono (fun a' w' ⟨u, e, q⟩ => by
          subst e
          obtain ⟨ρ', l, u', e', q1, q2⟩ := fin u w' q
          exact ⟨ρ', l, u', e', q1, q2⟩) (call_wp hop hres hinv' r)
    · cases h1
  · rename_i b hcal; exact absurd hcal (hb b)
theorem opQ_defer {fr : Tr AV} {hp : Tr AO} {v : AV} (h : opQ P fr hp o.op = some v) : ∀ c, o.op ≠ .defer c := fun c e => by rw [e] at h; cases h
theorem opA_defer {fr : Tr AV} {n : Nat} {v : AV × AO} (h : opA P fr n o.op = some v) : ∀ c, o.op ≠ .defer c := fun c e => by rw [e] at h; cases h
theorem opW_defer {v : AV × St} (h : opW P s o.op = some v) : ∀ c, o.op ≠ .defer c := fun c e => by rw [e] at h; cases h
def SameFr (s s' : St) : Prop := s'.fr = s.fr ∧ s'.nt = s.nt
theorem upd_fr {s s' : St} {n off k : Nat} {o : Option AO} (h : s.upd n off k o = some s') : SameFr s s' := by
  obtain ⟨_, _, rfl⟩ := upd_spec h; exact ⟨rfl, rfl⟩
theorem cells_fr {s s' : St} {n off : Nat} {vs : List AV} (h : setCells s n off vs = some s') : SameFr s s' := by
  obtain ⟨_, _, _, _, _, h3⟩ := setCells_spec h; exact upd_fr h3
theorem appendA_fr {s s' : St} {t : TypeId} {x y v : AV} (h : appendA P s t x y = some (v, s')) : SameFr s s' := by
  unfold appendA at h
  simp only [Option.bind_eq_some_iff, bsome] at h
  obtain ⟨e, _, z, _, _, q, _, _, _, h⟩ := h
  split at h
  · cases hb : Nat.beq q.1 0 with
    | true => rw [hb] at h; cases h; exact ⟨rfl, rfl⟩
    | false => rw [hb] at h; cases h; exact ⟨rfl, rfl⟩
  · rename_i n off len cap ex
    cases hb : Nat.ble (Nat.add len q.1) cap with
    | true =>
      rw [hb, cond_true] at h
      cases hb2 : Nat.beq q.1 0 with
      | true => rw [hb2] at h; cases h; exact ⟨rfl, rfl⟩
      | false =>
        rw [hb2, cond_false, Option.bind_eq_some_iff] at h
        obtain ⟨s1, h1, h2⟩ := h
        cases h2
        exact cells_fr h1
    | false =>
      rw [hb, cond_false, bsome] at h
      obtain ⟨_, h⟩ := h
      cases hx : ex.isExact with
      | true =>
        rw [hx, cond_true, Option.bind_eq_some_iff] at h
        obtain ⟨p, _, h2⟩ := h
        cases h2; exact ⟨rfl, rfl⟩
      | false =>
        rw [hx, cond_false] at h
        split at h
        · rename_i cs bt k me e1
          simp only [bsome, Option.bind_eq_some_iff] at h
          obtain ⟨_, _, _, s1, h1, h2⟩ := h
          cases h2
          exact (upd_fr h1 : SameFr s s1)
        · cases h
  · cases h
theorem opW_fr {s s' : St} {op : Op} {v : AV} (h : opW P s op = some (v, s')) : SameFr s s' := by
  unfold opW at h
  split at h
  · simp only [wStore, Option.bind_eq_some_iff, bsome, Option.some.injEq, Prod.mk.injEq] at h
    obtain ⟨_, _, q, _, u, _, g, _, _, s1, h1, _, rfl⟩ := h
    exact cells_fr h1
  · simp only [wMapUpdate, Option.bind_eq_some_iff, bsome, Option.some.injEq, Prod.mk.injEq] at h
    obtain ⟨_, _, n, _, es, h1, _, _, _, _, _, _, _, es', _, s1, h2, _, rfl⟩ := h
    exact upd_fr h2
  · simp only [wRange, Option.bind_eq_some_iff, Option.some.injEq, Prod.mk.injEq] at h
    obtain ⟨_, _, _, _, _, _, _, _, _, rfl⟩ := h
    exact ⟨rfl, rfl⟩
  · simp only [wNext, Option.bind_eq_some_iff, bsome] at h
    obtain ⟨_, _, p, _, _, h⟩ := h
    split at h
    · rename_i m n seen e1
      simp only [Option.bind_eq_some_iff] at h
      obtain ⟨es, _, h⟩ := h
      split at h
      · simp only [Option.bind_eq_some_iff, Option.some.injEq, Prod.mk.injEq] at h
        obtain ⟨s1, h1, _, rfl⟩ := h
        exact upd_fr h1
      · cases h; exact ⟨rfl, rfl⟩
      · cases h; exact ⟨rfl, rfl⟩
      · cases h
    · cases h
  · simp only [wEntry, Option.bind_eq_some_iff, bsome] at h
    obtain ⟨_, _, p, _, _, h⟩ := h
    split at h
    · simp only [Option.bind_eq_some_iff] at h
      obtain ⟨es, _, h⟩ := h
      split at h
      · cases h; exact ⟨rfl, rfl⟩
      · cases h
    · cases h
  · split at h
    · unfold wAppend at h
      split at h
      · simp only [bsome, Option.bind_eq_some_iff] at h
        obtain ⟨_, _, _, _, _, h⟩ := h
        exact appendA_fr h
      · cases h
    · unfold wClear at h
      split at h
      · simp only [Option.bind_eq_some_iff] at h
        obtain ⟨_, _, h⟩ := h
        split at h
        · rename_i n off len cap ex _
          simp only [Option.bind_eq_some_iff, bsome] at h
          obtain ⟨e, _, z, _, _, h⟩ := h
          cases hb : Nat.beq len 0 with
          | true => rw [hb] at h; cases h
          | false =>
            rw [hb, cond_false, Option.bind_eq_some_iff] at h
            obtain ⟨s1, h1, h2⟩ := h
            cases h2
            exact cells_fr h1
        · cases h
      · cases h
    · unfold wCopy at h
      split at h
      · simp only [Option.bind_eq_some_iff] at h
        obtain ⟨_, _, _, _, h⟩ := h
        split at h
        · simp only [Option.bind_eq_some_iff] at h
          obtain ⟨_, _, h⟩ := h
          cases h; exact ⟨rfl, rfl⟩
        · cases h
      · cases h
    · cases h
  · cases h

theorem new_go (x : Rep B base ρ s w) {v : AV} {ao : AO} (hB : s.next < B) (h : NewR P ρ a w o s.next v ao) : ∃ ρ' u w', DenV ρ' v u ∧ Go B base [] ρ s w ρ' (s.new ao) w' ∧ (execOp a.eval o).run P w = .ok (.value u) w' := by
  obtain ⟨u, ob, w', c, h1, h2, h3, h4, h5, h6, h7, h8⟩ := h
  exact ⟨_, u, w', h7, Go.alloc x hB h2 h3 h4 h5 h6 h8, h1⟩
/-- ONE OPERATION. -/
theorem stepO_ok (hc : CallOk P call) (x : Rep B base ρ s w) (hd : DomS s) (hs : SlotsD ρ s.fr s.nt a.tmps) (hB : s'.next ≤ B) (h : stepO P call s o = some s') (r : Option Nat) :
    o.wpIn (FW r) 0 P a w (fun a' w' => ∃ ρ' l u, a' = a.put o.dst u ∧ SlotsD ρ' s'.fr s'.nt a'.tmps ∧ Go B base l ρ s w ρ' s' w') (fun _ _ _ => False) := by
  unfold stepO at h
  split at h
  · rename_i v hq
    obtain ⟨u, du, hrun⟩ := opQ_ok hs x.glob hq fun n off k _ => x.loc n off k
    obtain ⟨_, p1, p2, p3, _⟩ := St.put_spec h
    exact wpIn_of_value (opQ_defer hq) hrun ⟨ρ, _, u, rfl, hs.put h du, (Go.refl x rfl rfl rfl rfl (Nat.le_refl _)).of rfl rfl rfl p1 p2 p3⟩
  · split at h
    · rename_i v ha
      obtain ⟨p0, p1, p2, p3, _⟩ := St.put_spec h
      have hB' : s.next < B := by rw [p1] at hB; exact hB
      obtain ⟨hf, hf'⟩ := x.fresh s.next (Nat.le_refl _) hB'
      obtain ⟨ρ', u, w', d1, g, hrun⟩ := new_go x hB' (opA_ok hs x.glob hf hf' ha)
      exact wpIn_of_value (opA_defer ha) hrun ⟨ρ', _, u, rfl, SlotsD.put (s := s.new v.2) (hs.mono g.ext) h d1, g.of rfl rfl rfl p1 p2 p3⟩
    · unfold stepW at h
      split at h
      · rename_i c hcall
        have hop : o.op = .call c ∧ ∀ b, c.callee ≠ .builtin b := by
          unfold callOf at hcall
          split at hcall
          · split at hcall
            · cases hcall
            · rename_i hop _ hnb; cases hcall; exact ⟨hop, fun b e => hnb b e⟩
          · cases hcall
        exact stepC_ok hc x hd hs hB hop.1 hop.2 h r
      · simp only [Option.bind_eq_some_iff] at h
        obtain ⟨⟨v, s1⟩, h1, h2⟩ := h
        obtain ⟨p0, p1, p2, p3, _⟩ := St.put_spec h2
        have hB1 : s1.next ≤ B := by rw [p1] at hB; exact hB
        obtain ⟨ρ', u, w', l, d1, g, hrun⟩ := opW_ok x hs hB1 h1
        obtain ⟨l0, f0⟩ := opW_f h1
        have hsl : s1.fr = s.fr ∧ s1.nt = s.nt := opW_fr h1
        have q : ∃ ρ' l u', a.put o.dst u = a.put o.dst u' ∧ SlotsD ρ' s'.fr s'.nt (a.put o.dst u).tmps ∧ Go B base l ρ s w ρ' s' w' :=
          ⟨ρ', l, u, rfl, SlotsD.put (s := s1) (by rw [hsl.1, hsl.2]; exact hs.mono g.ext) h2 d1, g.of rfl rfl rfl p1 p2 p3⟩
        rcases hrun with hrun | ⟨hrun, rfl⟩
        · exact wpIn_of_value (opW_defer h1) hrun q
        · exact wpIn_of_skip (opW_defer h1) hrun q

/-! ### Guards -/
theorem wantA_ok (hs : SlotsD ρ s.fr s.nt a.tmps) {ops : List Oper} {b : Bool} (h : wantA s.fr ops o = some b) : Region.wanted o (yielded ops.toArray a.tmps) = b := by
  unfold wantA at h
  unfold Region.wanted
  split at h
  · rename_i e; cases h; rw [e]
  · rename_i j want e
    simp only [Option.bind_eq_some_iff] at h
    obtain ⟨oj, h1, d, h2, v, h3, h4⟩ := h
    rw [e]
    rw [nthL_eq] at h1
    obtain ⟨u, hu, du⟩ := hs.2 d v h3
    simp only
    split at h4
    · cases h4; cases du
      simp [yielded, h1, h2, hu]
    · cases h4; cases du with
      | tup d => cases d; simp [yielded, h1, h2, hu]
    · cases h4
theorem stepG_next {ops : List Oper} (hcf : ∀ f vs s v s', call f vs s = some (v, s') → HasF s s') (h : stepG P call ops s o = some s') : s.next ≤ s'.next := by
  obtain ⟨l, f⟩ := stepG_f hcf h; exact f.next
/-- what a step comes to -/
def StepQ (B base : Nat) (ρ : Nm) (s : St) (w : World) (a : Act) (o : Oper) (s' : St) (a' : Act) (w' : World) : Prop :=
  ∃ ρ' l u, a' = a.put o.dst u ∧ SlotsD ρ' s'.fr s'.nt a'.tmps ∧ Go B base l ρ s w ρ' s' w'
theorem undef_den : DenV ρ (.tup []) undef := .tup .nil
theorem runOps_ok (hc : CallOk P call) (hcf : ∀ f vs s v s', call f vs s = some (v, s') → HasF s s') {ops : List Oper} (r : Option Nat) : ∀ (rest : List Oper) (s s' : St) (ρ : Nm) (a : Act) (w : World), runOps P call ops rest s = some s' → Rep B base ρ s w → DomS s →
    SlotsD ρ s.fr s.nt a.tmps → s'.next ≤ B → wpListIn (FW r) 0 P ops.toArray (fun e a' w' => e = .normal ∧ ∃ ρ' l, SlotsD ρ' s'.fr s'.nt a'.tmps ∧ a'.defers = a.defers ∧ Go B base l ρ s w ρ' s' w') rest a w
  | [], s, s', ρ, a, w, h, x, hd, hs, hB => by
    simp only [runOps, Option.some.injEq] at h; subst h
    exact ⟨rfl, ρ, _, hs, rfl, Go.refl x rfl rfl rfl rfl (Nat.le_refl _)⟩
  | o :: rest, s, s', ρ, a, w, h, x, hd, hs, hB => by
    simp only [runOps, Option.bind_eq_some_iff] at h
    obtain ⟨s1, h1, h2⟩ := h
    have hB1 : s1.next ≤ B := by
      have : ∀ (rest : List Oper) (s s' : St), runOps P call ops rest s = some s' → s.next ≤ s'.next := fun rest s s' h => by obtain ⟨l, f⟩ := runOps_f hcf h; exact f.next
      exact Nat.le_trans (this _ _ _ h2) hB
    obtain ⟨l0, f0⟩ := stepG_f hcf h1
    simp only [stepG, Option.bind_eq_some_iff] at h1
    obtain ⟨b, hb, h1⟩ := h1
    have hw := wantA_ok hs hb
    simp only [wpListIn, hw]
    cases b with
    | true =>
      rw [cond_true] at h1
      simp only [if_true]
      refine Oper.wpIn_monoQ (Oper.wpIn_mono (fun a' w' ⟨ρ', l, u, e, hs', g⟩ => ?_) (stepO_ok hc x hd hs hB1 h1 r))
      subst e
      refine wpListIn_mono (fun e a2 w2 ⟨he, ρ2, l2, hs2, hdf, g2⟩ => ⟨he, ρ2, _, hs2, by rw [hdf, Act.defers_put], g.trans g2⟩) _ _ _ (runOps_ok hc hcf r rest s1 s' ρ' _ w' h2 g.rep (hd.of g.hpf) hs' hB)
    | false =>
      rw [cond_false] at h1
      simp only [Bool.false_eq_true, if_false]
      obtain ⟨p0, p1, p2, p3, _⟩ := St.put_spec h1
      have g : Go B base [] ρ s w ρ s1 w := (Go.refl x rfl rfl rfl rfl (Nat.le_refl _)).of rfl rfl rfl p1 p2 p3
      refine ⟨fun _ _ => trivial, wpListIn_mono (fun e a2 w2 ⟨he, ρ2, l2, hs2, hdf, g2⟩ => ⟨he, ρ2, _, hs2, by rw [hdf, Act.defers_put], g.trans g2⟩) _ _ _ (runOps_ok hc hcf r rest s1 s' ρ _ w h2 g.rep (hd.of g.hpf) (hs.put h1 undef_den) hB)⟩
end
end Go.Mesh
