/-
  Part MAM of the proof's ground: X22, X23.
-/
import Derived.Test.YtcfedojmmfbbeaaGreatDoorMAL
/-
  A RUN THAT THE KERNEL RECKONS, CUT: a call whose arguments and blocks are told, and what it comes to.
-/
set_option linter.all false
namespace Go.Mesh
open Go.RowKit
set_option linter.unusedSimpArgs false
set_option linter.unusedVariables false

/-! ### Equality that the kernel reckons -/
def eqLit : Value → Value → Bool
  | .slice none a b, .slice none c d => Nat.beq a c && Nat.beq b d
  | .pointer none, .pointer none => true
  | .map none, .map none => true
  | .nilIface, .nilIface => true
  | .nilFunc, .nilFunc => true
  | _, _ => false
theorem eqLit_eq {a b : Value} (h : eqLit a b = true) : a = b := by
  unfold eqLit at h
  split at h <;> first | rfl | cases h | skip
  simp only [Bool.and_eq_true, beqT] at h
  rw [h.1, h.2]
def eqI : Int → Int → Bool
  | .ofNat a, .ofNat b => Nat.beq a b
  | .negSucc a, .negSucc b => Nat.beq a b
  | _, _ => false
theorem eqI_eq {a b : Int} (h : eqI a b = true) : a = b := by
  unfold eqI at h
  split at h
  · rw [beqT.1 h]
  · rw [beqT.1 h]
  · cases h
def eqSl : SlK → SlK → Bool
  | .exact, .exact => true
  | .whole, .whole => true
  | .part, .part => true
  | _, _ => false
theorem eqSl_eq {a b : SlK} (h : eqSl a b = true) : a = b := by cases a <;> cases b <;> first | rfl | cases h
def eqBo : Bool → Bool → Bool
  | true, b => b
  | false, b => not b
theorem eqBo_eq {a b : Bool} (h : eqBo a b = true) : a = b := by cases a <;> cases b <;> first | rfl | cases h
theorem eqB_sound {a b : List Nat} (h : eqB a b = true) : a = b := by rw [eqB_eq] at h; simpa using h
mutual
def eqAV : AV → AV → Bool
  | .bool a, .bool b => eqBo a b
  | .int j a, .int k b => decide (j = k) && eqI a b
  | .str a, .str b => eqB a b
  | .lit a, .lit b => eqLit a b
  | .ptr n o, .ptr m p => Nat.beq n m && Nat.beq o p
  | .sl n o l c e, .sl n' o' l' c' e' => Nat.beq n n' && (Nat.beq o o' && (Nat.beq l l' && (Nat.beq c c' && eqSl e e')))
  | .slS n l c, .slS m k d => Nat.beq n m && (Nat.beq l k && Nat.beq c d)
  | .ptrS n o, .ptrS m p => Nat.beq n m && Nat.beq o p
  | .em, .em => true
  | .mp n, .mp m => Nat.beq n m
  | .fn f a b, .fn g c d => Nat.beq f g && (eqAVs a c && eqAVs b d)
  | .ifc t v, .ifc u w => Nat.beq t u && eqAV v w
  | .agg a, .agg b => eqAVs a b
  | .tup a, .tup b => eqAVs a b
  | _, _ => false
def eqAVs : List AV → List AV → Bool
  | [], [] => true
  | a :: x, b :: y => eqAV a b && eqAVs x y
  | _, _ => false
end
mutual
theorem eqAV_eq : ∀ (a b : AV), eqAV a b = true → a = b
  | .bool a, b, h => by cases b <;> simp only [eqAV, Bool.false_eq_true] at h; rw [eqBo_eq h]
  | .int j a, b, h => by
    cases b <;> simp only [eqAV, Bool.false_eq_true, Bool.and_eq_true, decide_eq_true_eq] at h
    rw [h.1, eqI_eq h.2]
  | .str a, b, h => by cases b <;> simp only [eqAV, Bool.false_eq_true] at h; rw [eqB_sound h]
  | .lit a, b, h => by cases b <;> simp only [eqAV, Bool.false_eq_true] at h; rw [eqLit_eq h]
  | .ptr n o, b, h => by
    cases b <;> simp only [eqAV, Bool.false_eq_true, Bool.and_eq_true, beqT] at h
    rw [h.1, h.2]
  | .sl n o l c e, b, h => by
    cases b <;> simp only [eqAV, Bool.false_eq_true, Bool.and_eq_true, beqT] at h
    rw [h.1, h.2.1, h.2.2.1, h.2.2.2.1, eqSl_eq h.2.2.2.2]
  | .slS n l c, b, h => by
    cases b <;> simp only [eqAV, Bool.false_eq_true, Bool.and_eq_true, beqT] at h
    rw [h.1, h.2.1, h.2.2]
  | .ptrS n o, b, h => by
    cases b <;> simp only [eqAV, Bool.false_eq_true, Bool.and_eq_true, beqT] at h
    rw [h.1, h.2]
  | .em, b, h => by cases b <;> simp only [eqAV, Bool.false_eq_true] at h; rfl
  | .mp n, b, h => by
    cases b <;> simp only [eqAV, Bool.false_eq_true, beqT] at h
    rw [h]
  | .yld n, b, h => by cases b <;> simp only [eqAV, Bool.false_eq_true] at h
  | .fn f x y, b, h => by
    cases b <;> simp only [eqAV, Bool.false_eq_true, Bool.and_eq_true, beqT] at h
    rw [h.1, eqAVs_eq _ _ h.2.1, eqAVs_eq _ _ h.2.2]
  | .ifc t v, b, h => by
    cases b <;> simp only [eqAV, Bool.false_eq_true, Bool.and_eq_true, beqT] at h
    rw [h.1, eqAV_eq _ _ h.2]
  | .agg x, b, h => by
    cases b <;> simp only [eqAV, Bool.false_eq_true] at h
    rw [eqAVs_eq _ _ h]
  | .tup x, b, h => by
    cases b <;> simp only [eqAV, Bool.false_eq_true] at h
    rw [eqAVs_eq _ _ h]
theorem eqAVs_eq : ∀ (a b : List AV), eqAVs a b = true → a = b
  | [], b, h => by cases b <;> simp only [eqAVs, Bool.false_eq_true] at h; rfl
  | v :: x, b, h => by
    cases b <;> simp only [eqAVs, Bool.false_eq_true, Bool.and_eq_true] at h
    rw [eqAV_eq _ _ h.1, eqAVs_eq _ _ h.2]
end
def eqPs : List (AV × AV) → List (AV × AV) → Bool
  | [], [] => true
  | a :: x, b :: y => (eqAV a.1 b.1 && eqAV a.2 b.2) && eqPs x y
  | _, _ => false
theorem eqPs_eq : ∀ (a b : List (AV × AV)), eqPs a b = true → a = b
  | [], b, h => by cases b <;> simp only [eqPs, Bool.false_eq_true] at h; rfl
  | (v, v') :: x, b, h => by
    cases b with
    | nil => simp only [eqPs, Bool.false_eq_true] at h
    | cons p y =>
      obtain ⟨q, q'⟩ := p
      simp only [eqPs, Bool.and_eq_true] at h
      rw [eqAV_eq _ _ h.1.1, eqAV_eq _ _ h.1.2, eqPs_eq _ _ h.2]
def eqAO : AO → AO → Bool
  | .cells a t, .cells b u => eqAVs a b && Nat.beq t u
  | .row a t k m, .row b u j n => eqAVs a b && (Nat.beq t u && (Nat.beq k j && Nat.beq m n))
  | .ro a t, .ro b u => eqAVs a b && Nat.beq t u
  | .roS n a, .roS m b => Nat.beq n m && eqAVs a b
  | .map a, .map b => eqPs a b
  | _, _ => false
theorem eqAO_eq : ∀ (a b : AO), eqAO a b = true → a = b := by
  intro a b h
  cases a <;> cases b <;> simp only [eqAO, Bool.false_eq_true, Bool.and_eq_true, beqT] at h
  · rw [eqAVs_eq _ _ h.1, h.2]
  · rw [eqAVs_eq _ _ h.1, h.2.1, h.2.2.1, h.2.2.2]
  · rw [eqAVs_eq _ _ h.1, h.2]
  · rw [h.1, eqAVs_eq _ _ h.2]
  · rw [eqPs_eq _ _ h]

/-! ### A call that is cut out -/
structure Cut where
  args : List AV
  next : Nat
  hp : List (Nat × AO)
  v : AV
  next' : Nat
  new : List (Nat × AO)
def addB : List (Nat × AO) → Tr AO → Tr AO
  | [], t => t
  | p :: l, t => (addB l t).set p.1 (some p.2)
def Cut.st (c : Cut) : St := ⟨.lf, 0, c.next, addB c.hp .lf, []⟩
def hasB (t : Tr AO) : List (Nat × AO) → Bool
  | [] => true
  | p :: l => (match t.get p.1 with | some o => eqAO o p.2 | none => false) && hasB t l
def Cut.fits (c : Cut) (vs : List AV) (s : St) : Bool := Nat.beq s.next c.next && (eqAVs vs c.args && hasB s.hp c.hp)
def Cut.run (c : Cut) (s : St) : AV × St := (c.v, { s with next := c.next', hp := addB c.new s.hp })
def keysB (lo hi : Nat) : List (Nat × AO) → Bool
  | [] => true
  | p :: l => (Nat.ble lo p.1 && Nat.blt p.1 hi) && keysB lo hi l
def logB (lo : Nat) : Lg → Bool
  | [] => true
  | e :: l => Nat.ble lo e.1 && logB lo l
def Cut.out (c : Cut) (r : Option (AV × St)) : Bool :=
  match r with
  | some (v, s) => eqAV v c.v && (Nat.beq s.next c.next' && (logB c.next s.log && (keysB c.next c.next' c.new && hasB s.hp c.new)))
  | none => false
def Cut.ok (P : Program) (ib cl : FuncId) (M : FuncId → List AV → St → Option (AV × St)) (n : Nat) (g : FuncId) (c : Cut) : Bool :=
  keysB 0 c.next c.hp && c.out (runF P ib cl M n (.fn g [] []) c.args c.st)

theorem addB_get : ∀ (l : List (Nat × AO)) (t : Tr AO) (n : Nat), (addB l t).get n = t.get n ∧ (∀ p, p ∈ l → p.1 ≠ n) ∨ ∃ p, p ∈ l ∧ p.1 = n ∧ (addB l t).get n = some p.2
  | [], t, n => .inl ⟨rfl, fun _ h => by cases h⟩
  | p :: l, t, n => by
    simp only [addB, Tr.get_set]
    by_cases h : n = p.1
    · exact .inr ⟨p, by simp, h.symm, by simp [h]⟩
    · rw [if_neg h]
      rcases addB_get l t n with ⟨h1, h2⟩ | ⟨q, h1, h2, h3⟩
      · exact .inl ⟨h1, fun q hq => by
          rcases List.mem_cons.1 hq with rfl | hq
          · exact fun e => h e.symm
          · exact h2 q hq⟩
      · exact .inr ⟨q, List.mem_cons_of_mem _ h1, h2, h3⟩
theorem hasB_get {t : Tr AO} : ∀ {l : List (Nat × AO)}, hasB t l = true → ∀ p, p ∈ l → t.get p.1 = some p.2
  | [], _, p, h => by cases h
  | q :: l, h, p, hp => by
    simp only [hasB, Bool.and_eq_true] at h
    rcases List.mem_cons.1 hp with rfl | hp
    · have h1 := h.1
      split at h1
      · rename_i o e; rw [e, eqAO_eq _ _ h1]
      · cases h1
    · exact hasB_get h.2 p hp
theorem keysB_get {lo hi : Nat} : ∀ {l : List (Nat × AO)}, keysB lo hi l = true → ∀ p, p ∈ l → lo ≤ p.1 ∧ p.1 < hi
  | [], _, p, h => by cases h
  | q :: l, h, p, hp => by
    simp only [keysB, Bool.and_eq_true, bleT, bltT] at h
    rcases List.mem_cons.1 hp with rfl | hp
    · exact h.1
    · exact keysB_get h.2 p hp
theorem logB_get {lo : Nat} : ∀ {l : Lg}, logB lo l = true → ∀ e, e ∈ l → lo ≤ e.1
  | [], _, p, h => by cases h
  | q :: l, h, p, hp => by
    simp only [logB, Bool.and_eq_true, bleT] at h
    rcases List.mem_cons.1 hp with rfl | hp
    · exact h.1
    · exact logB_get h.2 p hp

/-- a cut that holds -/
structure CutOk (P : Program) (g : FuncId) (c : Cut) : Prop where
  le : c.next ≤ c.next'
  keys : ∀ p, p ∈ c.new → c.next ≤ p.1 ∧ p.1 < c.next'
  call : ∀ (s : St) (B base : Nat) (ρ : Nm) (w : World) (us : List Value), s.next = c.next → hasB s.hp c.hp = true → Rep B base ρ s w → DomS s → c.next' ≤ B → DenL ρ c.args us →
    InvOk P (.fn (.func g) #[]) us.toArray w (fun u w' => ∃ ρ' l, DenV ρ' c.v u ∧ Go B base l ρ s w ρ' (c.run s).2 w')
def cutM : List (FuncId × Cut) → FuncId → List AV → St → Option (AV × St)
  | [], _, _, _ => none
  | p :: r, f, vs, s => bif Nat.beq f p.1 then (bif p.2.fits vs s then some (p.2.run s) else cutM r f vs s) else cutM r f vs s
theorem run_hpf {c : Cut} {s : St} (hle : c.next ≤ c.next') (hk : ∀ p, p ∈ c.new → c.next ≤ p.1 ∧ p.1 < c.next') (hn : s.next = c.next) : HpF [] s (c.run s).2 := by
  have hget : ∀ n, n < s.next → (addB c.new s.hp).get n = s.hp.get n := fun n h => by
    rcases addB_get c.new s.hp n with ⟨h1, _⟩ | ⟨p, h1, h2, _⟩
    · exact h1
    · have := (hk p h1).1; omega
  refine ⟨by show s.next ≤ c.next'; omega, rfl, fun _ h => (by cases h), fun n h _ => hget n h, fun n off k h _ => .inl (hget n h), fun hd n h => ?_, fun _ h => (by cases h), fun _ h => (by cases h)⟩
  have h : c.next' ≤ n := h
  show (addB c.new s.hp).get n = none
  rcases addB_get c.new s.hp n with ⟨h1, _⟩ | ⟨p, h1, h2, _⟩
  · rw [h1]; exact hd n (by omega)
  · have := (hk p h1).2; omega
theorem cutM_ok {P : Program} : ∀ {cs : List (FuncId × Cut)}, (∀ p, p ∈ cs → CutOk P p.1 p.2) → MOk P (cutM cs)
  | [], _ => fun g vs s v s' h => by cases h
  | p :: r, hc => fun g vs s v s' h => by
    have ih := cutM_ok (fun q hq => hc q (List.mem_cons_of_mem _ hq)) g vs s v s'
    simp only [cutM] at h
    cases hg : Nat.beq g p.1 with
    | false => rw [hg, cond_false] at h; exact ih h
    | true =>
      rw [hg, cond_true] at h
      cases hf : p.2.fits vs s with
      | false => rw [hf, cond_false] at h; exact ih h
      | true =>
        rw [hf, cond_true, Option.some.injEq] at h
        have hp := hc p (by simp)
        obtain ⟨h1, h2⟩ := Prod.mk.inj h
        subst h1; subst h2
        simp only [Cut.fits, Bool.and_eq_true, beqT] at hf
        have := eqAVs_eq _ _ hf.2.1
        subst this
        have := beqT.1 hg
        subst this
        exact ⟨⟨_, run_hpf hp.le hp.keys hf.1⟩, fun B base ρ w us x hd hB d => hp.call s B base ρ w us hf.1 hf.2.2 x hd hB d⟩
/-- A CUT IS RECKONED BY THE KERNEL. -/
theorem cut_ok {P : Program} {ib cl : FuncId} (hE : Env P ib cl) {M : FuncId → List AV → St → Option (AV × St)} (hM : MOk P M) {n : Nat} {g : FuncId} {c : Cut} (h : c.ok P ib cl M n g = true) : CutOk P g c := by
  simp only [Cut.ok, Bool.and_eq_true] at h
  obtain ⟨hkey, h⟩ := h
  unfold Cut.out at h
  split at h
  · rename_i v s1 hrun
    simp only [Bool.and_eq_true, beqT] at h
    obtain ⟨h1, h2, h3, h4, h5⟩ := h
    have hv := eqAV_eq _ _ h1
    subst hv
    obtain ⟨lf, hf⟩ := runF_f (fun f vs s v s' h => (hM f vs s v s' h).1) n _ _ _ _ _ hrun
    have hle : c.next ≤ c.next' := by have := hf.next; rw [h2] at this; exact this
    refine ⟨hle, keysB_get h4, fun s B base ρ w us hn hh x hd hB d => ?_⟩
    -- the state that is told
    have hst : ∀ n o, c.st.hp.get n = some o → s.hp.get n = some o := fun n o e => by
      rcases addB_get c.hp .lf n with ⟨h1, _⟩ | ⟨p, h1, h2, h3⟩
      · have e' : (addB c.hp .lf).get n = some o := e
        rw [h1] at e'; cases e'
      · have e' : (addB c.hp .lf).get n = some o := e
        rw [h3] at e'; cases e'
        rw [← h2]; exact hasB_get hh p h1
    have x' : Rep B base ρ c.st w := ⟨x.glob, by show ∀ n, c.next ≤ n → _; rw [← hn]; exact x.fresh, by show n0 ≤ c.next; rw [← hn]; exact x.low0, x.size, fun n o b e r => x.cont n o b (hst n o e) r, x.high, x.low,
      fun n m o o' b h1 h2 e1 e2 r1 r2 => x.inj n m o o' b h1 h2 (hst n o e1) (hst m o' e2) r1 r2⟩
    have hd' : DomS c.st := fun n hle' => by
      show (addB c.hp .lf).get n = none
      have hle' : c.next ≤ n := hle'
      rcases addB_get c.hp .lf n with ⟨h1, _⟩ | ⟨p, h1, h2, _⟩
      · rw [h1]; rfl
      · have := (keysB_get hkey p h1).2; omega
    obtain ⟨fn, first, cap, huf, hinv⟩ := runF_ok hE hM n _ _ _ _ _ hrun B base ρ w _ us x' hd' (by rw [h2]; exact hB) (DenV.fn g .nil .nil) d
    simp only [Value.func.injEq] at huf
    obtain ⟨rfl, rfl, rfl⟩ := huf
    have he : (#[] : Array Value) ++ us.toArray = us.toArray := by simp
    have he2 : ([] : List Value).toArray = #[] := rfl
    rw [he2, he] at hinv
    refine hinv.mono fun u w' ⟨ρ', l, du, g1⟩ => ⟨ρ', [], du, ?_⟩
    -- nothing that was there is written
    have hl : ∀ e, e ∈ l → c.next ≤ e.1 := by
      have := g1.hpf.log
      have h6 : s1.log = l ++ [] := this
      rw [List.append_nil] at h6
      rw [← h6]; exact logB_get h3
    have hun : ∀ e b, e ∈ l → ρ e.1 ≠ some b := fun e b he hr => by
      have h7 := g1.hpf.hi e he
      rw [h2] at h7
      have := (x.fresh e.1 (by rw [hn]; exact hl e he) (by omega)).1
      rw [hr] at this; cases this
    have hnew : ∀ n b, ρ' n = some b → ρ n = some b ∨ (s.next ≤ n ∧ n < c.next' ∧ w.heap.size ≤ b) := fun n b h => by
      rcases g1.new n b h with h | ⟨q1, q2, q3 | ⟨e, he, hr⟩⟩
      · exact .inl h
      · exact .inr ⟨by rw [hn]; exact q1, by rw [← h2]; exact q2, q3⟩
      · exact absurd hr (hun e b he)
    have hfr : ∀ b, b < w.heap.size → w'.heap[b]? = w.heap[b]? := fun b hb => g1.frame b hb fun e he => hun e b he
    have hnewB : ∀ p, p ∈ c.new → s1.hp.get p.1 = some p.2 := hasB_get h5
    have hkn := keysB_get h4
    have hget : ∀ n o, (addB c.new s.hp).get n = some o → (n < c.next ∧ s.hp.get n = some o) ∨ (c.next ≤ n ∧ s1.hp.get n = some o) := fun n o e => by
      rcases addB_get c.new s.hp n with ⟨h1, _⟩ | ⟨p, q1, q2, q3⟩
      · rw [h1] at e
        refine .inl ⟨Nat.lt_of_not_le fun hle' => ?_, e⟩
        rw [hd n (by omega)] at e; cases e
      · rw [q3] at e; cases e
        refine .inr ⟨by rw [← q2]; exact (hkn p q1).1, by rw [← q2]; exact hnewB p q1⟩
    have hold : ∀ n b, n < c.next → ρ' n = some b → ρ n = some b := fun n b hlt h => by
      rcases hnew n b h with h | ⟨q1, _, _⟩
      · exact h
      · omega
    have hlt : ∀ n o b, s.hp.get n = some o → ρ n = some b → b < w.heap.size := fun n o b e r => x.at_lt e r
    refine ⟨⟨g1.rep.glob, fun n q1 q2 => g1.rep.fresh n (by rw [h2]; exact q1) q2, ?_, g1.rep.size, ?_, g1.rep.high, g1.rep.low, ?_⟩, g1.ext, ?_, ?_, run_hpf hle hkn hn, g1.size, fun b hb _ => hfr b hb, g1.os, g1.tape, g1.output, g1.drawn, fun _ h => by cases h⟩
    · show n0 ≤ c.next'; have := x.low0; omega
    · intro n o b e r
      rcases hget n o e with ⟨q1, q2⟩ | ⟨q1, q2⟩
      · have r' := hold n b q1 r
        obtain ⟨ob, e1, d1⟩ := x.cont n o b q2 r'
        exact ⟨ob, by rw [hfr b (hlt n o b q2 r')]; exact e1, d1.mono g1.ext⟩
      · exact g1.rep.cont n o b q2 r
    · intro n m o o' b n1 n2 e1 e2 r1 r2
      rcases hget n o e1 with ⟨q1, q2⟩ | ⟨q1, q2⟩
      · have r1' := hold n b q1 r1
        rcases hget m o' e2 with ⟨q3, q4⟩ | ⟨q3, q4⟩
        · exact x.inj n m o o' b n1 n2 q2 q4 r1' (hold m b q3 r2)
        · exfalso
          have hb := hlt n o b q2 r1'
          rcases hnew m b r2 with h | ⟨_, _, h⟩
          · have := (x.fresh m (by omega) (by
              have : m < c.next' := by
                rcases Nat.lt_or_ge m c.next' with h | h
                · exact h
                · rw [g1.hpf.dom hd' m (by rw [h2]; exact h)] at q4; cases q4
              omega)).1
            rw [h] at this; cases this
          · omega
      · rcases hget m o' e2 with ⟨q3, q4⟩ | ⟨q3, q4⟩
        · exfalso
          have r2' := hold m b q3 r2
          have hb := hlt m o' b q4 r2'
          rcases hnew n b r1 with h | ⟨_, _, h⟩
          · have := (x.fresh n (by omega) (by
              have : n < c.next' := by
                rcases Nat.lt_or_ge n c.next' with h | h
                · exact h
                · rw [g1.hpf.dom hd' n (by rw [h2]; exact h)] at q2; cases q2
              omega)).1
            rw [h] at this; cases this
          · omega
        · exact g1.rep.inj n m o o' b n1 n2 q2 q4 r1 r2
    · intro n b h
      rcases hnew n b h with h | ⟨q1, q2, q3⟩
      · exact .inl h
      · exact .inr ⟨q1, q2, .inl q3⟩
    · intro n k h
      rcases g1.newκ n k h with h | ⟨q1, q2⟩
      · exact .inl h
      · exact .inr ⟨by rw [hn]; exact q1, by show n < c.next'; rw [← h2]; exact q2⟩
  · cases h
end Go.Mesh
/-
  THE SAME RUN, MADE READY: code is turned once into what is taken at a step, so that the kernel reckons less; it comes to the same.
-/
set_option linter.all false
namespace Go.Mesh
open Go.RowKit
set_option linter.unusedVariables false
set_option linter.unusedSimpArgs false

noncomputable def ob {α β : Type} (x : Option α) (f : α → Option β) : Option β := Option.rec (motive := fun _ => Option β) none f x
/-! ### Tries -/
noncomputable def bitsF (f : Nat) : Nat → List Bool :=
  Nat.rec (motive := fun _ => Nat → List Bool) (fun _ => []) (fun _ ih k => Bool.rec (motive := fun _ => List Bool) (Bool.rec (motive := fun _ => List Bool) (false :: ih (Nat.sub (Nat.div k 2) 1)) (true :: ih (Nat.div k 2)) (Nat.beq (Nat.mod k 2) 1)) [] (Nat.beq k 0)) f
noncomputable def bits (k : Nat) : List Bool := bitsF (Nat.succ k) k
noncomputable def getZ {α : Type} (t : Tr α) (p : List Bool) : Option α := Tr.rec (motive := fun _ => List Bool → Option α) (fun _ => none) (fun _ v _ gl gr p => List.rec (motive := fun _ => Option α) v (fun b p' _ => Bool.rec (motive := fun _ => Option α) (gr p') (gl p') b) p) t p
noncomputable def setZ {α : Type} (p : List Bool) (x : Option α) : Tr α → Tr α :=
  List.rec (motive := fun _ => Tr α → Tr α) (fun t => Tr.rec (motive := fun _ => Tr α) (.nd .lf x .lf) (fun l _ r _ _ => .nd l x r) t)
    (fun b _ ih t => Tr.rec (motive := fun _ => Tr α) (Bool.rec (motive := fun _ => Tr α) (.nd .lf none (ih .lf)) (.nd (ih .lf) none .lf) b) (fun l v r _ _ => Bool.rec (motive := fun _ => Tr α) (.nd l v (ih r)) (.nd (ih l) v r) b) t) p

/-! ### States -/
noncomputable def putZ (s : St) (d : Option Tmp) (v : AV) : Option St :=
  Option.rec (motive := fun _ => Option St) (some s)
    (fun d => St.rec (motive := fun _ => Option St) (fun fr nt next hp log => Bool.rec (motive := fun _ => Option St) none (some ⟨setZ (bits d) (some v) fr, nt, next, hp, log⟩) (Nat.blt d nt)) s) d
noncomputable def newZ (s : St) (o : AO) : St := St.rec (motive := fun _ => St) (fun fr nt next hp log => ⟨fr, nt, Nat.succ next, setZ (bits next) (some o) hp, log⟩) s
noncomputable def setFrZ (s : St) (fr : Tr AV) (nt : Nat) : St := St.rec (motive := fun _ => St) (fun _ _ next hp log => ⟨fr, nt, next, hp, log⟩) s

/-! ### Operations, made ready -/
abbrev FQ := Tr AV → Tr AO → Option AV
inductive ZK where
  | q (f : FQ)
  | qa (f : FQ) (g : Tr AV → Nat → Option (AV × AO))
  | a (g : Tr AV → Nat → Option (AV × AO))
  | w (h : St → Option (AV × St))
  | c (f : Tr AV → Option (AV × List AV))
  | gen
noncomputable def evZ (x : Operand) : Tr AV → Option AV :=
  match x with
  | .tmp t => fun fr => getZ fr (bits t)
  | .const v => fun _ => some (AV.ofC v)
  | .global g => fun _ => bif Nat.blt g 13 then some (.ptr g 0) else none
  | .func f => fun _ => some (.fn f [] [])
def cellsZ : AO → Option (List AV)
  | .cells cs _ => some cs
  | .row cs _ _ _ => some cs
  | .ro cs _ => some cs
  | _ => none
noncomputable def objZ (hp : Tr AO) (n : Nat) : Option (List AV) := ob (getZ hp (bits n)) cellsZ
noncomputable def cellsOfZ (hp : Tr AO) (v : AV) : Option (Nat × List AV) :=
  match v with
  | .ptr n off => ob (objZ hp n) fun cs => some (off, cs)
  | .ptrS n off => (roCells hp n).bind fun cs => some (off, cs)
  | _ => none
noncomputable def updZ (s : St) (n off k : Nat) (o : AO) : Option St :=
  Bool.rec (motive := fun _ => Option St) none (Bool.rec (motive := fun _ => Option St) none (St.rec (motive := fun _ => Option St) (fun fr nt next hp log => some ⟨fr, nt, next, setZ (bits n) (some o) hp, (n, off, k) :: log⟩) s) (Nat.blt n s.next)) (Nat.ble n0 n)
noncomputable def setCellsZ (s : St) (n off : Nat) (vs : List AV) : Option St :=
  bif onesA vs && Nat.blt 0 (lenL vs) then (ob (getZ s.hp (bits n)) fun o => match o with
    | .cells cs t => bif Nat.ble (Nat.add off (lenL vs)) (lenL cs) then updZ s n off (lenL vs) (.cells (putL cs off vs) t) else none
    | .row cs t k me => bif Nat.ble (Nat.add off (lenL vs)) (lenL cs) then updZ s n off (lenL vs) (.row (putL cs off vs) t k me) else none
    | _ => none) else none
noncomputable def wStoreZ (P : Program) (s : St) (t : TypeId) (p x : Operand) : Option (AV × St) := ob (evZ p s.fr) fun v => ob v.ptr? fun q => ob (evZ x s.fr) fun u => ob (tyOf P t) fun g =>
  bif Nat.beq (lenL u.cells) g.2 then ob (setCellsZ s q.1 q.2 u.cells) fun s' => some (.tup [], s') else none
noncomputable def compO (P : Program) (op : Op) : ZK :=
  match op with
  | .move x => .q fun fr _ => evZ x fr
  | .assign x => .q fun fr _ => evZ x fr
  | .pick c x y => .q fun fr _ => qPick fr c x y
  | .binOp op t x y _ => .q fun fr _ => ob (evZ x fr) fun v => ob (evZ y fr) fun w => binX P op t x y v w
  | .unOp .not _ x => .q fun fr _ => qNot fr x
  | .convert src dst x => .qa (fun fr _ => qConv P fr src dst x) fun fr next => opA P fr next (.convert src dst x)
  | .nilCheck x => .q fun fr _ => qNil fr x
  | .fieldAddr s x f => .q fun fr _ => ob (evZ x fr) fun v => ob v.ptr? fun p => ob (fieldOf P s f) fun q => some (.ptr p.1 (Nat.add p.2 q.2))
  | .field s x f => .q fun fr _ => ob (evZ x fr) fun v => ob v.agg? fun cs => ob (fieldOf P s f) fun q => ob (tyOf P q.1) fun g => getPart g.1 g.2 cs q.2
  | .indexAddr t x i => .q fun fr _ => qIndexAddr P fr t x i
  | .index t x i => .q fun fr _ => qIndex P fr t x i
  | .extract x i => .q fun fr _ => ob (evZ x fr) fun v => ob v.tup? fun vs => nthL vs i
  | .load t x => .q fun fr hp => ob (evZ x fr) fun v => ob (cellsOfZ hp v) fun p => ob (tyOf P t) fun g => getPart g.1 g.2 p.2 p.1
  | .build t ps => .q fun fr _ => qBuild P fr t ps
  | .makeFunc f first cap => .q fun fr _ => qFunc fr f first cap
  | .makeInterface t x => .q fun fr _ => qIface P fr t x
  | .typeAssert x _ u false => .q fun fr _ => qAssert P fr x u
  | .slice t x lo hi none => .q fun fr _ => qSlice P fr t x lo hi
  | .slice t x (some lo) (some hi) (some mx) => .q fun fr _ => qSlice3 P fr t x lo hi mx
  | .lookup t x k ok => .q fun fr hp => qLookup P fr hp t x k ok
  | .alloc t => .a fun _ next => ob (zeroA P t) fun z => some (.ptr next 0, .cells z t)
  | .box t x => .a fun fr next => ob (evZ x fr) fun v => some (.ptr next 0, .cells v.cells t)
  | .buildSlice t n ps => .a fun fr next => opA P fr next (.buildSlice t n ps)
  | .makeMap t none => .a fun fr next => some (.mp next, .map [])
  | .makeSlice t l c => .a fun fr next => opA P fr next (.makeSlice t l c)
  | .store t p x => .w fun s => wStoreZ P s t p x
  | .mapUpdate t m k x => .w fun s => wMapUpdate P s t m k x
  | .range t x => .w fun s => wRange P s t x
  | .next x false => .w fun s => wNext s x
  | .entry x => .w fun s => wEntry s x
  | .call c => match c.callee with
    | .builtin .len => .q fun fr hp => qLen P fr hp c
    | .builtin .max => .q fun fr _ => qMax fr c
    | .builtin .append => .w fun s => wAppend P s c
    | .builtin .clear => .w fun s => wClear P s c
    | .builtin .copy => .w fun s => wCopy P s c
    | .builtin _ => .gen
    | _ => .c fun fr => calleeOf P fr c
  | _ => .gen
noncomputable def ZK.step (P : Program) (call : CallA) (o : Oper) (co : ZK) (d : Option Tmp) (s : St) : Option St :=
  ZK.rec (motive := fun _ => Option St)
    (fun f => ob (f s.fr s.hp) (putZ s d))
    (fun f g => Option.rec (motive := fun _ => Option St) (ob (g s.fr s.next) fun r => putZ (newZ s r.2) d r.1) (putZ s d) (f s.fr s.hp))
    (fun g => ob (g s.fr s.next) fun r => putZ (newZ s r.2) d r.1)
    (fun h => ob (h s) fun r => putZ r.2 d r.1)
    (fun f => ob (f s.fr) fun q => ob (call q.1 q.2 s) fun r => putZ (setFrZ r.2 s.fr s.nt) d r.1)
    (stepO P call s o) co
inductive ZG where
  | no
  | on (d : Tmp) (want : Bool)
  | bad
def compG (ops : List Oper) (o : Oper) : ZG :=
  match o.guard with
  | none => .no
  | some (j, want) => match nthL ops j with
    | some oj => match oj.dst with
      | some d => .on d want
      | none => .bad
    | none => .bad
structure ZO where
  g : ZG
  d : Option Tmp
  co : ZK
  o : Oper
noncomputable def compR (P : Program) (ops : List Oper) (o : Oper) : ZO := ⟨compG ops o, o.dst, compO P o.op, o⟩
noncomputable def wantZ (fr : Tr AV) (d : Tmp) (want : Bool) : Option Bool := ob (getZ fr (bits d)) fun v => match v with
  | .bool b => some (b == want)
  | .tup [] => some false
  | _ => none
noncomputable def ZO.run (P : Program) (call : CallA) (cr : ZO) (s : St) : Option St :=
  ZO.rec (motive := fun _ => Option St) (fun g d co o => ZG.rec (motive := fun _ => Option St) (co.step P call o d s)
    (fun gd want => ob (wantZ s.fr gd want) fun b => Bool.rec (motive := fun _ => Option St) (putZ s d (.tup [])) (co.step P call o d s) b) none g) cr
noncomputable def runOpsZ (P : Program) (call : CallA) (l : List ZO) : St → Option St :=
  List.rec (motive := fun _ => St → Option St) (fun s => some s) (fun cr _ ih s => ob (cr.run P call s) ih) l
/-! ### Regions that draw -/
structure ZD where
  cr : ZO
  nd : List Tmp
  rd : Tr AV → Option (Nat × Nat × Nat)
noncomputable def compD (P : Program) (ops : List Oper) (o : Oper) : ZD := ⟨compR P ops o, needs ops o, fun fr => readsOf P fr o.op⟩
noncomputable def pickZ (fr : Tr AV) (l : List Tmp) : Tr AV :=
  List.rec (motive := fun _ => Tr AV) .lf (fun d _ ih => Option.rec (motive := fun _ => Tr AV) ih (fun v => setZ (bits d) (some v) ih) (getZ fr (bits d))) l
noncomputable def stepRZ (P : Program) (call : CallA) (cd : ZD) (s : St) : Option St :=
  ob (cd.cr.run P call (St.rec (motive := fun _ => St) (fun fr nt next hp _ => ⟨pickZ fr cd.nd, nt, next, hp, []⟩) s)) fun s1 =>
    some (St.rec (motive := fun _ => St) (fun fr nt next hp log => ⟨Option.rec (motive := fun _ => Tr AV) s.fr (fun d => setZ (bits d) (getZ fr (bits d)) s.fr) cd.cr.d, nt, next, hp, log⟩) s1)
noncomputable def runDZ (P : Program) (call : CallA) (l : List ZD) : St → Option (St × List RW) :=
  List.rec (motive := fun _ => St → Option (St × List RW)) (fun s => some (s, []))
    (fun cd _ ih s => ob (stepRZ P call cd s) fun s' => ob (ih (St.rec (motive := fun _ => St) (fun fr nt next hp log => ⟨fr, nt, next, hp, log ++ s.log⟩) s')) fun r => some (r.1, (cd.rd s.fr, s'.log) :: r.2)) l
/-! ### Code, made ready -/
inductive ZC where
  | skip
  | reg (l : List ZO)
  | drw (ok : Bool) (bs : List Nat) (l : List ZD)
  | seq (a b : ZC)
  | cond (c : Tr AV → Option AV) (x y : ZC)
  | block (id : Nat) (c : ZC)
  | loop (c : ZC)
  | exit (id : Nat)
  | ret
  | rangeF (f : Operand) (ps : List Tmp) (asg body : Code)
  | bad
noncomputable def compC (P : Program) : Code → ZC
  | .skip => .skip
  | .region _ ops false => .reg (ops.toList.map (compR P ops.toList))
  | .region _ ops true => .drw (drawOk ops.toList) (befores ops.toList []) (ops.toList.map (compD P ops.toList))
  | .seq a b => .seq (compC P a) (compC P b)
  | .cond c x y => .cond (evZ c) (compC P x) (compC P y)
  | .block id c => .block id (compC P c)
  | .loop c => .loop (compC P c)
  | .exit id => .exit id
  | .ret => .ret
  | .rangeFunc f ps asg body => .rangeF f ps.toList asg body
  | _ => .bad
noncomputable def ofR (x : Option St) : Rs := Option.rec (motive := fun _ => Rs) .bad .nrm x
noncomputable def drwZ (P : Program) (call : CallA) (ok : Bool) (bs : List Nat) (l : List ZD) (s : St) : Option St :=
  Bool.rec (motive := fun _ => Option St) none (ob (runDZ P call l s) fun r => bif watchOk bs r.2 then some r.1 else none) ok
noncomputable def thenR (r : Rs) (k : St → Rs) : Rs := Rs.rec (motive := fun _ => Rs) .bad k .ret .ext r
noncomputable def condR (c : Option AV) (x y : Rs) : Rs := Option.rec (motive := fun _ => Rs) .bad (fun v => Option.rec (motive := fun _ => Rs) .bad (fun b => Bool.rec (motive := fun _ => Rs) y x b) v.bool?) c
noncomputable def blockR (id : Nat) (r : Rs) : Rs := Rs.rec (motive := fun _ => Rs) .bad .nrm .ret (fun k s' => Bool.rec (motive := fun _ => Rs) (.ext k s') (.nrm s') (Nat.beq k id)) r
noncomputable def rangeR (P : Program) (call : CallA) (rf : Bool) (f : Operand) (ps : List Tmp) (asg body : Code) (s : St) : Rs :=
  bif rf then (match evZ f s.fr with
      | some fv => bif bodied P fv then (match call fv [.yld (Nat.succ s.next)] (newZ (newZ s .defd) (.loop s.fr s.nt ps asg body s.next .ready none)) with
        | some (_, s') => endL s s' (Nat.succ s.next)
        | none => .bad) else .bad
      | none => .bad) else .bad
noncomputable def runCZ (P : Program) (call : CallA) (rf : Bool) (n : Nat) : ZC → St → Rs :=
  Nat.rec (motive := fun _ => ZC → St → Rs) (fun _ _ => .bad) (fun _ ih c s => ZC.rec (motive := fun _ => Rs)
    (.nrm s)
    (fun l => ofR (runOpsZ P call l s))
    (fun ok bs l => ofR (drwZ P call ok bs l s))
    (fun a b _ _ => thenR (ih a s) (ih b))
    (fun c x y _ _ => condR (c s.fr) (ih x s) (ih y s))
    (fun id c _ => blockR id (ih c s))
    (fun c _ => thenR (ih c s) (ih (.loop c)))
    (fun id => .ext id s)
    (.ret s)
    (fun f ps asg body => rangeR P call rf f ps asg body s)
    .bad c) n
/-! ### Functions, made ready -/
inductive ZF where
  | none
  | ext
  | fn (c : ZC) (nt : Nat) (rs : List ResultVar)
noncomputable def compF (P : Program) (g : FuncId) : ZF :=
  match P.funcs[g]? with
  | some fn => match fn.body with
    | some c => .fn (compC P c) fn.ntmps fn.results.toList
    | none => .ext
  | none => .none
noncomputable def endZ (P : Program) (rs : List ResultVar) (r : Rs) : Option (AV × St) :=
  Rs.rec (motive := fun _ => Option (AV × St)) none (fun s => ob (resA P s rs) fun vs => some (resOfA vs, s)) (fun s => ob (resA P s rs) fun vs => some (resOfA vs, s)) (fun _ _ => none) r
noncomputable def argZ (l : List AV) : Nat → Tr AV → Tr AV :=
  List.rec (motive := fun _ => Nat → Tr AV → Tr AV) (fun _ t => t) (fun v _ ih i t => ih (Nat.succ i) (setZ (bits i) (some v) t)) l
noncomputable def yldZ (P : Program) (call : CallA) (l : Nat) (args : List AV) (s : St) : Option (AV × St) :=
  match s.hp.get l with
  | some (.loop fr nt ps asg body _ _ _) => (parFrA nt ps args fr).bind fun fr' => match runCZ P call false 3000 (compC P asg) (setFrZ s fr' nt) with
      | .nrm s1 => (begY s1 l).bind fun s1' => match runCZ P call false 3000 (compC P body) s1' with
          | .nrm s2 => endY s2 l .ready none true
          | .ret s2 => endY s2 l .done (some .ret) false
          | .ext id s2 => endY s2 l .done (some (.exit id)) false
          | _ => none
      | _ => none
  | _ => none
noncomputable def callZ (P : Program) (ib cl : FuncId) (call : CallA) (g : FuncId) (args : List AV) (s : St) : Option (AV × St) :=
  ZF.rec (motive := fun _ => Option (AV × St)) none (extA ib cl g args s)
    (fun c nt rs => Bool.rec (motive := fun _ => Option (AV × St)) none (endZ P rs (runCZ P call true 3000 c (setFrZ s (argZ args 0 .lf) nt))) (Nat.ble (lenL args) nt)) (compF P g)
noncomputable def runFZ (P : Program) (ib cl : FuncId) (M : FuncId → List AV → St → Option (AV × St)) (n : Nat) : CallA :=
  Nat.rec (motive := fun _ => CallA) (fun _ _ _ => none) (fun _ ih f args s => match f with
    | .fn g first cap => Option.rec (motive := fun _ => Option (AV × St)) (callZ P ib cl ih g (first ++ (args ++ cap)) s) some (M g (first ++ (args ++ cap)) s)
    | .yld l => yldZ P ih l args s
    | _ => none) n
/-! ### It comes to the same -/
theorem ob_eq {α β : Type} (x : Option α) (f : α → Option β) : ob x f = x.bind f := by cases x <;> rfl
theorem bitsF_succ (f k : Nat) : bitsF (f + 1) k = if k = 0 then [] else if k % 2 = 1 then true :: bitsF f (k / 2) else false :: bitsF f (k / 2 - 1) := by
  show Bool.rec (motive := fun _ => List Bool) (Bool.rec (motive := fun _ => List Bool) (false :: bitsF f (Nat.sub (Nat.div k 2) 1)) (true :: bitsF f (Nat.div k 2)) (Nat.beq (Nat.mod k 2) 1)) [] (Nat.beq k 0) = _
  by_cases h : k = 0
  · subst h; rfl
  · have h1 : Nat.beq k 0 = false := by
      cases hb : Nat.beq k 0 with
      | false => rfl
      | true => exact absurd (beqT.1 hb) h
    rw [h1, if_neg h]
    by_cases h2 : k % 2 = 1
    · have h3 : Nat.beq (Nat.mod k 2) 1 = true := beqT.2 h2
      rw [h3, if_pos h2]; rfl
    · have h3 : Nat.beq (Nat.mod k 2) 1 = false := by
        cases hb : Nat.beq (Nat.mod k 2) 1 with
        | false => rfl
        | true => exact absurd (beqT.1 hb) h2
      rw [h3, if_neg h2]; rfl
theorem bitsF_enough : ∀ (f g k : Nat), k < f → k < g → bitsF f k = bitsF g k
  | 0, _, _, h, _ => by omega
  | _, 0, _, _, h => by omega
  | f + 1, g + 1, k, h1, h2 => by
    rw [bitsF_succ, bitsF_succ]
    by_cases h : k = 0
    · simp [h]
    · rw [if_neg h, if_neg h, bitsF_enough f g (k / 2) (by omega) (by omega), bitsF_enough f g (k / 2 - 1) (by omega) (by omega)]
theorem bits_zero : bits 0 = [] := rfl
theorem bits_odd {k : Nat} (h : k ≠ 0) (h2 : k % 2 = 1) : bits k = true :: bits (k / 2) := by
  unfold bits
  rw [show Nat.succ k = k + 1 from rfl, bitsF_succ, if_neg h, if_pos h2, bitsF_enough k (Nat.succ (k / 2)) (k / 2) (by omega) (by omega)]
theorem bits_even {k : Nat} (h : k ≠ 0) (h2 : ¬ k % 2 = 1) : bits k = false :: bits (k / 2 - 1) := by
  unfold bits
  rw [show Nat.succ k = k + 1 from rfl, bitsF_succ, if_neg h, if_neg h2, bitsF_enough k (Nat.succ (k / 2 - 1)) (k / 2 - 1) (by omega) (by omega)]
theorem getZ_eq {α : Type} : ∀ (t : Tr α) (k : Nat), getZ t (bits k) = t.get k
  | .lf, k => rfl
  | .nd l v r, k => by
    simp only [Tr.get, bq]
    by_cases h : k = 0
    · subst h; rfl
    · rw [if_neg h]
      by_cases h2 : k % 2 = 1
      · have h3 : k.mod 2 = 1 := h2
        rw [if_pos h3, bits_odd h h2]
        exact getZ_eq l (k / 2)
      · have h3 : ¬ k.mod 2 = 1 := h2
        rw [if_neg h3, bits_even h h2]
        exact getZ_eq r (k / 2 - 1)
theorem setZ_eq' {α : Type} {x : Option α} : ∀ (f : Nat) (t : Tr α) (k : Nat), k < f → setZ (bits k) x t = Tr.setF f t k x
  | 0, _, _, h => by omega
  | f + 1, t, k, h => by
    by_cases h0 : k = 0
    · subst h0; cases t <;> rfl
    · by_cases h2 : k % 2 = 1
      · have h3 : k.mod 2 = 1 := h2
        rw [bits_odd h0 h2]
        have ih := fun t => setZ_eq' (x := x) f t (k / 2) (by omega)
        cases t with
        | lf => simp only [Tr.setF, bq, h0, h3, if_true, if_false]; exact congrArg (fun z => Tr.nd z none .lf) (ih .lf)
        | nd l v r => simp only [Tr.setF, bq, h0, h3, if_true, if_false]; exact congrArg (fun z => Tr.nd z v r) (ih l)
      · have h3 : ¬ k.mod 2 = 1 := h2
        rw [bits_even h0 h2]
        have ih := fun t => setZ_eq' (x := x) f t (k / 2 - 1) (by omega)
        cases t with
        | lf => simp only [Tr.setF, bq, h0, h3, if_false]; exact congrArg (fun z => Tr.nd .lf none z) (ih .lf)
        | nd l v r => simp only [Tr.setF, bq, h0, h3, if_false]; exact congrArg (fun z => Tr.nd l v z) (ih r)
theorem setZ_eq {α : Type} (t : Tr α) (k : Nat) (x : Option α) : setZ (bits k) x t = t.set k x := setZ_eq' _ _ _ (Nat.lt_succ_self k)
theorem putZ_eq (s : St) (d : Option Tmp) (v : AV) : putZ s d v = s.put d v := by
  cases d with
  | none => rfl
  | some d =>
    show Bool.rec (motive := fun _ => Option St) none (some ⟨setZ (bits d) (some v) s.fr, s.nt, s.next, s.hp, s.log⟩) (Nat.blt d s.nt) = _
    rw [setZ_eq]
    simp only [St.put]
    cases Nat.blt d s.nt <;> rfl
theorem putZ_fun (s : St) (d : Option Tmp) : putZ s d = s.put d := funext fun v => putZ_eq s d v
theorem newZ_eq (s : St) (o : AO) : newZ s o = s.new o := by
  show (⟨s.fr, s.nt, Nat.succ s.next, setZ (bits s.next) (some o) s.hp, s.log⟩ : St) = _
  rw [setZ_eq]; rfl
theorem setFrZ_eq (s : St) (fr : Tr AV) (nt : Nat) : setFrZ s fr nt = { s with fr := fr, nt := nt } := rfl
theorem evZ_eq (x : Operand) (fr : Tr AV) : evZ x fr = aev fr x := by
  cases x with
  | tmp t => exact getZ_eq fr t
  | _ => rfl
theorem objZ_eq (hp : Tr AO) (n : Nat) : objZ hp n = objCells hp n := by
  unfold objZ objCells
  rw [getZ_eq, ob_eq]
  cases hp.get n with
  | none => rfl
  | some o => cases o <;> rfl
theorem cellsOfZ_eq (hp : Tr AO) (v : AV) : cellsOfZ hp v = cellsOf hp v := by
  cases v <;> first | rfl | skip
  simp only [cellsOfZ, cellsOf, ob_eq, objZ_eq]
theorem updZ_eq (s : St) (n off k : Nat) (o : AO) : updZ s n off k o = s.upd n off k (some o) := by
  show Bool.rec (motive := fun _ => Option St) none (Bool.rec (motive := fun _ => Option St) none (some ⟨s.fr, s.nt, s.next, setZ (bits n) (some o) s.hp, (n, off, k) :: s.log⟩) (Nat.blt n s.next)) (Nat.ble n0 n) = _
  rw [setZ_eq]
  simp only [St.upd]
  cases Nat.ble n0 n <;> cases Nat.blt n s.next <;> rfl
theorem setCellsZ_eq (s : St) (n off : Nat) (vs : List AV) : setCellsZ s n off vs = setCells s n off vs := by
  unfold setCellsZ setCells
  rw [getZ_eq, ob_eq]
  cases s.hp.get n with
  | none => rfl
  | some o => cases o <;> simp only [Option.bind_some, updZ_eq]
theorem wStoreZ_eq (P : Program) (s : St) (t : TypeId) (p x : Operand) : wStoreZ P s t p x = wStore P s t p x := by
  simp only [wStoreZ, wStore, ob_eq, evZ_eq, setCellsZ_eq]
section
variable {P : Program} {call : CallA}
theorem q_same {s : St} {o : Oper} {x : Option AV} (h : opQ P s.fr s.hp o.op = x) (ha : opA P s.fr s.next o.op = none) (hw : stepW P call s o = none) : ob x (putZ s o.dst) = stepO P call s o := by
  unfold stepO
  rw [h, ob_eq, putZ_fun]
  cases x with
  | some v => rfl
  | none => simp only [Option.bind_none, ha, hw]
theorem a_same {s : St} {o : Oper} {x : Option (AV × AO)} (h : opQ P s.fr s.hp o.op = none) (ha : opA P s.fr s.next o.op = x) (hw : stepW P call s o = none) : (ob x fun r => putZ (newZ s r.2) o.dst r.1) = stepO P call s o := by
  unfold stepO
  rw [h, ha, ob_eq]
  simp only [putZ_eq, newZ_eq]
  cases x with
  | some v => rfl
  | none => simp only [Option.bind_none, hw]
theorem w_same {s : St} {o : Oper} {x : Option (AV × St)} (h : opQ P s.fr s.hp o.op = none) (ha : opA P s.fr s.next o.op = none) (hc : callOf o.op = none) (hw : opW P s o.op = x) : (ob x fun r => putZ r.2 o.dst r.1) = stepO P call s o := by
  unfold stepO stepW
  rw [h, ha, hc, hw, ob_eq]
  simp only [putZ_eq]
theorem no_w {s : St} {o : Oper} (hc : callOf o.op = none) (hw : opW P s o.op = none) : stepW P call s o = none := by
  unfold stepW; rw [hc, hw]; rfl
theorem stepZ_eq (s : St) (o : Oper) : (compO P o.op).step P call o o.dst s = stepO P call s o := by
  obtain ⟨dst, op, type, pos, after, guard⟩ := o
  show (compO P op).step P call _ dst s = _
  unfold compO
  split
  · exact q_same (o := ⟨dst, _, type, pos, after, guard⟩) (by simp only [evZ_eq]; rfl) rfl (no_w rfl rfl)
  · exact q_same (o := ⟨dst, _, type, pos, after, guard⟩) (by simp only [evZ_eq]; rfl) rfl (no_w rfl rfl)
  · exact q_same (o := ⟨dst, _, type, pos, after, guard⟩) rfl rfl (no_w rfl rfl)
  · exact q_same (o := ⟨dst, _, type, pos, after, guard⟩) (by simp only [ob_eq, evZ_eq]; rfl) rfl (no_w rfl rfl)
  · exact q_same (o := ⟨dst, _, type, pos, after, guard⟩) rfl rfl (no_w rfl rfl)
  · -- convert
    rename_i src dt x
    show Option.rec (motive := fun _ => Option St) (ob (opA P s.fr s.next (.convert src dt x)) fun r => putZ (newZ s r.2) dst r.1) (putZ s dst) (qConv P s.fr src dt x) = stepO P call s ⟨dst, .convert src dt x, type, pos, after, guard⟩
    unfold stepO
    show _ = (match qConv P s.fr src dt x with | some v => s.put dst v | none => _)
    cases hq : qConv P s.fr src dt x with
    | some v => exact putZ_eq s dst v
    | none =>
      show (ob (opA P s.fr s.next (.convert src dt x)) fun r => putZ (newZ s r.2) dst r.1) = (match opA P s.fr s.next (.convert src dt x) with | some r => (s.new r.2).put dst r.1 | none => _)
      rw [ob_eq]
      simp only [putZ_eq, newZ_eq]
      cases opA P s.fr s.next (.convert src dt x) <;> rfl
  · exact q_same (o := ⟨dst, _, type, pos, after, guard⟩) rfl rfl (no_w rfl rfl)
  · exact q_same (o := ⟨dst, _, type, pos, after, guard⟩) (by simp only [ob_eq, evZ_eq]; rfl) rfl (no_w rfl rfl)
  · exact q_same (o := ⟨dst, _, type, pos, after, guard⟩) (by simp only [ob_eq, evZ_eq]; rfl) rfl (no_w rfl rfl)
  · exact q_same (o := ⟨dst, _, type, pos, after, guard⟩) rfl rfl (no_w rfl rfl)
  · exact q_same (o := ⟨dst, _, type, pos, after, guard⟩) rfl rfl (no_w rfl rfl)
  · exact q_same (o := ⟨dst, _, type, pos, after, guard⟩) (by simp only [ob_eq, evZ_eq]; rfl) rfl (no_w rfl rfl)
  · exact q_same (o := ⟨dst, _, type, pos, after, guard⟩) (by simp only [ob_eq, evZ_eq, cellsOfZ_eq]; rfl) rfl (no_w rfl rfl)
  · exact q_same (o := ⟨dst, _, type, pos, after, guard⟩) rfl rfl (no_w rfl rfl)
  · exact q_same (o := ⟨dst, _, type, pos, after, guard⟩) rfl rfl (no_w rfl rfl)
  · exact q_same (o := ⟨dst, _, type, pos, after, guard⟩) rfl rfl (no_w rfl rfl)
  · exact q_same (o := ⟨dst, _, type, pos, after, guard⟩) rfl rfl (no_w rfl rfl)
  · exact q_same (o := ⟨dst, _, type, pos, after, guard⟩) rfl rfl (no_w rfl rfl)
  · exact q_same (o := ⟨dst, _, type, pos, after, guard⟩) rfl rfl (no_w rfl rfl)
  · exact q_same (o := ⟨dst, _, type, pos, after, guard⟩) rfl rfl (no_w rfl rfl)
  · exact a_same (o := ⟨dst, _, type, pos, after, guard⟩) rfl (by simp only [ob_eq]; rfl) (no_w rfl rfl)
  · exact a_same (o := ⟨dst, _, type, pos, after, guard⟩) rfl (by simp only [ob_eq, evZ_eq]; rfl) (no_w rfl rfl)
  · exact a_same (o := ⟨dst, _, type, pos, after, guard⟩) rfl rfl (no_w rfl rfl)
  · exact a_same (o := ⟨dst, .makeMap _ none, type, pos, after, guard⟩) rfl rfl (no_w rfl rfl)
  · exact a_same (o := ⟨dst, _, type, pos, after, guard⟩) rfl rfl (no_w rfl rfl)
  · exact w_same (o := ⟨dst, _, type, pos, after, guard⟩) rfl rfl rfl (wStoreZ_eq ..).symm
  · exact w_same (o := ⟨dst, _, type, pos, after, guard⟩) rfl rfl rfl rfl
  · exact w_same (o := ⟨dst, _, type, pos, after, guard⟩) rfl rfl rfl rfl
  · exact w_same (o := ⟨dst, _, type, pos, after, guard⟩) rfl rfl rfl rfl
  · exact w_same (o := ⟨dst, _, type, pos, after, guard⟩) rfl rfl rfl rfl
  · rename_i c
    obtain ⟨callee, args, argTypes⟩ := c
    cases callee with
    | builtin b => cases b <;> first
        | exact q_same (o := ⟨dst, _, type, pos, after, guard⟩) rfl rfl (no_w rfl rfl)
        | exact w_same (o := ⟨dst, _, type, pos, after, guard⟩) rfl rfl rfl rfl
        | rfl
    | value f =>
      show (ob (calleeOf P s.fr _) fun q => ob (call q.1 q.2 s) fun r => putZ (setFrZ r.2 s.fr s.nt) dst r.1) = _
      simp only [ob_eq, putZ_eq]; rfl
    | invoke r m =>
      show (ob (calleeOf P s.fr _) fun q => ob (call q.1 q.2 s) fun r => putZ (setFrZ r.2 s.fr s.nt) dst r.1) = _
      simp only [ob_eq, putZ_eq]; rfl
  · rfl
theorem runZ_eq (ops : List Oper) (s : St) (o : Oper) : (compR P ops o).run P call s = stepG P call ops s o := by
  have hst := stepZ_eq (P := P) (call := call) s o
  unfold stepG wantA compR
  cases hg : o.guard with
  | none =>
    have : compG ops o = .no := by unfold compG; rw [hg]
    rw [this]
    show (compO P o.op).step P call o o.dst s = _
    rw [hst]; rfl
  | some g =>
    obtain ⟨j, want⟩ := g
    cases hj : nthL ops j with
    | none =>
      have : compG ops o = .bad := by unfold compG; rw [hg]; simp only [hj]
      rw [this]; simp only [hj]; rfl
    | some oj =>
      cases hd : oj.dst with
      | none =>
        have : compG ops o = .bad := by unfold compG; rw [hg]; simp only [hj, hd]
        rw [this]; simp only [hj, hd, Option.bind_some]; rfl
      | some d =>
        have : compG ops o = .on d want := by unfold compG; rw [hg]; simp only [hj, hd]
        rw [this]
        show (ob (wantZ s.fr d want) fun b => Bool.rec (motive := fun _ => Option St) (putZ s o.dst (.tup [])) ((compO P o.op).step P call o o.dst s) b) = _
        unfold wantZ
        rw [hst, getZ_eq, putZ_eq, ob_eq, ob_eq]
        simp only [hj, hd, Option.bind_some]
        congr 1
        funext b
        cases b <;> rfl
theorem runOpsZ_eq (ops : List Oper) : ∀ (l : List Oper) (s : St), runOpsZ P call (l.map (compR P ops)) s = runOps P call ops l s
  | [], s => rfl
  | o :: l, s => by
    show ob ((compR P ops o).run P call s) (runOpsZ P call (l.map (compR P ops))) = _
    rw [runZ_eq, ob_eq]
    simp only [runOps]
    congr 1
    funext s'
    exact runOpsZ_eq ops l s'
theorem pickZ_eq (fr : Tr AV) : ∀ (l : List Tmp), pickZ fr l = pickFr fr l
  | [] => rfl
  | d :: l => by
    show Option.rec (motive := fun _ => Tr AV) (pickZ fr l) (fun v => setZ (bits d) (some v) (pickZ fr l)) (getZ fr (bits d)) = _
    rw [getZ_eq, pickZ_eq fr l]
    simp only [pickFr]
    cases fr.get d with
    | none => rfl
    | some v => exact setZ_eq _ _ _
theorem stepRZ_eq (ops : List Oper) (s : St) (o : Oper) : stepRZ P call (compD P ops o) s = stepR P call ops s o := by
  show (ob ((compR P ops o).run P call (⟨pickZ s.fr (needs ops o), s.nt, s.next, s.hp, []⟩ : St)) fun s1 =>
    some (⟨Option.rec (motive := fun _ => Tr AV) s.fr (fun d => setZ (bits d) (getZ s1.fr (bits d)) s.fr) o.dst, s1.nt, s1.next, s1.hp, s1.log⟩ : St)) = _
  rw [runZ_eq, ob_eq, pickZ_eq]
  unfold stepR
  congr 1
  funext s1
  cases o.dst with
  | none => rfl
  | some d =>
    show some (⟨setZ (bits d) (getZ s1.fr (bits d)) s.fr, s1.nt, s1.next, s1.hp, s1.log⟩ : St) = _
    rw [setZ_eq, getZ_eq]
theorem runDZ_eq (ops : List Oper) : ∀ (l : List Oper) (s : St), runDZ P call (l.map (compD P ops)) s = runD P call ops l s
  | [], s => rfl
  | o :: l, s => by
    show (ob (stepRZ P call (compD P ops o) s) fun s' => ob (runDZ P call (l.map (compD P ops)) ⟨s'.fr, s'.nt, s'.next, s'.hp, s'.log ++ s.log⟩) fun r => some (r.1, (readsOf P s.fr o.op, s'.log) :: r.2)) = _
    rw [stepRZ_eq, ob_eq]
    simp only [runD]
    congr 1
    funext s'
    rw [runDZ_eq ops l, ob_eq]
theorem ofR_eq (x : Option St) : ofR x = (match x with | some s' => .nrm s' | none => .bad) := by cases x <;> rfl
theorem runCZ_eq (rf : Bool) : ∀ (n : Nat) (c : Code) (s : St), runCZ P call rf n (compC P c) s = runC P call rf n c s := by
  intro n
  induction n with
  | zero => intro c s; rfl
  | succ n ih =>
    intro c s
    cases c with
    | region id ops d =>
      cases d with
      | false =>
        show ofR (runOpsZ P call (ops.toList.map (compR P ops.toList)) s) = _
        rw [runOpsZ_eq, ofR_eq]; rfl
      | true =>
        show ofR (drwZ P call (drawOk ops.toList) (befores ops.toList []) (ops.toList.map (compD P ops.toList)) s) = _
        unfold drwZ
        rw [runDZ_eq, ob_eq, ofR_eq]
        simp only [runC, runReg, cond_true]
        cases drawOk ops.toList <;> rfl
    | seq a b =>
      show thenR (runCZ P call rf n (compC P a) s) (runCZ P call rf n (compC P b)) = _
      rw [ih]
      simp only [runC]
      cases runC P call rf n a s <;> first | rfl | exact ih b _
    | cond c x y =>
      show condR (evZ c s.fr) (runCZ P call rf n (compC P x) s) (runCZ P call rf n (compC P y) s) = _
      rw [ih, ih, evZ_eq]
      simp only [runC]
      cases aev s.fr c with
      | none => rfl
      | some v =>
        show Option.rec (motive := fun _ => Rs) .bad (fun b => Bool.rec (motive := fun _ => Rs) (runC P call rf n y s) (runC P call rf n x s) b) v.bool? = _
        simp only [Option.bind_some]
        cases v.bool? with
        | none => rfl
        | some b => cases b <;> rfl
    | block id c =>
      show blockR id (runCZ P call rf n (compC P c) s) = _
      rw [ih]
      simp only [runC]
      cases runC P call rf n c s with
      | ext k s' =>
        show Bool.rec (motive := fun _ => Rs) (.ext k s') (.nrm s') (Nat.beq k id) = (bif Nat.beq k id then .nrm s' else .ext k s')
        cases Nat.beq k id <;> rfl
      | _ => rfl
    | loop c =>
      show thenR (runCZ P call rf n (compC P c) s) (runCZ P call rf n (.loop (compC P c))) = _
      rw [ih]
      simp only [runC]
      cases runC P call rf n c s <;> first | rfl | exact ih (.loop c) _
    | rangeFunc f ps asg body =>
      show rangeR P call rf f ps.toList asg body s = _
      unfold rangeR
      simp only [runC, evZ_eq, newZ_eq]
      cases rf with
      | false => rfl
      | true =>
        simp only [cond_true]
        cases aev s.fr f with
        | none => rfl
        | some fv =>
          simp only
          cases bodied P fv with
          | false => rfl
          | true =>
            simp only [cond_true]
            cases call fv [.yld (Nat.succ s.next)] ((s.new .defd).new (.loop s.fr s.nt ps.toList asg body s.next .ready none)) <;> rfl
    | _ => rfl
theorem argZ_eq : ∀ (l : List AV) (i : Nat) (t : Tr AV), argZ l i t = argFrA l i t
  | [], _, _ => rfl
  | v :: l, i, t => by
    show argZ l (Nat.succ i) (setZ (bits i) (some v) t) = _
    rw [setZ_eq, argZ_eq l]; rfl
theorem endZ_eq {fn : Func} (r : Rs) : endZ P fn.results.toList r = (match r with | .nrm s' => endF P fn s' | .ret s' => endF P fn s' | _ => none) := by
  cases r with
  | nrm s => show (ob (resA P s fn.results.toList) fun vs => some (resOfA vs, s)) = _; rw [ob_eq]; rfl
  | ret s => show (ob (resA P s fn.results.toList) fun vs => some (resOfA vs, s)) = _; rw [ob_eq]; rfl
  | _ => rfl
theorem runFZ_eq (ib cl : FuncId) (M : FuncId → List AV → St → Option (AV × St)) : ∀ (n : Nat), runFZ P ib cl M n = runF P ib cl M n := by
  intro n
  induction n with
  | zero => rfl
  | succ n ih =>
    funext f args s
    cases f with
    | fn g first cap =>
      show Option.rec (motive := fun _ => Option (AV × St)) (callZ P ib cl (runFZ P ib cl M n) g (first ++ (args ++ cap)) s) some (M g (first ++ (args ++ cap)) s) = _
      rw [ih]
      simp only [runF]
      cases M g (first ++ (args ++ cap)) s with
      | some r => rfl
      | none =>
        show callZ P ib cl (runF P ib cl M n) g (first ++ (args ++ cap)) s = _
        unfold callZ compF
        cases P.funcs[g]? with
        | none => rfl
        | some fn =>
          simp only [Option.bind_some]
          cases fn.body with
          | none => rfl
          | some c =>
            show Bool.rec (motive := fun _ => Option (AV × St)) none (endZ P fn.results.toList (runCZ P (runF P ib cl M n) true 3000 (compC P c) (setFrZ s (argZ (first ++ (args ++ cap)) 0 .lf) fn.ntmps))) (Nat.ble (lenL (first ++ (args ++ cap))) fn.ntmps) = _
            rw [runCZ_eq, argZ_eq, setFrZ_eq, endZ_eq]
            cases Nat.ble (lenL (first ++ (args ++ cap))) fn.ntmps <;> rfl
    | yld l =>
      show yldZ P (runFZ P ib cl M n) l args s = _
      rw [ih]
      unfold yldZ
      simp only [runF]
      cases s.hp.get l with
      | none => rfl
      | some o =>
        cases o <;> first | rfl | skip
        simp only [runCZ_eq, setFrZ_eq]
        rfl
    | _ => rfl
end
end Go.Mesh
