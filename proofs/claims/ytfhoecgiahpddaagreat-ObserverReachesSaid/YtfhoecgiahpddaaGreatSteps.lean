/-
  OPERATIONS, REGIONS AND CALLS in the logic of the first text: one operation; a region in the order of its text; a region that draws its order; a call by its contract; a function's contract from its body.
-/
import Derived.Test.YtfhoecgiahpddaaGreatCore
set_option linter.all false
namespace Go.Mesh
open Go.RowKit

/-- An operation that yields the one value v and leaves the world alone, wherever what is known holds. -/
def QOP (P : Program) (o : Oper) (fr : Fr) (h : Frag) (L : Hp) (v : Value) : Prop :=
  (∀ c, o.op ≠ .defer c) ∧ ∀ a : Act, (∀ x u, ev fr x = some u → a.eval x = u) → ∀ w, Sees h L w → (execOp a.eval o).run P w = .ok (.value v) w

abbrev OCont := Frag → Hp → Value → Prop

/-- An operation that keeps what is owned (new blocks M may come). -/
def OPc (P : Program) (r : Option Nat) (o : Oper) (fr : Fr) (h : Frag) (L : Hp) (K : OCont) : Prop :=
  ∀ a : Act, (∀ x u, ev fr x = some u → a.eval x = u) → ∀ w, Holds h L w →
    o.wpIn (FW r) 0 P a w (fun a' w' => ∃ h' M v, a' = a.put o.dst v ∧ K h' M v ∧ Ext h L w h' (M ++ L) w') (fun _ _ _ => False)
/-- An operation that may change what is owned. -/
def OPw (P : Program) (r : Option Nat) (o : Oper) (fr : Fr) (h : Frag) (L : Hp) (K : OCont) : Prop :=
  ∀ a : Act, (∀ x u, ev fr x = some u → a.eval x = u) → ∀ w, Holds h L w →
    o.wpIn (FW r) 0 P a w (fun a' w' => ∃ h' L' v, a' = a.put o.dst v ∧ K h' L' v ∧ Ext h L w h' L' w') (fun _ _ _ => False)

section
variable {P : Program} {r : Option Nat} {N : Nat} {h : Frag} {L : Hp} {D : List Nat} {fr : Fr} {o : Oper} {K : OCont}

theorem wpIn_of_value {a : Act} {w w' : World} {v : Value} {next : Act → World → Prop} {Q : Exit → Act → World → Prop} (hd : ∀ c, o.op ≠ .defer c)
    (hr : (execOp a.eval o).run P w = .ok (.value v) w') (hk : next (a.put o.dst v) w') : o.wpIn (FW r) 0 P a w next Q :=
  ⟨fun _ _ => trivial, by rw [Oper.semAt_eq _ _ _ hd, hr]; exact hk⟩
theorem wpIn_of_skip {a : Act} {w w' : World} {next : Act → World → Prop} {Q : Exit → Act → World → Prop} (hd : ∀ c, o.op ≠ .defer c)
    (hr : (execOp a.eval o).run P w = .ok .skip w') (hk : next (a.put o.dst undef) w') : o.wpIn (FW r) 0 P a w next Q :=
  ⟨fun _ _ => trivial, by rw [Oper.semAt_eq _ _ _ hd, hr]; exact hk⟩

theorem OPc_of_Q {v : Value} (q : QOP P o fr h L v) (k : K h [] v) : OPc P r o fr h L K :=
  fun a ha w hw => wpIn_of_value q.1 (q.2 a ha w hw.sees) ⟨h, [], v, rfl, k, .refl hw⟩
theorem OPw_of_c {K' : OCont} (x : OPc P r o fr h L K') (hk : ∀ h' M v, K' h' M v → K h' (M ++ L) v) : OPw P r o fr h L K :=
  fun a ha w hw => Oper.wpIn_mono (fun _ _ ⟨h', M, v, e, k, x⟩ => ⟨h', M ++ L, v, e, hk _ _ _ k, x⟩) (x a ha w hw)
theorem OPc.mono {K' : OCont} (x : OPc P r o fr h L K') (hk : ∀ h' M v, K' h' M v → K h' M v) : OPc P r o fr h L K :=
  fun a ha w hw => Oper.wpIn_mono (fun _ _ ⟨h', M, v, e, k, x⟩ => ⟨h', M, v, e, hk _ _ _ k, x⟩) (x a ha w hw)
theorem OPw.mono {K' : OCont} (x : OPw P r o fr h L K') (hk : ∀ h' M v, K' h' M v → K h' M v) : OPw P r o fr h L K :=
  fun a ha w hw => Oper.wpIn_mono (fun _ _ ⟨h', M, v, e, k, x⟩ => ⟨h', M, v, e, hk _ _ _ k, x⟩) (x a ha w hw)

/-! ### A region in the order of its text -/
def OPS (P : Program) (r : Option Nat) (N : Nat) (D : List Nat) (ops : Array Oper) (l : List Oper) (h : Frag) (L : Hp) (fr : Fr) (K : Frag → Hp → Fr → Prop) : Prop :=
  ∀ a w, FrOk N D fr a → Holds h L w → wpListIn (FW r) 0 P ops (fun e a' w' => e = .normal ∧ ∃ h' L' fr', K h' L' fr' ∧ FrOk N D fr' a' ∧ Ext h L w h' L' w') l a w

theorem wpListIn_mono {ops : Array Oper} {Q Q' : Exit → Act → World → Prop} (hq : ∀ e a w, Q e a w → Q' e a w) : ∀ (l : List Oper) (a : Act) (w : World),
    wpListIn (FW r) 0 P ops Q l a w → wpListIn (FW r) 0 P ops Q' l a w := by
  intro l
  induction l with
  | nil => exact fun a w x => hq _ _ _ x
  | cons o rest ih =>
    intro a w x
    simp only [wpListIn] at x ⊢
    split
    · rename_i hw
      simp only [hw, if_true] at x
      refine ⟨x.1, ?_⟩
      have hx := x.2
      have hQn : ∀ chain a w, Q (.panic chain) a w → Q' (.panic chain) a w := fun _ _ _ => hq _ _ _
      have hout : LetsOut Q → LetsOut Q' := fun ⟨a₀, w₀, q⟩ => ⟨a₀, w₀, hq _ _ _ q⟩
      revert hx
      generalize (o.semAt (FW r).round a.eval).run P w = res
      intro hx
      cases res with
      | ok y w' =>
        cases y <;> simp only [Oper.uponIn] at hx ⊢ <;>
          first
            | exact ih _ _ hx
            | exact ⟨hx.1, CallsIn.mono hx.2 (fun e w'' he => by cases e <;> first | exact ih _ _ he | exact hQn _ _ _ he | exact hout he)⟩
            | exact ⟨hx.1, RowsIn.mono hx.2 (fun _ _ he => ih _ _ he)⟩
            | exact ⟨hx.1, RoundIn.mono hx.2 (fun e w'' he => by cases e <;> first | exact ih _ _ he | exact hQn _ _ _ he | exact hout he)⟩
      | halt y w' => cases y <;> simp only [Oper.uponIn] at hx ⊢ <;> exact hQn _ _ _ hx
    · rename_i hw
      simp only [hw] at x
      exact ⟨x.1, ih _ _ x.2⟩

theorem Oper.wpIn_monoQ {a : Act} {w : World} {next : Act → World → Prop} {Q : Exit → Act → World → Prop} (x : o.wpIn (FW r) 0 P a w next (fun _ _ _ => False)) : o.wpIn (FW r) 0 P a w next Q := by
  refine ⟨x.1, ?_⟩
  have hx := x.2
  revert hx
  generalize (o.semAt (FW r).round a.eval).run P w = res
  intro hx
  have hout : ∀ {q : Prop}, LetsOut (fun _ _ _ => False) → q := fun ⟨_, _, f⟩ => f.elim
  cases res with
  | ok y w' =>
    cases y <;> simp only [Oper.uponIn] at hx ⊢ <;>
      first
        | exact hx
        | exact ⟨hx.1, CallsIn.mono hx.2 (fun e w'' he => by cases e <;> first | exact he | exact he.elim | exact hout he)⟩
        | exact ⟨hx.1, RoundIn.mono hx.2 (fun e w'' he => by cases e <;> first | exact he | exact he.elim | exact hout he)⟩
  | halt y w' => cases y <;> simp only [Oper.uponIn] at hx ⊢ <;> exact hx.elim

variable {ops : Array Oper} {rest : List Oper} {C : Frag → Hp → Fr → Prop}

theorem WP_region {id : Nat} {Q : Post} (x : OPS P r N D ops ops.toList h L fr (fun h' L' fr' => Q .normal h' L' D fr')) : WP P r N (.region id ops false) h L D fr Q :=
  fun a w fa hw => wpIn_region_list (wpListIn_mono (fun e a' w' ⟨he, h', L', fr', q, f, e1⟩ => by subst he; exact ⟨h', L', D, fr', q, f, e1⟩) _ _ _ (x a w fa hw))

theorem OPS_nil (x : C h L fr) : OPS P r N D ops [] h L fr C := fun _ _ fa hw => ⟨rfl, h, L, fr, x, fa, .refl hw⟩

theorem OPS_w (hg : o.guard = none) (hd : dstOk N o.dst = true) (x : OPw P r o fr h L (fun h' L' v => OPS P r N D ops rest h' L' (putd fr o.dst v) C)) : OPS P r N D ops (o :: rest) h L fr C := by
  intro a w fa hw
  simp only [wpListIn, Region.wanted, hg, if_true]
  refine Oper.wpIn_monoQ (Oper.wpIn_mono (fun a' w' ⟨h', L', v, e, k, x1⟩ => ?_) (x a (fun _ _ e => fa.eval e) w hw))
  subst e
  exact wpListIn_mono (fun e a2 w2 ⟨he, h2, L2, fr2, q, f2, e2⟩ => ⟨he, h2, L2, fr2, q, f2, x1.trans e2⟩) _ _ _ (k _ _ (fa.put hd v) x1.holds)
theorem OPS_c (hg : o.guard = none) (hd : dstOk N o.dst = true) (x : OPc P r o fr h L (fun h' M v => OPS P r N D ops rest h' (M ++ L) (putd fr o.dst v) C)) : OPS P r N D ops (o :: rest) h L fr C :=
  OPS_w hg hd (OPw_of_c x fun _ _ _ k => k)
theorem OPS_q {v : Value} (hg : o.guard = none) (hd : dstOk N o.dst = true) (q : QOP P o fr h L v) (x : OPS P r N D ops rest h L (putd fr o.dst v) C) : OPS P r N D ops (o :: rest) h L fr C :=
  OPS_c hg hd (OPc_of_Q q x)

/-- what a guard's operation has yielded -/
theorem yielded_of {a : Act} (fa : FrOk N D fr a) {j : Nat} {oj : Oper} {d : Nat} {t : Bool} (hj : ops[j]? = some oj) (hd : oj.dst = some d) (hv : get? fr d = some (.bool t)) : yielded ops a.tmps j = some t := by
  simp [yielded, hj, hd, fa.slots d _ hv]
theorem OPS_gw {j : Nat} {want : Bool} {oj : Oper} {d : Nat} (hg : o.guard = some (j, want)) (hj : ops[j]? = some oj) (hdj : oj.dst = some d) (hv : get? fr d = some (.bool want)) (hd : dstOk N o.dst = true)
    (x : OPw P r o fr h L (fun h' L' v => OPS P r N D ops rest h' L' (putd fr o.dst v) C)) : OPS P r N D ops (o :: rest) h L fr C := by
  intro a w fa hw
  have hy := yielded_of (ops := ops) fa hj hdj hv
  simp only [wpListIn, Region.wanted, hg, hy, beq_self_eq_true, if_true]
  refine Oper.wpIn_monoQ (Oper.wpIn_mono (fun a' w' ⟨h', L', v, e, k, x1⟩ => ?_) (x a (fun _ _ e => fa.eval e) w hw))
  subst e
  exact wpListIn_mono (fun e a2 w2 ⟨he, h2, L2, fr2, q, f2, e2⟩ => ⟨he, h2, L2, fr2, q, f2, x1.trans e2⟩) _ _ _ (k _ _ (fa.put hd v) x1.holds)
theorem OPS_gc {j : Nat} {want : Bool} {oj : Oper} {d : Nat} (hg : o.guard = some (j, want)) (hj : ops[j]? = some oj) (hdj : oj.dst = some d) (hv : get? fr d = some (.bool want)) (hd : dstOk N o.dst = true)
    (x : OPc P r o fr h L (fun h' M v => OPS P r N D ops rest h' (M ++ L) (putd fr o.dst v) C)) : OPS P r N D ops (o :: rest) h L fr C :=
  OPS_gw hg hj hdj hv hd (OPw_of_c x fun _ _ _ k => k)
theorem OPS_gq {j : Nat} {want : Bool} {oj : Oper} {d : Nat} {v : Value} (hg : o.guard = some (j, want)) (hj : ops[j]? = some oj) (hdj : oj.dst = some d) (hv : get? fr d = some (.bool want)) (hd : dstOk N o.dst = true)
    (q : QOP P o fr h L v) (x : OPS P r N D ops rest h L (putd fr o.dst v) C) : OPS P r N D ops (o :: rest) h L fr C :=
  OPS_gc hg hj hdj hv hd (OPc_of_Q q x)
theorem OPS_gn {j : Nat} {want : Bool} {oj : Oper} {d : Nat} (hg : o.guard = some (j, want)) (hj : ops[j]? = some oj) (hdj : oj.dst = some d) (hv : get? fr d = some (.bool (!want))) (hd : dstOk N o.dst = true)
    (x : OPS P r N D ops rest h L (putd fr o.dst undef) C) : OPS P r N D ops (o :: rest) h L fr C := by
  intro a w fa hw
  have hy := yielded_of (ops := ops) fa hj hdj hv
  have hne : (some (!want) == some want) = false := by cases want <;> rfl
  simp only [wpListIn, Region.wanted, hg, hy, hne, Bool.false_eq_true, if_false]
  exact ⟨fun _ _ => trivial, x _ _ (fa.put hd undef) hw⟩

/-! ### Contracts -/
def FSpec (P : Program) (f : FuncId) (args : Array Value) (h : Frag) (L : Hp) (R : OCont) : Prop :=
  ∀ w, Holds h L w → Calls P f args w fun e w' => ∃ v h' L', e = .returned v ∧ R h' L' v ∧ Ext h L w h' L' w'

theorem FSpec.mono {f : FuncId} {args : Array Value} {R R' : OCont} (x : FSpec P f args h L R) (hr : ∀ h' L' v, le h h' → R h' L' v → R' h' L' v) : FSpec P f args h L R' :=
  fun w hw => (x w hw).mono fun _ _ ⟨v, h', L', e, q, y⟩ => ⟨v, h', L', e, hr _ _ _ y.le q, y⟩
theorem FSpec.framed {f : FuncId} {args : Array Value} {R : OCont} (M : Hp) (x : FSpec P f args h L R) : FSpec P f args h (L ++ M) (fun h' L' v => ∃ L1, L' = L1 ++ M ∧ R h' L1 v) :=
  fun w hw => (x w (hw.drop (List.sublist_append_left _ _))).mono fun _ _ ⟨v, h', L', e, q, y⟩ => ⟨v, h', L' ++ M, e, ⟨L', rfl, q⟩, y.framed hw⟩
/-- what is proved over less holds over more -/
theorem FSpec.wider {f : FuncId} {args : Array Value} {R : OCont} {h0 : Frag} (hl : le h0 h) (x : FSpec P f args h0 [] (fun h' L' v => L' = [] ∧ R h' [] v)) (hm : ∀ h1 h2 v, le h1 h2 → R h1 [] v → R h2 [] v) :
    FSpec P f args h [] (fun h' L' v => L' = [] ∧ R h' [] v) := by
  intro w hw
  have hw0 : Holds h0 [] w := ⟨⟨fun b o e => hw.sees.pers b o (hl b o e), fun p hp => by cases hp⟩, by simp [ids], fun p hp => by cases hp⟩
  refine (x w hw0).mono fun e w' ⟨v, h', L', he, ⟨hL, q⟩, y⟩ => ?_
  subst hL
  refine ⟨v, fun b => match h' b with | some o => some o | none => h b, [], he, ⟨rfl, hm h' _ v (fun b o e => by simp [e]) q⟩, ?_⟩
  have hfr : ∀ b, b < w.heap.size → w'.heap[b]? = w.heap[b]? := fun b hb => y.frame b hb (by simp [ids])
  refine ⟨fun b o e => ?_, ⟨⟨fun b o e => ?_, (fun p hp => by cases hp)⟩, by simp [ids], (fun p hp => by cases hp)⟩, y.size, fun b hb _ => hfr b hb, fun b o e => ?_, (fun p hp => by cases hp), y.os, y.tape, y.output, y.drawn⟩
  · cases hb : h' b with
    | none => simpa using e
    | some o' =>
      have h1 := y.holds.sees.pers b o' hb
      have h2 := hw.sees.pers b o e
      rw [hfr b (hw.pers_lt e), h2] at h1
      cases h1; rfl
  · cases hb : h' b with
    | none =>
      simp only [hb] at e
      rw [hfr b (hw.pers_lt e)]; exact hw.sees.pers b o e
    | some o' =>
      simp only [hb] at e
      cases e; exact y.holds.sees.pers b o hb
  · cases hb : h' b with
    | none => simp only [hb] at e; exact .inl e
    | some o' =>
      simp only [hb] at e
      cases e
      rcases y.persNew b o hb with h1 | h1
      · exact .inl (hl _ _ h1)
      · exact .inr h1

/-- the values of operands -/
def evs (fr : Fr) : List Operand → List Value → Prop
  | [], vs => vs = []
  | x :: xs, vs => ∃ v us, ev fr x = some v ∧ evs fr xs us ∧ vs = v :: us
theorem evs_map {a : Act} (ha : ∀ x u, ev fr x = some u → a.eval x = u) : ∀ {xs : List Operand} {vs : List Value}, evs fr xs vs → xs.map a.eval = vs
  | [], _, e => e.symm
  | x :: xs, _, ⟨v, us, e1, e2, e3⟩ => by subst e3; simp [ha x v e1, evs_map ha e2]

/-- A call of the program's function. -/
theorem OPw_call {c : Call} {f : FuncId} {fo : Operand} {first cap : Array Value} {vs : List Value} {fn : Func} {R : OCont} (hop : o.op = .call c) (hc : c.callee = .value fo) (hf : ev fr fo = some (.func (.func f) first cap))
    (hvs : evs fr c.args.toList vs) (hfn : P.funcs[f]? = some fn) (hn : fn.name ≠ "runtime.NumGoroutine") (hb : fn.body.isSome = true)
    (x : FSpec P f (first ++ vs.toArray ++ cap) h L R) (k : ∀ h' L' v, le h h' → R h' L' v → K h' L' v) : OPw P r o fr h L K := by
  intro a ha w hw
  have hd : ∀ c', o.op ≠ .defer c' := fun c' => by rw [hop]; simp
  have hargs : c.args.map a.eval = vs.toArray := by
    have := evs_map ha hvs
    rw [← this]
    exact Array.toList_inj.1 (by simp)
  have hrun : (execOp a.eval o).run P w = .ok (.enter f (first ++ vs.toArray ++ cap)) w := by
    have hbn : fn.body.isNone = false := by
      cases hx : fn.body with
      | none => rw [hx] at hb; cases hb
      | some _ => rfl
    unfold execOp
    rw [hop]
    simp only [Sem.run_bind, resolve, hc, hargs, ha fo _ hf, Deferred.ofValue, Sem.run_pure, Result.andThen_ok, invoke, callFunc, run_program, hfn]
    simp [hn, hbn]
  refine ⟨fun _ _ => trivial, ?_⟩
  rw [Oper.semAt_eq _ _ _ hd, hrun]
  refine ⟨fun e => by simp [FW] at e, callsIn_FW ((x w hw).mono fun e w' ⟨v, h', L', he, q, y⟩ => ?_)⟩
  subst he
  exact ⟨h', L', v, rfl, k _ _ _ y.le q, y⟩
/-- A call of a function that needs nothing owned. -/
theorem OPc_call {c : Call} {f : FuncId} {fo : Operand} {first cap : Array Value} {vs : List Value} {fn : Func} {R : OCont} (hop : o.op = .call c) (hc : c.callee = .value fo) (hf : ev fr fo = some (.func (.func f) first cap))
    (hvs : evs fr c.args.toList vs) (hfn : P.funcs[f]? = some fn) (hn : fn.name ≠ "runtime.NumGoroutine") (hb : fn.body.isSome = true)
    (x : FSpec P f (first ++ vs.toArray ++ cap) h [] R) (k : ∀ h' L' v, le h h' → R h' L' v → K h' L' v) : OPc P r o fr h L K := by
  have y := OPw_call (r := r) (L := [] ++ L) (K := fun h' L' v => ∃ L1, L' = L1 ++ L ∧ K h' L1 v) hop hc hf hvs hfn hn hb (x.framed L)
    (fun h' L' v hl ⟨L1, e, q⟩ => ⟨L1, e, k _ _ _ hl q⟩)
  intro a ha w hw
  exact Oper.wpIn_mono (fun a' w' ⟨h', L', v, e, ⟨L1, e1, q⟩, z⟩ => ⟨h', L1, v, e, q, by rw [e1] at z; exact z⟩) (y a ha w hw)
/-- A call of a function that needs some of what is owned, M; the rest is L2. -/
theorem OPw_callM {c : Call} {f : FuncId} {fo : Operand} {first cap : Array Value} {vs : List Value} {fn : Func} {R : OCont} {M L2 : Hp} (hop : o.op = .call c) (hc : c.callee = .value fo) (hf : ev fr fo = some (.func (.func f) first cap))
    (hvs : evs fr c.args.toList vs) (hfn : P.funcs[f]? = some fn) (hn : fn.name ≠ "runtime.NumGoroutine") (hb : fn.body.isSome = true) (hp : L.Perm (M ++ L2))
    (x : FSpec P f (first ++ vs.toArray ++ cap) h M R) (k : ∀ h' M' v, le h h' → R h' M' v → K h' (M' ++ L2) v) : OPw P r o fr h L K := by
  have y := OPw_call (r := r) (L := M ++ L2) (K := K) hop hc hf hvs hfn hn hb (x.framed L2) (fun h' L' v hl ⟨L1, e, q⟩ => by subst e; exact k _ _ _ hl q)
  intro a ha w hw
  exact Oper.wpIn_mono (fun a' w' ⟨h', L', v, e, q, z⟩ => ⟨h', L', v, e, q, z.of_perm hp⟩) (y a ha w (hw.perm hp.symm))

/-! ### A function's contract from its body -/
def LoadsAt (P : Program) (h : Frag) (L : Hp) (t : TypeId) (p v : Value) : Prop :=
  ∃ a, p = .pointer (some a) ∧ ∀ w, Sees h L w → (loadVar t a).run P w = .ok v w
def resVals (P : Program) (h : Frag) (L : Hp) (fr : Fr) : List ResultVar → List Value → Prop
  | [], vs => vs = []
  | .tmp t :: rs, vs => ∃ v us, get? fr t = some v ∧ resVals P h L fr rs us ∧ vs = v :: us
  | .cell c t :: rs, vs => ∃ p v us, get? fr c = some p ∧ LoadsAt P h L t p v ∧ resVals P h L fr rs us ∧ vs = v :: us
def resOf : List Value → Value
  | [v] => v
  | vs => .tuple vs.toArray

def resSem (tmps : Array Value) : ResultVar → Sem Value
  | .tmp t => pure (tmps.getD t undef)
  | .cell c t => do loadVar t (← asAddr (tmps.getD c undef))
theorem results_def (fn : Func) (tmps : Array Value) : results fn tmps = (do let vs ← fn.results.mapM (resSem tmps); pure (if h : vs.size = 1 then vs[0] else .tuple vs)) := by
  unfold results
  congr 2
theorem run_asAddr_some (q : Addr) (w : World) : (asAddr (.pointer (some q))).run P w = .ok q w := rfl
theorem results_run {a : Act} {w : World} (fa : FrOk N D fr a) (hw : Sees h L w) : ∀ {rs : List ResultVar} {vs : List Value}, resVals P h L fr rs vs →
    (rs.mapM (resSem a.tmps)).run P w = .ok vs w
  | [], _, e => by subst e; rfl
  | .tmp t :: rs, _, ⟨v, us, e1, e2, e3⟩ => by
    subst e3
    have hv : a.tmps.getD t undef = v := by simp [fa.slots t v e1]
    have ih := results_run fa hw e2
    simp only [List.mapM_cons, resSem, Sem.run_bind, Sem.run_pure, Result.andThen_ok, hv, ih]
  | .cell c t :: rs, _, ⟨p, v, us, e1, ⟨q, hq, hl⟩, e2, e3⟩ => by
    subst e3
    subst hq
    have hv : a.tmps.getD c undef = .pointer (some q) := by simp [fa.slots c _ e1]
    have ih := results_run fa hw e2
    simp only [List.mapM_cons, resSem, Sem.run_bind, Sem.run_pure, Result.andThen_ok, hv, run_asAddr_some, hl w hw, ih]

theorem results_eq {fn : Func} {a : Act} {w : World} (fa : FrOk N D fr a) (hw : Sees h L w) {vs : List Value} (hr : resVals P h L fr fn.results.toList vs) :
    (results fn a.tmps).run P w = .ok (resOf vs) w := by
  have hl := results_run fa hw hr
  rw [results_def]
  have : ∀ (xs : Array ResultVar) (g : ResultVar → Sem Value) (us : List Value), (xs.toList.mapM g).run P w = .ok us w → (xs.mapM g).run P w = .ok us.toArray w := by
    intro xs g us hx
    rw [Array.mapM_eq_mapM_toList]
    rw [Sem.run_map, hx]; rfl
  rw [Sem.run_bind, this _ _ _ hl]
  simp only [Result.andThen_ok, Sem.run_pure]
  cases vs with
  | nil => simp [resOf]
  | cons v vs =>
    cases vs with
    | nil => simp [resOf]
    | cons u vs => simp [resOf]

/-- What a function's body must come to: D marks' blocks are among what is owned, with no deferred call. -/
def retQ (P : Program) (fn : Func) (R : OCont) : Post := fun e h' L' D' fr' => (e = .ret ∨ e = .normal) ∧ D' = [] ∧ ∃ vs, resVals P h' L' fr' fn.results.toList vs ∧ ∀ w, Holds h' L' w → ∃ h2 L2, Ext h' L' w h2 L2 w ∧ R h2 L2 (resOf vs)

def argFr : List Value → Nat → Fr
  | [], _ => []
  | v :: vs, i => (i, v) :: argFr vs (i + 1)
theorem argFr_get : ∀ (vs : List Value) (k i : Nat) (v : Value), get? (argFr vs k) i = some v → k ≤ i ∧ vs[i - k]? = some v
  | [], _, _, _, e => by cases e
  | u :: vs, k, i, v, e => by
    simp only [argFr, get?_cons] at e
    split at e
    · rename_i h; subst h; cases e; simp
    · rename_i h
      obtain ⟨h1, h2⟩ := argFr_get vs (k + 1) i v e
      refine ⟨by omega, ?_⟩
      have : i - k = (i - (k + 1)) + 1 := by omega
      rw [this]; simpa using h2

theorem FSpec_of {f : FuncId} {fn : Func} {c : Code} {vs : List Value} {R : OCont} (hf : P.funcs[f]? = some fn) (hb : fn.body = some c) (hN : Nat.ble vs.length fn.ntmps = true)
    (x : WP P none fn.ntmps c h L [] (argFr vs 0) (retQ P fn R)) : FSpec P f vs.toArray h L R := by
  intro w hw
  have hN' : vs.length ≤ fn.ntmps := Nat.le_of_ble_eq_true hN
  refine calls_of_FW (r := none) (n := 0) (callsIn_of_wp hf hb trivial (wpIn_mono (x _ w ⟨rfl, by simp; omega, fun i v e => ?_⟩ hw) fun e a' w' ⟨h', L', D', fr', ⟨he, hD, us, hr, q⟩, fa, y⟩ => ?_) rfl)
  · obtain ⟨_, h2⟩ := argFr_get vs 0 i v e
    simp only [Nat.sub_zero] at h2
    have hlt := (List.getElem?_eq_some_iff.1 h2).1
    rw [Array.getElem?_append_left (by simpa using hlt)]
    simpa using h2
  · subst hD
    have hres := results_eq (fn := fn) fa y.holds.sees hr
    have hdf : a'.defers = [] := fa.defers
    obtain ⟨h2, L2, e2, q⟩ := q w' y.holds
    rcases he with he | he <;> subst he <;> exact ⟨hdf, _, hres, _, h2, L2, rfl, q, y.trans e2⟩
end
end Go.Mesh
