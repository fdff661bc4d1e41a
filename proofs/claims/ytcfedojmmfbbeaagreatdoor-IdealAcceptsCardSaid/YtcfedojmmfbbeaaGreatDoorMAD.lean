/-
  Part MAD of the proof's ground: Rules2.
-/
import Derived.Test.YtcfedojmmfbbeaaGreatDoorMAC
/-
  MORE RULES FOR SCRIPTS: calls of functions that need nothing owned; a test that is not decided yet; a cut.
-/
set_option linter.all false
namespace Go.Mesh
open Go.RowKit

def callOk (P : Program) (f : FuncId) : Bool := match P.funcs[f]? with | some fn => fn.name != "runtime.NumGoroutine" && fn.body.isSome | none => false
theorem callOk_spec {P : Program} {f : FuncId} (hc : callOk P f = true) : ∃ fn, P.funcs[f]? = some fn ∧ fn.name ≠ "runtime.NumGoroutine" ∧ fn.body.isSome = true := by
  unfold callOk at hc
  cases hf : P.funcs[f]? with
  | none => rw [hf] at hc; cases hc
  | some fn =>
    rw [hf] at hc
    simp only [Bool.and_eq_true, bne_iff_ne] at hc
    exact ⟨fn, rfl, hc.1, hc.2⟩

/-- A contract of a function that needs nothing owned and leaves nothing owned. -/
def PSpec (P : Program) (f : FuncId) (args : Array Value) (h : Frag) (R : Frag → Value → Prop) : Prop := FSpec P f args h [] (fun h' L' v => L' = [] ∧ R h' v)

theorem Ext.forget {h h' : Frag} {L L' : Hp} {w w' : World} (x : Ext h L w h' L' w') : Ext h L w h L' w' where
  le := le_refl h
  holds := ⟨⟨fun b o e => x.holds.sees.pers b o (x.le b o e), x.holds.sees.own⟩, x.holds.nodup, fun p hp => by
    cases hh : h p.1 with
    | none => rfl
    | some o => have := x.le _ _ hh; rw [x.holds.apart p hp] at this; cases this⟩
  size := x.size
  frame := x.frame
  persNew := fun b o e => .inl e
  ownNew := x.ownNew
  os := x.os
  tape := x.tape
  output := x.output
  drawn := x.drawn

section
variable {P : Program} {r : Option Nat} {N : Nat} {h : Frag} {L : Hp} {D : List Nat} {fr : Fr} {o : Oper} {K : OCont} {ops : Array Oper} {rest : List Oper} {C : Frag → Hp → Fr → Prop} {Q : Post}

theorem PSpec.mono {f : FuncId} {args : Array Value} {R R' : Frag → Value → Prop} (x : PSpec P f args h R) (hr : ∀ h' v, le h h' → R h' v → R' h' v) : PSpec P f args h R' :=
  FSpec.mono x fun h' L' v hl ⟨e, q⟩ => ⟨e, hr h' v hl q⟩

theorem C_call {c : Call} {f : FuncId} {vs : List Value} {R : Frag → Value → Prop} (x : PSpec P f vs.toArray h R) (hop : o.op = .call c) (hc : c.callee = .value (.func f)) (hvs : evs fr c.args.toList vs) (hcal : callOk P f = true) (k : ∀ h' v, le h h' → R h' v → K h' [] v) : OPc P r o fr h L K := by
  obtain ⟨fn, hfn, hn, hb⟩ := callOk_spec hcal
  exact OPc_call (first := #[]) (cap := #[]) (R := fun h' L' v => L' = [] ∧ R h' v) hop hc rfl hvs hfn hn hb (by have x' : FSpec P f vs.toArray h [] (fun h' L' v => L' = [] ∧ R h' v) := x; simpa using x') fun h' L' v hl ⟨e, q⟩ => by subst e; exact k h' v hl q
/-- its result does not lie in memory: what is known stays -/
theorem C_call0 {c : Call} {f : FuncId} {vs : List Value} {R : Value → Prop} (x : PSpec P f vs.toArray h (fun _ v => R v)) (hop : o.op = .call c) (hc : c.callee = .value (.func f)) (hvs : evs fr c.args.toList vs) (hcal : callOk P f = true) (k : ∀ v, R v → K h [] v) : OPc P r o fr h L K := by
  have y : OPc P r o fr h L (fun _ M v => M = [] ∧ R v) := C_call x hop hc hvs hcal fun _ v _ q => ⟨rfl, q⟩
  intro a ha w hw
  refine Oper.wpIn_mono (fun a' w' ⟨h', M, v, e, ⟨hM, q⟩, z⟩ => ?_) (y a ha w hw)
  subst hM
  exact ⟨h, [], v, e, k v q, z.forget⟩
theorem S_call {c : Call} {f d : Nat} {vs : List Value} {R : Frag → Value → Prop} (x : PSpec P f vs.toArray h R) (hop : o.op = .call c) (hc : c.callee = .value (.func f)) (hvs : evs fr c.args.toList vs) (hcal : callOk P f = true) (hd : o.dst = some d) (hN : Nat.blt d N = true) (hg : o.guard = none)
    (k : ∀ h' v, le h h' → R h' v → OPS P r N D ops rest h' L ((d, v) :: fr) C) : OPS P r N D ops (o :: rest) h L fr C := S_c hd hN hg (C_call x hop hc hvs hcal k)
theorem S_call0 {c : Call} {f d : Nat} {vs : List Value} {R : Value → Prop} (x : PSpec P f vs.toArray h (fun _ v => R v)) (hop : o.op = .call c) (hc : c.callee = .value (.func f)) (hvs : evs fr c.args.toList vs) (hcal : callOk P f = true) (hd : o.dst = some d) (hN : Nat.blt d N = true) (hg : o.guard = none)
    (k : ∀ v, R v → OPS P r N D ops rest h L ((d, v) :: fr) C) : OPS P r N D ops (o :: rest) h L fr C := S_c hd hN hg (C_call0 x hop hc hvs hcal k)
/-- one result, fixed -/
theorem S_callv {c : Call} {f d : Nat} {vs : List Value} {v : Value} (x : PSpec P f vs.toArray h (fun _ u => u = v)) (hop : o.op = .call c) (hc : c.callee = .value (.func f)) (hvs : evs fr c.args.toList vs) (hcal : callOk P f = true) (hd : o.dst = some d) (hN : Nat.blt d N = true) (hg : o.guard = none)
    (k : OPS P r N D ops rest h L ((d, v) :: fr) C) : OPS P r N D ops (o :: rest) h L fr C := S_call0 x hop hc hvs hcal hd hN hg fun u e => by subst e; exact k
theorem S_gcallv {c : Call} {f d j dj : Nat} {want : Bool} {oj : Oper} {vs : List Value} {v : Value} (x : PSpec P f vs.toArray h (fun _ u => u = v)) (hop : o.op = .call c) (hc : c.callee = .value (.func f)) (hvs : evs fr c.args.toList vs) (hcal : callOk P f = true) (hd : o.dst = some d) (hN : Nat.blt d N = true) (hg : o.guard = some (j, want)) (hj : ops[j]? = some oj) (hdj : oj.dst = some dj) (hv : get? fr dj = some (.bool want))
    (k : OPS P r N D ops rest h L ((d, v) :: fr) C) : OPS P r N D ops (o :: rest) h L fr C := S_gc hd hN hg hj hdj hv (C_call0 x hop hc hvs hcal fun u e => by subst e; exact k)
theorem S_gcall {c : Call} {f d j dj : Nat} {want : Bool} {oj : Oper} {vs : List Value} {R : Frag → Value → Prop} (x : PSpec P f vs.toArray h R) (hop : o.op = .call c) (hc : c.callee = .value (.func f)) (hvs : evs fr c.args.toList vs) (hcal : callOk P f = true) (hd : o.dst = some d) (hN : Nat.blt d N = true) (hg : o.guard = some (j, want)) (hj : ops[j]? = some oj) (hdj : oj.dst = some dj) (hv : get? fr dj = some (.bool want))
    (k : ∀ h' v, le h h' → R h' v → OPS P r N D ops rest h' L ((d, v) :: fr) C) : OPS P r N D ops (o :: rest) h L fr C := S_gc hd hN hg hj hdj hv (C_call x hop hc hvs hcal k)

/-! ### A call that takes over a block -/
theorem OPS_keep {l : List Oper} {p : Nat × Obj} (x : ∀ h', le h h' → h' p.1 = some p.2 → OPS P r N D ops l h' L fr C) : OPS P r N D ops l h (p :: L) fr C := by
  intro a w fa hw
  obtain ⟨e0, hm⟩ := Ext.keep (M := [p]) (L := L) hw
  exact wpListIn_mono (fun e a' w' ⟨he, h', L', fr', q, f, e1⟩ => ⟨he, h', L', fr', q, f, e0.trans e1⟩) _ _ _ (x _ e0.le (hm p (by simp)) a w fa e0.holds)
theorem WP_keep {c : Code} {p : Nat × Obj} (x : ∀ h', le h h' → h' p.1 = some p.2 → WP P r N c h' L D fr Q) : WP P r N c h (p :: L) D fr Q :=
  WP.keep (M := [p]) fun h' hl hm => x h' hl (hm p (by simp))
theorem V_callK {p : Nat × Obj} {c : Call} {f : FuncId} {vs : List Value} {R : Frag → Value → Prop} (x : ∀ h', le h h' → h' p.1 = some p.2 → PSpec P f vs.toArray h' R) (hop : o.op = .call c) (hc : c.callee = .value (.func f)) (hvs : evs fr c.args.toList vs) (hcal : callOk P f = true) (k : ∀ h' v, le h h' → h' p.1 = some p.2 → R h' v → K h' L v) : OPv P r o fr h (p :: L) K := by
  intro a ha w hw
  obtain ⟨e0, hm⟩ := Ext.keep (M := [p]) (L := L) hw
  have hp := hm p (by simp)
  have y : OPc P r o fr (add h [p]) L (fun h' M v => M = [] ∧ le (add h [p]) h' ∧ R h' v) := C_call (x _ e0.le hp) hop hc hvs hcal fun h' v hl q => ⟨rfl, hl, q⟩
  refine Oper.wpIn_mono (fun a' w' ⟨h', M, v, e, ⟨hM, hl, q⟩, z⟩ => ?_) (y a ha w e0.holds)
  subst hM
  refine ⟨h', L, v, e, k h' v (le_trans e0.le hl) (hl _ _ hp) q, e0.trans z, fun w1 s => ⟨fun b o' e' => s.pers b o' (hl _ _ (e0.le b o' e')), fun q hq => ?_⟩⟩
  rcases List.mem_cons.1 hq with rfl | hq
  · exact s.pers _ _ (hl _ _ hp)
  · exact s.own q hq
theorem S_callK {p : Nat × Obj} {c : Call} {f d : Nat} {vs : List Value} {R : Frag → Value → Prop} (x : ∀ h', le h h' → h' p.1 = some p.2 → PSpec P f vs.toArray h' R) (hop : o.op = .call c) (hc : c.callee = .value (.func f)) (hvs : evs fr c.args.toList vs) (hcal : callOk P f = true) (hd : o.dst = some d) (hN : Nat.blt d N = true) (hg : o.guard = none)
    (k : ∀ h' v, le h h' → h' p.1 = some p.2 → R h' v → OPS P r N D ops rest h' L ((d, v) :: fr) C) : OPS P r N D ops (o :: rest) h (p :: L) fr C := S_w hd hN hg (OPw_of_v (V_callK x hop hc hvs hcal k))

/-! ### Tests that are not decided yet -/
theorem FrOk.shadow {a : Act} {d : Nat} {v u : Value} (f : FrOk N D fr a) (hv : get? fr d = some v) (e : v = u) : FrOk N D ((d, u) :: fr) a :=
  ⟨f.defers, f.size, fun i x hx => by
    rw [get?_cons] at hx
    split at hx
    · rename_i hd; subst hd; cases hx; rw [← e]; exact f.slots _ _ hv
    · exact f.slots i x hx⟩
theorem S_split {l : List Oper} {d : Nat} {b : Bool} (hv : get? fr d = some (.bool b)) (t : b = true → OPS P r N D ops l h L ((d, .bool true) :: fr) C) (f : b = false → OPS P r N D ops l h L ((d, .bool false) :: fr) C) : OPS P r N D ops l h L fr C :=
  fun a w fa hw => by
    cases hb : b with
    | true => exact t hb a w (fa.shadow hv (by rw [hb])) hw
    | false => exact f hb a w (fa.shadow hv (by rw [hb])) hw
/-- at an operation whose guard is not decided -/
theorem S_gsplit {j dj : Nat} {want b : Bool} {oj : Oper} (hg : o.guard = some (j, want)) (hj : ops[j]? = some oj) (hdj : oj.dst = some dj) (hv : get? fr dj = some (.bool b))
    (t : b = true → OPS P r N D ops (o :: rest) h L ((dj, .bool true) :: fr) C) (f : b = false → OPS P r N D ops (o :: rest) h L ((dj, .bool false) :: fr) C) : OPS P r N D ops (o :: rest) h L fr C :=
  have _ := hg; have _ := hj; have _ := hdj
  S_split hv t f
theorem A_split {fuel : Nat} {listed : Array Bool} {d : Nat} {b : Bool} (hv : get? fr d = some (.bool b)) (t : b = true → ANY P r N D ops fuel listed h L ((d, .bool true) :: fr) C) (f : b = false → ANY P r N D ops fuel listed h L ((d, .bool false) :: fr) C) : ANY P r N D ops fuel listed h L fr C :=
  fun a fa => by
    cases hb : b with
    | true => exact t hb a (fa.shadow hv (by rw [hb]))
    | false => exact f hb a (fa.shadow hv (by rw [hb]))
variable {l : List Oper} {fuel n m m' : Nat}
/-- at an operation of a region that draws, whose guard is not decided -/
theorem A_gsplit {i j dj : Nat} {want b : Bool} {oj : Oper} (hg : o.guard = some (j, want)) (hj : nth l j = some oj) (hdj : oj.dst = some dj) (hv : get? fr dj = some (.bool b))
    (t : b = true → ANY P r N D l.toArray fuel (lst n m) h L ((dj, .bool true) :: fr) C) (f : b = false → ANY P r N D l.toArray fuel (lst n m) h L ((dj, .bool false) :: fr) C) : ANYo P r N D l fuel n m i o h L fr C :=
  have _ := hg; have _ := hj; have _ := hdj
  fun _ => A_split hv t f
theorem A_call {c : Call} {f d i : Nat} {vs : List Value} {R : Frag → Value → Prop} (x : PSpec P f vs.toArray h R) (hop : o.op = .call c) (hc : c.callee = .value (.func f)) (hvs : evs fr c.args.toList vs) (hcal : callOk P f = true) (hd : o.dst = some d) (hN : Nat.blt d N = true) (hg : o.guard = none) (hm : m ||| 2 ^ i = m') (hr : Region.ready .any l.toArray (lst n m) = [i])
    (k : ∀ h' v, le h h' → R h' v → ANY P r N D l.toArray fuel (lst n m') h' L ((d, v) :: fr) C) : ANYo P r N D l (fuel + 1) n m i o h L fr C := A_c hd hN hg hm hr (C_call x hop hc hvs hcal k)
theorem A_callv {c : Call} {f d i : Nat} {vs : List Value} {v : Value} (x : PSpec P f vs.toArray h (fun _ u => u = v)) (hop : o.op = .call c) (hc : c.callee = .value (.func f)) (hvs : evs fr c.args.toList vs) (hcal : callOk P f = true) (hd : o.dst = some d) (hN : Nat.blt d N = true) (hg : o.guard = none) (hm : m ||| 2 ^ i = m') (hr : Region.ready .any l.toArray (lst n m) = [i])
    (k : ANY P r N D l.toArray fuel (lst n m') h L ((d, v) :: fr) C) : ANYo P r N D l (fuel + 1) n m i o h L fr C := A_c hd hN hg hm hr (C_call0 x hop hc hvs hcal fun u e => by subst e; exact k)
theorem A_gcall {c : Call} {f d i j dj : Nat} {want : Bool} {oj : Oper} {vs : List Value} {R : Frag → Value → Prop} (x : PSpec P f vs.toArray h R) (hop : o.op = .call c) (hc : c.callee = .value (.func f)) (hvs : evs fr c.args.toList vs) (hcal : callOk P f = true) (hd : o.dst = some d) (hN : Nat.blt d N = true) (hg : o.guard = some (j, want)) (hj : nth l j = some oj) (hdj : oj.dst = some dj) (hv : get? fr dj = some (.bool want)) (hm : m ||| 2 ^ i = m') (hr : Region.ready .any l.toArray (lst n m) = [i])
    (k : ∀ h' v, le h h' → R h' v → ANY P r N D l.toArray fuel (lst n m') h' L ((d, v) :: fr) C) : ANYo P r N D l (fuel + 1) n m i o h L fr C := A_gc hd hN hg hj hdj hv hm hr (C_call x hop hc hvs hcal k)
theorem A_gcallv {c : Call} {f d i j dj : Nat} {want : Bool} {oj : Oper} {vs : List Value} {v : Value} (x : PSpec P f vs.toArray h (fun _ u => u = v)) (hop : o.op = .call c) (hc : c.callee = .value (.func f)) (hvs : evs fr c.args.toList vs) (hcal : callOk P f = true) (hd : o.dst = some d) (hN : Nat.blt d N = true) (hg : o.guard = some (j, want)) (hj : nth l j = some oj) (hdj : oj.dst = some dj) (hv : get? fr dj = some (.bool want)) (hm : m ||| 2 ^ i = m') (hr : Region.ready .any l.toArray (lst n m) = [i])
    (k : ANY P r N D l.toArray fuel (lst n m') h L ((d, v) :: fr) C) : ANYo P r N D l (fuel + 1) n m i o h L fr C := A_gc hd hN hg hj hdj hv hm hr (C_call0 x hop hc hvs hcal fun u e => by subst e; exact k)

theorem A_callK {p : Nat × Obj} {c : Call} {f d i : Nat} {vs : List Value} {R : Frag → Value → Prop} (x : ∀ h', le h h' → h' p.1 = some p.2 → PSpec P f vs.toArray h' R) (hop : o.op = .call c) (hc : c.callee = .value (.func f)) (hvs : evs fr c.args.toList vs) (hcal : callOk P f = true) (hd : o.dst = some d) (hN : Nat.blt d N = true) (hg : o.guard = none) (hm : m ||| 2 ^ i = m') (hr : Region.ready .any l.toArray (lst n m) = [i])
    (k : ∀ h' v, le h h' → h' p.1 = some p.2 → R h' v → ANY P r N D l.toArray fuel (lst n m') h' L ((d, v) :: fr) C) : ANYo P r N D l (fuel + 1) n m i o h (p :: L) fr C :=
  fun hi => ANY_one i hr (STEP_v hi hg (dstOk_of hd hN) (by rw [hd, lst_set hm]; exact V_callK x hop hc hvs hcal k))

/-! ### What stands next -/
theorem is_ops {l : List Oper} (x : OPS P r N D ops l h L fr C) : OPS P r N D ops l h L fr C := x
theorem is_store {t : TypeId} {a v : Operand} (hop : o.op = .store t a v) (x : OPS P r N D ops (o :: rest) h L fr C) : OPS P r N D ops (o :: rest) h L fr C := have _ := hop; x
theorem is_build {t : TypeId} {ps : Array (Nat × Operand)} (hop : o.op = .build t ps) (x : OPS P r N D ops (o :: rest) h L fr C) : OPS P r N D ops (o :: rest) h L fr C := have _ := hop; x
theorem is_buildS {t : TypeId} {k : Nat} {ps : Array (Nat × Operand)} (hop : o.op = .buildSlice t k ps) (x : OPS P r N D ops (o :: rest) h L fr C) : OPS P r N D ops (o :: rest) h L fr C := have _ := hop; x
theorem is_bin {b : BinOp} {t u : TypeId} {a v : Operand} (hop : o.op = .binOp b t a v u) (x : OPS P r N D ops (o :: rest) h L fr C) : OPS P r N D ops (o :: rest) h L fr C := have _ := hop; x
theorem is_call {c : Call} (hop : o.op = .call c) (x : OPS P r N D ops (o :: rest) h L fr C) : OPS P r N D ops (o :: rest) h L fr C := have _ := hop; x
theorem is_guard {j : Nat × Bool} (hg : o.guard = some j) (x : OPS P r N D ops (o :: rest) h L fr C) : OPS P r N D ops (o :: rest) h L fr C := have _ := hg; x
theorem is_plain (hg : o.guard = none) (x : OPS P r N D ops (o :: rest) h L fr C) : OPS P r N D ops (o :: rest) h L fr C := have _ := hg; x
theorem ia_plain {i : Nat} (hg : o.guard = none) (x : ANYo P r N D l fuel n m i o h L fr C) : ANYo P r N D l fuel n m i o h L fr C := have _ := hg; x
theorem ia_guard {i : Nat} {j : Nat × Bool} (hg : o.guard = some j) (x : ANYo P r N D l fuel n m i o h L fr C) : ANYo P r N D l fuel n m i o h L fr C := have _ := hg; x
theorem ia_bin {i : Nat} {b : BinOp} {t u : TypeId} {a v : Operand} (hop : o.op = .binOp b t a v u) (x : ANYo P r N D l fuel n m i o h L fr C) : ANYo P r N D l fuel n m i o h L fr C := have _ := hop; x
theorem ia_call {i : Nat} {c : Call} (hop : o.op = .call c) (x : ANYo P r N D l fuel n m i o h L fr C) : ANYo P r N D l fuel n m i o h L fr C := have _ := hop; x
theorem ia_build {i : Nat} {t : TypeId} {ps : Array (Nat × Operand)} (hop : o.op = .build t ps) (x : ANYo P r N D l fuel n m i o h L fr C) : ANYo P r N D l fuel n m i o h L fr C := have _ := hop; x
theorem ia_buildS {i : Nat} {t : TypeId} {k : Nat} {ps : Array (Nat × Operand)} (hop : o.op = .buildSlice t k ps) (x : ANYo P r N D l fuel n m i o h L fr C) : ANYo P r N D l fuel n m i o h L fr C := have _ := hop; x

/-! ### A cut -/
theorem WP_cut {c : Code} {C' : Cont} (fr1 : Fr) (x : WP P r N c h L D fr (fun e h' L' D' fr' => e = .normal ∧ h' = h ∧ L' = L ∧ D' = D ∧ FrSub fr1 fr')) (k : C' h L D fr1) : WP P r N c h L D fr (thenQ C' Q) :=
  fun a w fa hw => wpIn_mono (x a w fa hw) fun e a1 w1 ⟨h1, L1, D1, fr2, ⟨he, hh, hL, hD, hs⟩, f1, e1⟩ => by
    subst he; subst hh; subst hL; subst hD
    exact ⟨h1, L1, D1, fr1, k, f1.sub hs, e1⟩
theorem cut_n {fr1 : Fr} (hs : FrSub fr1 fr) : (fun (e : Exit) h' L' D' fr' => e = .normal ∧ h' = h ∧ L' = L ∧ D' = D ∧ FrSub fr1 fr') .normal h L D fr := ⟨rfl, rfl, rfl, rfl, hs⟩

theorem pret {fn : Func} {R : Frag → Value → Prop} {e : Exit} {rs : List ResultVar} {vs : List Value} (he : e = .ret ∨ e = .normal) (hrs : fn.results.toList = rs) (hr : resVals P h L fr rs vs) (x : R h (resOf vs)) : retQ P fn (fun h' L' v => L' = [] ∧ R h' v) e h L [] fr :=
  ret_q [] he hrs hr (List.nil_sublist _) ⟨rfl, x⟩
/-- what is owned at the end, M, becomes what nobody writes; the rest is let go -/
theorem keep_end {M rest : Hp} (R : Frag → Prop) (x : ∀ h', le h h' → (∀ p, p ∈ M → h' p.1 = some p.2) → R h') (hL : L = rest ++ M) : ∀ w, Holds h L w → ∃ h2 L2, Ext h L w h2 L2 w ∧ L2 = [] ∧ R h2 := by
  intro w hw
  have hw2 : Holds h (M ++ rest) w := hw.perm (by rw [hL]; exact List.perm_append_comm)
  obtain ⟨e0, hm⟩ := Ext.keep hw2
  refine ⟨_, [], ((e0.of_perm (by rw [hL]; exact List.perm_append_comm)).drop (List.nil_sublist _)), rfl, x _ e0.le hm⟩
theorem pretK {fn : Func} {R : Frag → Value → Prop} {e : Exit} {rs : List ResultVar} {vs : List Value} (rest M : Hp) (hL : L = rest ++ M) (he : e = .ret ∨ e = .normal) (hrs : fn.results.toList = rs) (hr : resVals P h L fr rs vs) (x : ∀ h', le h h' → (∀ p, p ∈ M → h' p.1 = some p.2) → R h' (resOf vs)) : retQ P fn (fun h' L' v => L' = [] ∧ R h' v) e h L [] fr :=
  ⟨he, rfl, vs, by rw [hrs]; exact hr, keep_end (fun h' => R h' (resOf vs)) x hL⟩
theorem mret {fn : Func} {R : OCont} {e : Exit} {rs : List ResultVar} {vs : List Value} (L2 L3 : Hp) (hL : L = L2 ++ D.map dObj) (he : e = .ret ∨ e = .normal) (hrs : fn.results.toList = rs) (hr : resVals P h L2 fr rs vs) (hs : List.Sublist L3 L2) (x : R h L3 (resOf vs)) : retM P fn R e h L D fr :=
  ⟨he, vs, L2, hL, by rw [hrs]; exact hr, fun _ hw => ⟨h, L3, (Ext.refl hw).drop hs, x⟩⟩
theorem mretK {fn : Func} {R : Frag → Value → Prop} {e : Exit} {rs : List ResultVar} {vs : List Value} (rest M : Hp) (hL : L = (rest ++ M) ++ D.map dObj) (he : e = .ret ∨ e = .normal) (hrs : fn.results.toList = rs) (hr : resVals P h (rest ++ M) fr rs vs) (x : ∀ h', le h h' → (∀ p, p ∈ M → h' p.1 = some p.2) → R h' (resOf vs)) : retM P fn (fun h' L' v => L' = [] ∧ R h' v) e h L D fr :=
  ⟨he, vs, rest ++ M, hL, by rw [hrs]; exact hr, keep_end (fun h' => R h' (resOf vs)) x rfl⟩
theorem pspec_of {f : FuncId} {fn : Func} {c : Code} {vs : List Value} {R : Frag → Value → Prop} (hf : P.funcs[f]? = some fn) (hn : fn.ntmps = N) (hb : fn.body = some c) (hN : Nat.ble vs.length N = true)
    (x : WP P none N c h [] [] (argFr vs 0) (retQ P fn (fun h' L' v => L' = [] ∧ R h' v))) : PSpec P f vs.toArray h R := spec_of hf hn hb rfl hN x
end
/-! ### Where a block stands in a list -/
section
variable {α : Type} {x : α} {l : List α}
theorem m0 : x ∈ x :: l := List.Mem.head _
theorem m1 {a0 : α} : x ∈ a0 :: x :: l := List.Mem.tail _ (List.Mem.head _)
theorem m2 {a0 a1 : α} : x ∈ a0 :: a1 :: x :: l := List.Mem.tail _ (List.Mem.tail _ (List.Mem.head _))
theorem m3 {a0 a1 a2 : α} : x ∈ a0 :: a1 :: a2 :: x :: l := List.Mem.tail _ (List.Mem.tail _ (List.Mem.tail _ (List.Mem.head _)))
theorem m4 {a0 a1 a2 a3 : α} : x ∈ a0 :: a1 :: a2 :: a3 :: x :: l := List.Mem.tail _ (List.Mem.tail _ (List.Mem.tail _ (List.Mem.tail _ (List.Mem.head _))))
theorem m5 {a0 a1 a2 a3 a4 : α} : x ∈ a0 :: a1 :: a2 :: a3 :: a4 :: x :: l := List.Mem.tail _ (List.Mem.tail _ (List.Mem.tail _ (List.Mem.tail _ (List.Mem.tail _ (List.Mem.head _)))))
theorem m6 {a0 a1 a2 a3 a4 a5 : α} : x ∈ a0 :: a1 :: a2 :: a3 :: a4 :: a5 :: x :: l := List.Mem.tail _ (List.Mem.tail _ (List.Mem.tail _ (List.Mem.tail _ (List.Mem.tail _ (List.Mem.tail _ (List.Mem.head _))))))
theorem m7 {a0 a1 a2 a3 a4 a5 a6 : α} : x ∈ a0 :: a1 :: a2 :: a3 :: a4 :: a5 :: a6 :: x :: l := List.Mem.tail _ (List.Mem.tail _ (List.Mem.tail _ (List.Mem.tail _ (List.Mem.tail _ (List.Mem.tail _ (List.Mem.tail _ (List.Mem.head _)))))))
end
section
variable {b : Nat} {o o' : Obj} {l : Hp}
theorem u0 : Upd b o o' ((b, o) :: l) ((b, o') :: l) := Upd.head _
theorem u1 {a0 : Nat × Obj} : Upd b o o' (a0 :: (b, o) :: l) (a0 :: (b, o') :: l) := Upd.tail _ (Upd.head _)
theorem u2 {a0 a1 : Nat × Obj} : Upd b o o' (a0 :: a1 :: (b, o) :: l) (a0 :: a1 :: (b, o') :: l) := Upd.tail _ (Upd.tail _ (Upd.head _))
theorem u3 {a0 a1 a2 : Nat × Obj} : Upd b o o' (a0 :: a1 :: a2 :: (b, o) :: l) (a0 :: a1 :: a2 :: (b, o') :: l) := Upd.tail _ (Upd.tail _ (Upd.tail _ (Upd.head _)))
theorem u4 {a0 a1 a2 a3 : Nat × Obj} : Upd b o o' (a0 :: a1 :: a2 :: a3 :: (b, o) :: l) (a0 :: a1 :: a2 :: a3 :: (b, o') :: l) := Upd.tail _ (Upd.tail _ (Upd.tail _ (Upd.tail _ (Upd.head _))))
theorem u5 {a0 a1 a2 a3 a4 : Nat × Obj} : Upd b o o' (a0 :: a1 :: a2 :: a3 :: a4 :: (b, o) :: l) (a0 :: a1 :: a2 :: a3 :: a4 :: (b, o') :: l) := Upd.tail _ (Upd.tail _ (Upd.tail _ (Upd.tail _ (Upd.tail _ (Upd.head _)))))
theorem u6 {a0 a1 a2 a3 a4 a5 : Nat × Obj} : Upd b o o' (a0 :: a1 :: a2 :: a3 :: a4 :: a5 :: (b, o) :: l) (a0 :: a1 :: a2 :: a3 :: a4 :: a5 :: (b, o') :: l) := Upd.tail _ (Upd.tail _ (Upd.tail _ (Upd.tail _ (Upd.tail _ (Upd.tail _ (Upd.head _))))))
theorem u7 {a0 a1 a2 a3 a4 a5 a6 : Nat × Obj} : Upd b o o' (a0 :: a1 :: a2 :: a3 :: a4 :: a5 :: a6 :: (b, o) :: l) (a0 :: a1 :: a2 :: a3 :: a4 :: a5 :: a6 :: (b, o') :: l) := Upd.tail _ (Upd.tail _ (Upd.tail _ (Upd.tail _ (Upd.tail _ (Upd.tail _ (Upd.tail _ (Upd.head _)))))))
end
end Go.Mesh
