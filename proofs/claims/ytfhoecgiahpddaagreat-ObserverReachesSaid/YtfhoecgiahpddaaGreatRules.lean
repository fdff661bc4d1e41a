/-
  THE SAME RULES, SHAPED FOR A PROOF THAT GOES OPERATION BY OPERATION: the slot that is written stands out; the list of a region's operations is a list.
-/
import Derived.Test.YtfhoecgiahpddaaGreatOps
set_option linter.all false
namespace Go.Mesh
open Go.RowKit

section
variable {P : Program} {r : Option Nat} {N : Nat} {h : Frag} {L : Hp} {D : List Nat} {fr : Fr} {o : Oper} {ops : Array Oper} {rest : List Oper} {C : Frag → Hp → Fr → Prop} {Q : Post}

theorem dstOk_of {d : Nat} (hd : o.dst = some d) (hN : Nat.blt d N = true) : dstOk N o.dst = true := by rw [hd]; exact hN
theorem dstOk_none (hd : o.dst = none) : dstOk N o.dst = true := by rw [hd]; rfl

theorem R_region {id : Nat} {l : List Oper} (x : OPS P r N D l.toArray l h L fr (fun h' L' fr' => Q .normal h' L' D fr')) : WP P r N (.region id l.toArray false) h L D fr Q := WP_region x
/-- which operations have come up, as a number's bits -/
def lst (n m : Nat) : Array Bool := ((List.range n).map fun i => m.testBit i).toArray
theorem lst_zero (n : Nat) : lst n 0 = Array.replicate n false := by
  apply Array.ext
  · simp [lst]
  · intro i h1 h2; simp [lst]
theorem lst_set {n m i m' : Nat} (hm : m ||| 2 ^ i = m') : (lst n m).setIfInBounds i true = lst n m' := by
  subst hm
  apply Array.ext
  · simp [lst]
  · intro j h1 h2
    rw [Array.getElem_setIfInBounds (by simpa using h1)]
    simp only [lst, List.getElem_toArray, List.getElem_map, List.getElem_range, Nat.testBit_or, Nat.testBit_two_pow]
    split
    · rename_i h; subst h; simp
    · rename_i h; simp [h]
theorem R_draw {id n : Nat} {l : List Oper} (hm : P.follows .mixedOrders = true) (hn : l.length = n) (x : ANY P r N D l.toArray n (lst n 0) h L fr (fun h' L' fr' => Q .normal h' L' D fr')) : WP P r N (.region id l.toArray true) h L D fr Q :=
  WP_draw hm (by subst hn; rw [lst_zero] at x; simpa using x)

theorem S_q {v : Value} {d : Nat} (hd : o.dst = some d) (hN : Nat.blt d N = true) (hg : o.guard = none) (q : QOP P o fr h L v) (x : OPS P r N D ops rest h L ((d, v) :: fr) C) : OPS P r N D ops (o :: rest) h L fr C :=
  OPS_q hg (dstOk_of hd hN) q (by rw [hd]; exact x)
theorem S_c {d : Nat} (hd : o.dst = some d) (hN : Nat.blt d N = true) (hg : o.guard = none) (x : OPc P r o fr h L (fun h' M v => OPS P r N D ops rest h' (M ++ L) ((d, v) :: fr) C)) : OPS P r N D ops (o :: rest) h L fr C :=
  OPS_c hg (dstOk_of hd hN) (by rw [hd]; exact x)
theorem S_c0 (hd : o.dst = none) (hg : o.guard = none) (x : OPc P r o fr h L (fun h' M _ => OPS P r N D ops rest h' (M ++ L) fr C)) : OPS P r N D ops (o :: rest) h L fr C :=
  OPS_c hg (dstOk_none hd) (by rw [hd]; exact x)
theorem S_w {d : Nat} (hd : o.dst = some d) (hN : Nat.blt d N = true) (hg : o.guard = none) (x : OPw P r o fr h L (fun h' L' v => OPS P r N D ops rest h' L' ((d, v) :: fr) C)) : OPS P r N D ops (o :: rest) h L fr C :=
  OPS_w hg (dstOk_of hd hN) (by rw [hd]; exact x)
theorem S_w0 (hd : o.dst = none) (hg : o.guard = none) (x : OPw P r o fr h L (fun h' L' _ => OPS P r N D ops rest h' L' fr C)) : OPS P r N D ops (o :: rest) h L fr C :=
  OPS_w hg (dstOk_none hd) (by rw [hd]; exact x)
theorem S_gq {v : Value} {d j dj : Nat} {want : Bool} {oj : Oper} (hd : o.dst = some d) (hN : Nat.blt d N = true) (hg : o.guard = some (j, want)) (hj : ops[j]? = some oj) (hdj : oj.dst = some dj) (hv : get? fr dj = some (.bool want))
    (q : QOP P o fr h L v) (x : OPS P r N D ops rest h L ((d, v) :: fr) C) : OPS P r N D ops (o :: rest) h L fr C :=
  OPS_gq hg hj hdj hv (dstOk_of hd hN) q (by rw [hd]; exact x)
theorem S_gc {d j dj : Nat} {want : Bool} {oj : Oper} (hd : o.dst = some d) (hN : Nat.blt d N = true) (hg : o.guard = some (j, want)) (hj : ops[j]? = some oj) (hdj : oj.dst = some dj) (hv : get? fr dj = some (.bool want))
    (x : OPc P r o fr h L (fun h' M v => OPS P r N D ops rest h' (M ++ L) ((d, v) :: fr) C)) : OPS P r N D ops (o :: rest) h L fr C :=
  OPS_gc hg hj hdj hv (dstOk_of hd hN) (by rw [hd]; exact x)
theorem S_gn {d j dj : Nat} {want : Bool} {oj : Oper} (hd : o.dst = some d) (hN : Nat.blt d N = true) (hg : o.guard = some (j, want)) (hj : ops[j]? = some oj) (hdj : oj.dst = some dj) (hv : get? fr dj = some (.bool (!want)))
    (x : OPS P r N D ops rest h L ((d, undef) :: fr) C) : OPS P r N D ops (o :: rest) h L fr C :=
  OPS_gn hg hj hdj hv (dstOk_of hd hN) (by rw [hd]; exact x)

variable {fuel n m m' : Nat}
variable {l : List Oper}
/-- 'operation i is o, and it has not come up': the goal, with o at hand. -/
def ANYo (P : Program) (r : Option Nat) (N : Nat) (D : List Nat) (l : List Oper) (fuel n m i : Nat) (o : Oper) (h : Frag) (L : Hp) (fr : Fr) (C : Frag → Hp → Fr → Prop) : Prop :=
  l.toArray[i]? = some o → ANY P r N D l.toArray fuel (lst n m) h L fr C
def nth : List Oper → Nat → Option Oper
  | [], _ => none
  | a :: _, 0 => some a
  | _ :: l, i + 1 => nth l i
theorem nth_eq : ∀ (l : List Oper) (i : Nat), nth l i = l[i]?
  | [], _ => by simp [nth]
  | a :: _, 0 => by simp [nth]
  | _ :: l, i + 1 => by simp [nth, nth_eq l i]
theorem A_at (i : Nat) (hb : m.testBit i = false) (hi : nth l i = some o) (x : ANYo P r N D l fuel n m i o h L fr C) : ANY P r N D l.toArray fuel (lst n m) h L fr C :=
  have _ := hb
  x (by rw [nth_eq] at hi; simpa using hi)
theorem A_q {v : Value} {d i : Nat} (hd : o.dst = some d) (hN : Nat.blt d N = true) (hg : o.guard = none) (q : QOP P o fr h L v) (hm : m ||| 2 ^ i = m') (hf : firstB l.toArray (lst n m) i = true)
    (x : ANY P r N D l.toArray fuel (lst n m') h L ((d, v) :: fr) C) : ANYo P r N D l (fuel + 1) n m i o h L fr C :=
  fun hi => ANY_q i hi hf hg (dstOk_of hd hN) q (by rw [hd, lst_set hm]; exact x)
theorem A_gq {v : Value} {d i j dj : Nat} {want : Bool} {oj : Oper} (hd : o.dst = some d) (hN : Nat.blt d N = true) (hg : o.guard = some (j, want)) (hj : nth l j = some oj) (hdj : oj.dst = some dj) (hv : get? fr dj = some (.bool want))
    (q : QOP P o fr h L v) (hm : m ||| 2 ^ i = m') (hf : firstB l.toArray (lst n m) i = true) (x : ANY P r N D l.toArray fuel (lst n m') h L ((d, v) :: fr) C) : ANYo P r N D l (fuel + 1) n m i o h L fr C :=
  fun hi => ANY_gq i hi hf hg (by rw [nth_eq] at hj; simpa using hj) hdj hv (dstOk_of hd hN) q (by rw [hd, lst_set hm]; exact x)
theorem A_gn {d i j dj : Nat} {want : Bool} {oj : Oper} (hd : o.dst = some d) (hN : Nat.blt d N = true) (hg : o.guard = some (j, want)) (hj : nth l j = some oj) (hdj : oj.dst = some dj) (hv : get? fr dj = some (.bool (!want)))
    (hm : m ||| 2 ^ i = m') (hf : firstB l.toArray (lst n m) i = true) (x : ANY P r N D l.toArray fuel (lst n m') h L ((d, undef) :: fr) C) : ANYo P r N D l (fuel + 1) n m i o h L fr C :=
  fun hi => ANY_gn i hi hf hg (by rw [nth_eq] at hj; simpa using hj) hdj hv (dstOk_of hd hN) (by rw [hd, lst_set hm]; exact x)
theorem A_c {d i : Nat} (hd : o.dst = some d) (hN : Nat.blt d N = true) (hg : o.guard = none) (hm : m ||| 2 ^ i = m') (hr : Region.ready .any l.toArray (lst n m) = [i])
    (x : OPc P r o fr h L (fun h' M v => ANY P r N D l.toArray fuel (lst n m') h' (M ++ L) ((d, v) :: fr) C)) : ANYo P r N D l (fuel + 1) n m i o h L fr C :=
  fun hi => ANY_one i hr (STEP_c hi hg (dstOk_of hd hN) (by rw [hd, lst_set hm]; exact x))
theorem A_gc {d i j dj : Nat} {want : Bool} {oj : Oper} (hd : o.dst = some d) (hN : Nat.blt d N = true) (hg : o.guard = some (j, want)) (hj : nth l j = some oj) (hdj : oj.dst = some dj) (hv : get? fr dj = some (.bool want)) (hm : m ||| 2 ^ i = m') (hr : Region.ready .any l.toArray (lst n m) = [i])
    (x : OPc P r o fr h L (fun h' M v => ANY P r N D l.toArray fuel (lst n m') h' (M ++ L) ((d, v) :: fr) C)) : ANYo P r N D l (fuel + 1) n m i o h L fr C :=
  fun hi => ANY_one i hr (STEP_gc hi hg (by rw [nth_eq] at hj; simpa using hj) hdj hv (dstOk_of hd hN) (by rw [hd, lst_set hm]; exact x))
theorem A_w {d i : Nat} (hd : o.dst = some d) (hN : Nat.blt d N = true) (hg : o.guard = none) (hc : calmOp o.op = false) (hm : m ||| 2 ^ i = m') (hr : Region.ready .any l.toArray (lst n m) = [i])
    (x : OPw P r o fr h L (fun h' L' v => ANY P r N D l.toArray fuel (lst n m') h' L' ((d, v) :: fr) C)) : ANYo P r N D l (fuel + 1) n m i o h L fr C :=
  fun hi => ANY_one i hr (STEP_w hi hg hc (dstOk_of hd hN) (by rw [hd, lst_set hm]; exact x))
theorem A_w0 {i : Nat} (hd : o.dst = none) (hg : o.guard = none) (hc : calmOp o.op = false) (hm : m ||| 2 ^ i = m') (hr : Region.ready .any l.toArray (lst n m) = [i])
    (x : OPw P r o fr h L (fun h' L' _ => ANY P r N D l.toArray fuel (lst n m') h' L' fr C)) : ANYo P r N D l (fuel + 1) n m i o h L fr C :=
  fun hi => ANY_one i hr (STEP_w hi hg hc (dstOk_none hd) (by rw [hd, lst_set hm]; exact x))
theorem A_done (hr : Region.ready .any l.toArray (lst n m) = []) (x : C h L fr) : ANY P r N D l.toArray fuel (lst n m) h L fr C := ANY_done hr x

/-! ### Loads, in two steps -/
def LG (P : Program) (h : Frag) (L : Hp) (b off : Nat) (t : TypeId) (K : Value → Prop) : Prop := ∃ v, (∀ w, Sees h L w → (loadVar t ⟨b, off, none⟩).run P w = .ok v w) ∧ K v
theorem Q_loadL {t : TypeId} {p : Operand} {b off : Nat} {v : Value} (hop : o.op = .load t p) (hp : ev fr p = some (ptr b off)) (x : ∀ w, Sees h L w → (loadVar t ⟨b, off, none⟩).run P w = .ok v w) : QOP P o fr h L v :=
  ⟨fun c => by rw [hop]; simp, fun a ha w hw => by
    unfold execOp; rw [hop]
    simp [ha p _ hp, Instr.loadAt, Instr.sureAddr, x w hw]⟩
theorem S_load {d b off : Nat} {t : TypeId} {p : Operand} (hop : o.op = .load t p) (hp : ev fr p = some (ptr b off)) (hd : o.dst = some d) (hN : Nat.blt d N = true) (hg : o.guard = none) (x : LG P h L b off t (fun v => OPS P r N D ops rest h L ((d, v) :: fr) C)) : OPS P r N D ops (o :: rest) h L fr C :=
  let ⟨_, q, k⟩ := x; S_q hd hN hg (Q_loadL hop hp q) k
theorem S_gload {d b off j dj : Nat} {want : Bool} {oj : Oper} {t : TypeId} {p : Operand} (hop : o.op = .load t p) (hp : ev fr p = some (ptr b off)) (hd : o.dst = some d) (hN : Nat.blt d N = true) (hg : o.guard = some (j, want)) (hj : ops[j]? = some oj) (hdj : oj.dst = some dj) (hv : get? fr dj = some (.bool want))
    (x : LG P h L b off t (fun v => OPS P r N D ops rest h L ((d, v) :: fr) C)) : OPS P r N D ops (o :: rest) h L fr C :=
  let ⟨_, q, k⟩ := x; S_gq hd hN hg hj hdj hv (Q_loadL hop hp q) k
theorem A_load {d i b off : Nat} {t : TypeId} {p : Operand} (hop : o.op = .load t p) (hp : ev fr p = some (ptr b off)) (hd : o.dst = some d) (hN : Nat.blt d N = true) (hg : o.guard = none) (hm : m ||| 2 ^ i = m') (hf : firstB l.toArray (lst n m) i = true)
    (x : LG P h L b off t (fun v => ANY P r N D l.toArray fuel (lst n m') h L ((d, v) :: fr) C)) : ANYo P r N D l (fuel + 1) n m i o h L fr C :=
  let ⟨_, q, k⟩ := x; A_q hd hN hg (Q_loadL hop hp q) hm hf k
theorem A_gload {d i j dj b off : Nat} {want : Bool} {oj : Oper} {t : TypeId} {p : Operand} (hop : o.op = .load t p) (hp : ev fr p = some (ptr b off)) (hd : o.dst = some d) (hN : Nat.blt d N = true) (hg : o.guard = some (j, want)) (hj : nth l j = some oj) (hdj : oj.dst = some dj) (hv : get? fr dj = some (.bool want)) (hm : m ||| 2 ^ i = m') (hf : firstB l.toArray (lst n m) i = true)
    (x : LG P h L b off t (fun v => ANY P r N D l.toArray fuel (lst n m') h L ((d, v) :: fr) C)) : ANYo P r N D l (fuel + 1) n m i o h L fr C :=
  let ⟨_, q, k⟩ := x; A_gq hd hN hg hj hdj hv (Q_loadL hop hp q) hm hf k
section
variable {b off k : Nat} {t : TypeId} {vs : List Value} {K : Value → Prop}
theorem L_agg (x : Rd h L b off vs) (ht : tyOf P t = some (true, k)) (hk : vs.length = k) (kk : K (.agg vs.toArray)) : LG P h L b off t K := ⟨_, fun _ hw => run_loadVar_agg ht hk x hw, kk⟩
theorem L_one {v : Value} (x : Rd h L b off [v]) (ht : tyOf P t = some (false, k)) (kk : K v) : LG P h L b off t K := ⟨_, fun _ hw => run_loadVar_one ht x hw, kk⟩
theorem L_fld {v : Value} {fo : Nat} (x : Rd h L b off vs) (ht : tyOf P t = some (false, k)) (hv : vs[fo]? = some v) (kk : K v) : LG P h L b (off + fo) t K := L_one (x.one fo hv) ht kk
theorem L_sub {fo : Nat} (x : Rd h L b off vs) (ht : tyOf P t = some (true, k)) (hk : ((vs.drop fo).take k).length = k) (kk : K (.agg ((vs.drop fo).take k).toArray)) : LG P h L b (off + fo) t K := L_agg (x.sub fo k) ht hk kk
end

/-! ### Ways out -/
theorem then_n {C' : Cont} (x : C' h L D fr) : thenQ C' Q .normal h L D fr := x
theorem then_r {C' : Cont} (x : Q .ret h L D fr) : thenQ C' Q .ret h L D fr := x
theorem then_e {C' : Cont} {id : Nat} (x : Q (.exit id) h L D fr) : thenQ C' Q (.exit id) h L D fr := x
theorem block_n {id : Nat} (x : Q .normal h L D fr) : blockQ id Q .normal h L D fr := x
theorem block_r {id : Nat} (x : Q .ret h L D fr) : blockQ id Q .ret h L D fr := x
theorem block_e {id : Nat} (x : Q .normal h L D fr) : blockQ id Q (.exit id) h L D fr := by simp only [blockQ, if_true]; exact x
theorem block_x {id k : Nat} (hne : Nat.beq k id = false) (x : Q (.exit k) h L D fr) : blockQ id Q (.exit k) h L D fr := by
  have : k ≠ id := fun e => by subst e; simp at hne
  simp only [blockQ, this, if_false]; exact x
theorem round_r {I : Nat → Cont} {n : Nat} (x : Q .ret h L D fr) : roundQ I n Q .ret h L D fr := x
theorem round_e {I : Nat → Cont} {n id : Nat} (x : Q (.exit id) h L D fr) : roundQ I n Q (.exit id) h L D fr := x
theorem round_n {I : Nat → Cont} {n : Nat} (m : Nat) (fr' : Fr) (hm : m < n) (i : I m h L D fr') (hs : FrSub fr' fr) : roundQ I n Q .normal h L D fr := ⟨m, hm, fr', hs, i⟩
theorem cond_t {c : Operand} {x y : Code} (hc : ev fr c = some (.bool true)) (k : WP P r N x h L D fr Q) : WP P r N (.cond c x y) h L D fr Q := WP_cond hc (fun _ => k) (fun e => by cases e)
theorem cond_f {c : Operand} {x y : Code} (hc : ev fr c = some (.bool false)) (k : WP P r N y h L D fr Q) : WP P r N (.cond c x y) h L D fr Q := WP_cond hc (fun e => by cases e) (fun _ => k)

theorem ret_q {fn : Func} {R : OCont} {e : Exit} {rs : List ResultVar} {vs : List Value} (L2 : Hp) (he : e = .ret ∨ e = .normal) (hrs : fn.results.toList = rs) (hr : resVals P h L fr rs vs) (hs : List.Sublist L2 L) (x : R h L2 (resOf vs)) : retQ P fn R e h L [] fr :=
  ⟨he, rfl, vs, by rw [hrs]; exact hr, fun _ hw => ⟨h, L2, (Ext.refl hw).drop hs, x⟩⟩
theorem spec_of {f : FuncId} {fn : Func} {c : Code} {vs : List Value} {args : Array Value} {R : OCont} (hf : P.funcs[f]? = some fn) (hn : fn.ntmps = N) (hb : fn.body = some c) (ha : args = vs.toArray) (hN : Nat.ble vs.length N = true)
    (x : WP P none N c h L [] (argFr vs 0) (retQ P fn R)) : FSpec P f args h L R := by
  subst hn; subst ha; exact FSpec_of hf hb hN x
end
end Go.Mesh
