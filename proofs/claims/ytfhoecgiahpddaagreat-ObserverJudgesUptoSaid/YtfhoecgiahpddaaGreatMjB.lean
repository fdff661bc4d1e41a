/-
  Part B of the proof's ground: Short, Fa, Fb, Fc, Fd, Obs, Fe, Ff, Ea, Ga, Fg.
-/
import Derived.Test.YtfhoecgiahpddaaGreatMjA
/-
  SHORT WORDS for the walks' commonest steps (merged texts use them; a claim has a limit of letters).
-/
set_option linter.all false
namespace Go.Mesh
open Go.RowKit Go.Proofs.YtfhoecgiahpddaaGreat
set_option linter.unusedVariables false
set_option maxRecDepth 100000
section
variable {P : Program} {r : Option Nat} {N : Nat} {h : Frag} {L : Hp} {D : List Nat} {fr : Fr} {o : Oper} {ops : Array Oper} {rest : List Oper} {C : Frag → Hp → Fr → Prop} {Q : Post}
/-- what a move or an assignment does -/
def mvC (o : Oper) (fr : Fr) (N : Nat) : Option (Nat × Value) := match o.op, o.dst, o.guard with
  | .move x, some d, none => match Nat.blt d N, ev fr x with
    | true, some v => some (d, v)
    | _, _ => none
  | .assign x, some d, none => match Nat.blt d N, ev fr x with
    | true, some v => some (d, v)
    | _, _ => none
  | _, _, _ => none
theorem Sm {d : Nat} {v : Value} (hm : mvC o fr N = some (d, v)) (x : OPS P r N D ops rest h L ((d, v) :: fr) C) : OPS P r N D ops (o :: rest) h L fr C := by
  unfold mvC at hm
  split at hm
  · rename_i y d' hop hd hg
    split at hm
    · rename_i v' hN hv
      cases hm
      exact S_q hd hN hg (Q_move hop hv) x
    · cases hm
  · rename_i y d' hop hd hg
    split at hm
    · rename_i v' hN hv
      cases hm
      exact S_q hd hN hg (Q_assign hop hv) x
    · cases hm
  · cases hm
/-- an operation that its guard leaves out -/
def gnC (o : Oper) (ops : Array Oper) (fr : Fr) (N : Nat) : Option Nat := match o.dst, o.guard with
  | some d, some (j, want) => match Nat.blt d N, ops[j]? with
    | true, some oj => match oj.dst with
      | some dj => match get? fr dj, want with
        | some (.bool true), false => some d
        | some (.bool false), true => some d
        | _, _ => none
      | none => none
    | _, _ => none
  | _, _ => none
theorem Sn {d : Nat} (hm : gnC o ops fr N = some d) (x : OPS P r N D ops rest h L ((d, undef) :: fr) C) : OPS P r N D ops (o :: rest) h L fr C := by
  unfold gnC at hm
  split at hm
  · rename_i d' j want hd hg
    split at hm
    · rename_i oj hN hj
      split at hm
      · rename_i dj hdj
        split at hm
        · rename_i hv
          cases hm
          exact S_gn hd hN hg hj hdj hv x
        · rename_i hv
          cases hm
          exact S_gn hd hN hg hj hdj hv x
        · cases hm
      · cases hm
    · cases hm
  · cases hm
theorem Sf {d b off s f ft fo : Nat} {p : Operand} (hop : o.op = .fieldAddr s p f) (hp : ev fr p = some (ptr b off)) (hd : o.dst = some d) (hN : Nat.blt d N = true) (hg : o.guard = none) (hf : fieldOf P s f = some (ft, fo)) (x : OPS P r N D ops rest h L ((d, ptr b (off + fo)) :: fr) C) : OPS P r N D ops (o :: rest) h L fr C :=
  S_q hd hN hg (Q_fieldAddr hop hp hf) x
theorem Sc {d : Nat} {op : BinOp} {t u : TypeId} {x y : Operand} {k : IntKind} {m n : Int} {v : Value} (hd : o.dst = some d) (hN : Nat.blt d N = true) (hg : o.guard = none) (hop : o.op = .binOp op t x y u) (hx : ev fr x = some (.int k m)) (hy : ev fr y = some (.int k n)) (hv : cmpV op m n = some v)
    (z : OPS P r N D ops rest h L ((d, v) :: fr) C) : OPS P r N D ops (o :: rest) h L fr C :=
  S_q hd hN hg (Q_cmp hop hx hy hv) z
theorem Wr {id : Nat} {l : List Oper} {y : Code} (x : OPS P r N D l.toArray l h L fr (fun h' L' fr' => thenQ (fun h' L' D' fr' => WP P r N y h' L' D' fr' Q) Q .normal h' L' D fr')) : WP P r N (.seq (.region id l.toArray false) y) h L D fr Q := WP_seq (R_region x)
theorem On {C' : Cont} (x : C' h L D fr) : OPS P r N D ops [] h L fr (fun h' L' fr' => thenQ C' Q .normal h' L' D fr') := OPS_nil x

/-! words with nothing left to say -/
theorem Wc {c : Operand} {x y : Code} {t : Bool} (ht : t = true → WP P r N x h L D fr Q) (hf : t = false → WP P r N y h L D fr Q) (hc : ev fr c = some (.bool t) := by exact rfl) : WP P r N (.cond c x y) h L D fr Q := WP_cond hc ht hf
theorem Ugs {j dj : Nat} {want b : Bool} {oj : Oper} (t : b = true → OPS P r N D ops (o :: rest) h L ((dj, .bool true) :: fr) C) (f : b = false → OPS P r N D ops (o :: rest) h L ((dj, .bool false) :: fr) C) (hg : o.guard = some (j, want) := by exact rfl) (hj : ops[j]? = some oj := by exact rfl) (hdj : oj.dst = some dj := by exact rfl) (hv : get? fr dj = some (.bool b) := by exact rfl) : OPS P r N D ops (o :: rest) h L fr C := S_gsplit hg hj hdj hv t f
theorem Vgs {l : List Oper} {fuel n m i j dj : Nat} {want b : Bool} {oj : Oper} (t : b = true → ANY P r N D l.toArray fuel (lst n m) h L ((dj, .bool true) :: fr) C) (f : b = false → ANY P r N D l.toArray fuel (lst n m) h L ((dj, .bool false) :: fr) C) (hg : o.guard = some (j, want) := by exact rfl) (hj : nth l j = some oj := by exact rfl) (hdj : oj.dst = some dj := by exact rfl) (hv : get? fr dj = some (.bool b) := by exact rfl) : ANYo P r N D l fuel n m i o h L fr C := A_gsplit hg hj hdj hv t f
theorem Tm {d : Nat} {v : Value} (x : OPS P r N D ops rest h L ((d, v) :: fr) C) (hm : mvC o fr N = some (d, v) := by exact rfl) : OPS P r N D ops (o :: rest) h L fr C := Sm hm x
theorem Tn {d : Nat} (x : OPS P r N D ops rest h L ((d, undef) :: fr) C) (hm : gnC o ops fr N = some d := by exact rfl) : OPS P r N D ops (o :: rest) h L fr C := Sn hm x
theorem Tf {d b off s f ft fo : Nat} {p : Operand} {l : List (Option (Nat × Nat))} (x : OPS Proofs.Tryz.prog r N D ops rest h L ((d, ptr b (off + fo)) :: fr) C) (hop : o.op = .fieldAddr s p f := by exact rfl) (hp : ev fr p = some (ptr b off) := by exact rfl) (hd : o.dst = some d := by exact rfl) (hN : Nat.blt d N = true := by exact rfl) (hg : o.guard = none := by exact rfl) (h1 : nthT flTab s = some l := by exact rfl) (h2 : nthT l f = some (some (ft, fo)) := by exact rfl) : OPS Proofs.Tryz.prog r N D ops (o :: rest) h L fr C :=
  S_q hd hN hg (Q_fieldAddr hop hp (fld h1 h2)) x
theorem Tc {d : Nat} {op : BinOp} {t u : TypeId} {x y : Operand} {k : IntKind} {m n : Int} {v : Value} (z : OPS P r N D ops rest h L ((d, v) :: fr) C) (hd : o.dst = some d := by exact rfl) (hN : Nat.blt d N = true := by exact rfl) (hg : o.guard = none := by exact rfl) (hop : o.op = .binOp op t x y u := by exact rfl) (hx : ev fr x = some (.int k m) := by exact rfl) (hy : ev fr y = some (.int k n) := by exact rfl) (hv : cmpV op m n = some v := by exact rfl) : OPS P r N D ops (o :: rest) h L fr C :=
  S_q hd hN hg (Q_cmp hop hx hy hv) z
theorem Tl {d b off : Nat} {t : TypeId} {p : Operand} (x : LG P h L b off t (fun v => OPS P r N D ops rest h L ((d, v) :: fr) C)) (hop : o.op = .load t p := by exact rfl) (hp : ev fr p = some (ptr b off) := by exact rfl) (hd : o.dst = some d := by exact rfl) (hN : Nat.blt d N = true := by exact rfl) (hg : o.guard = none := by exact rfl) : OPS P r N D ops (o :: rest) h L fr C := S_load hop hp hd hN hg x
theorem Ugl {d b off j dj : Nat} {want : Bool} {oj : Oper} {t : TypeId} {p : Operand} (x : LG P h L b off t (fun v => OPS P r N D ops rest h L ((d, v) :: fr) C)) (hop : o.op = .load t p := by exact rfl) (hp : ev fr p = some (ptr b off) := by exact rfl) (hd : o.dst = some d := by exact rfl) (hN : Nat.blt d N = true := by exact rfl) (hg : o.guard = some (j, want) := by exact rfl) (hj : ops[j]? = some oj := by exact rfl) (hdj : oj.dst = some dj := by exact rfl) (hv : get? fr dj = some (.bool want) := by exact rfl) : OPS P r N D ops (o :: rest) h L fr C := S_gload hop hp hd hN hg hj hdj hv x
theorem Ta {d : Nat} {t u : TypeId} {x y : Operand} {m n : Int} (z : OPS P r N D ops rest h L ((d, .int .i64 (m + n)) :: fr) C) (hd : o.dst = some d := by exact rfl) (hN : Nat.blt d N = true := by exact rfl) (hg : o.guard = none := by exact rfl) (hop : o.op = .binOp .add t x y u := by exact rfl) (hx : ev fr x = some (.int .i64 m) := by exact rfl) (hy : ev fr y = some (.int .i64 n) := by exact rfl) (hv : -9223372036854775808 ≤ m + n ∧ m + n ≤ 9223372036854775807 := by omega) : OPS P r N D ops (o :: rest) h L fr C := S_q hd hN hg (Q_add hop hx hy hv) z
theorem Tp0 {d : Nat} {c x y : Operand} {v : Value} (z : OPS P r N D ops rest h L ((d, v) :: fr) C) (hd : o.dst = some d := by exact rfl) (hN : Nat.blt d N = true := by exact rfl) (hg : o.guard = none := by exact rfl) (hop : o.op = .pick c x y := by exact rfl) (hc : ev fr c = some (.bool false) := by exact rfl) (hx : ev fr y = some v := by exact rfl) : OPS P r N D ops (o :: rest) h L fr C := S_q hd hN hg (Q_pick_f hop hc hx) z
theorem Tp1 {d : Nat} {c x y : Operand} {v : Value} (z : OPS P r N D ops rest h L ((d, v) :: fr) C) (hd : o.dst = some d := by exact rfl) (hN : Nat.blt d N = true := by exact rfl) (hg : o.guard = none := by exact rfl) (hop : o.op = .pick c x y := by exact rfl) (hc : ev fr c = some (.bool true) := by exact rfl) (hx : ev fr x = some v := by exact rfl) : OPS P r N D ops (o :: rest) h L fr C := S_q hd hN hg (Q_pick_t hop hc hx) z
theorem Tx {d i : Nat} {x : Operand} {vs : Array Value} {v : Value} (z : OPS P r N D ops rest h L ((d, v) :: fr) C) (hd : o.dst = some d := by exact rfl) (hN : Nat.blt d N = true := by exact rfl) (hg : o.guard = none := by exact rfl) (hop : o.op = .extract x i := by exact rfl) (hx : ev fr x = some (.tuple vs) := by exact rfl) (hv : vs[i]? = some v := by exact rfl) : OPS P r N D ops (o :: rest) h L fr C := S_q hd hN hg (Q_extract hop hx hv) z
theorem Tlen {d : Nat} {c : Call} {x : Operand} {t e : TypeId} {p : Option Addr} {n cap : Nat} (z : OPS P r N D ops rest h L ((d, .int .i64 (n : Int)) :: fr) C) (hd : o.dst = some d := by exact rfl) (hN : Nat.blt d N = true := by exact rfl) (hg : o.guard = none := by exact rfl) (hop : o.op = .call c := by exact rfl) (hc : c.callee = .builtin .len := by exact rfl) (ha : c.args = #[x] := by exact rfl) (hat : c.argTypes = #[t] := by exact rfl) (hx : ev fr x = some (.slice p n cap) := by exact rfl) (ht : P.underlying t = some (.slice e) := by exact rfl) : OPS P r N D ops (o :: rest) h L fr C := S_q hd hN hg (Q_len hop hc ha hat hx ht) z
theorem Ugm {d j dj : Nat} {want : Bool} {oj : Oper} {x : Operand} {v : Value} (z : OPS P r N D ops rest h L ((d, v) :: fr) C) (hd : o.dst = some d := by exact rfl) (hN : Nat.blt d N = true := by exact rfl) (hg : o.guard = some (j, want) := by exact rfl) (hj : ops[j]? = some oj := by exact rfl) (hdj : oj.dst = some dj := by exact rfl) (hv : get? fr dj = some (.bool want) := by exact rfl) (hop : o.op = .move x := by exact rfl) (hx : ev fr x = some v := by exact rfl) : OPS P r N D ops (o :: rest) h L fr C := S_gq hd hN hg hj hdj hv (Q_move hop hx) z
theorem Ugc {d j dj : Nat} {want : Bool} {oj : Oper} {op : BinOp} {t u : TypeId} {x y : Operand} {k : IntKind} {m n : Int} {v : Value} (z : OPS P r N D ops rest h L ((d, v) :: fr) C) (hd : o.dst = some d := by exact rfl) (hN : Nat.blt d N = true := by exact rfl) (hg : o.guard = some (j, want) := by exact rfl) (hj : ops[j]? = some oj := by exact rfl) (hdj : oj.dst = some dj := by exact rfl) (hv : get? fr dj = some (.bool want) := by exact rfl) (hop : o.op = .binOp op t x y u := by exact rfl) (hx : ev fr x = some (.int k m) := by exact rfl) (hy : ev fr y = some (.int k n) := by exact rfl) (hw : cmpV op m n = some v := by exact rfl) : OPS P r N D ops (o :: rest) h L fr C := S_gq hd hN hg hj hdj hv (Q_cmp hop hx hy hw) z
theorem Ugf {d j dj b off s f ft fo : Nat} {want : Bool} {oj : Oper} {p : Operand} {l : List (Option (Nat × Nat))} (z : OPS Proofs.Tryz.prog r N D ops rest h L ((d, ptr b (off + fo)) :: fr) C) (hd : o.dst = some d := by exact rfl) (hN : Nat.blt d N = true := by exact rfl) (hg : o.guard = some (j, want) := by exact rfl) (hj : ops[j]? = some oj := by exact rfl) (hdj : oj.dst = some dj := by exact rfl) (hv : get? fr dj = some (.bool want) := by exact rfl) (hop : o.op = .fieldAddr s p f := by exact rfl) (hp : ev fr p = some (ptr b off) := by exact rfl) (h1 : nthT flTab s = some l := by exact rfl) (h2 : nthT l f = some (some (ft, fo)) := by exact rfl) : OPS Proofs.Tryz.prog r N D ops (o :: rest) h L fr C := S_gq hd hN hg hj hdj hv (Q_fieldAddr hop hp (fld h1 h2)) z
theorem Tal {d : Nat} {t : TypeId} {l : List Value} (k : ∀ b, OPS Proofs.Tryz.prog r N D ops rest h ([(b, cells l t)] ++ L) ((d, ptr b 0) :: fr) C) (hd : o.dst = some d := by exact rfl) (hN : Nat.blt d N = true := by exact rfl) (hg : o.guard = none := by exact rfl) (hop : o.op = .alloc t := by exact rfl) (hz : nthT zrTab t = some (some l) := by exact rfl) : OPS Proofs.Tryz.prog r N D ops (o :: rest) h L fr C := S_c hd hN hg (C_alloc hop (zer hz) k)
theorem Tbx {d : Nat} {t : TypeId} {x : Operand} {l : List Value} (k : ∀ b, OPS P r N D ops rest h ([(b, cells l t)] ++ L) ((d, ptr b 0) :: fr) C) (hd : o.dst = some d := by exact rfl) (hN : Nat.blt d N = true := by exact rfl) (hg : o.guard = none := by exact rfl) (hop : o.op = .box t x := by exact rfl) (hx : ev fr x = some (.agg l.toArray) := by exact rfl) : OPS P r N D ops (o :: rest) h L fr C := S_c hd hN hg (C_box hop hx k)
theorem Ti {α : Type} {Ce : CR α} {B j k d t e by_ : Nat} {v : Value} {xs : List α} {x : α} {sl ix : Operand} {q : IntKind} {i : Int} (z : OPS Proofs.Tryz.prog r N D ops rest h L ((d, ptr (blk v) (ofs v + j * k)) :: fr) C) (hd : o.dst = some d := by exact rfl) (hN : Nat.blt d N = true := by exact rfl) (hg : o.guard = none := by exact rfl) (hop : o.op = .indexAddr t sl ix := by exact rfl) (hs : ev fr sl = some v := by exact rfl) (hi : ev fr ix = some (.int q i) := by exact rfl) (he : nthT elTab t = some (some (e, k, by_)) := by exact rfl) (hj : i = (j : Int) := by exact rfl) (s : SLB B h k Ce v xs := by assumption) (hx : xs[j]? = some x := by assumption) : OPS Proofs.Tryz.prog r N D ops (o :: rest) h L fr C := S_q hd hN hg (Q_indexS s hx hop hs hi (elm he) hj) z
theorem Tw {t : TypeId} {p x : Operand} {b k : Nat} {l vs : List Value} {bt : TypeId} {L' : Hp} (hu : Upd b (cells l bt) (cells vs bt) L L') (kk : OPS Proofs.Tryz.prog r N D ops rest h L' fr C) (hd : o.dst = none := by exact rfl) (hg : o.guard = none := by exact rfl) (hop : o.op = .store t p x := by exact rfl) (hp : ev fr p = some (ptr b 0) := by exact rfl) (hx : ev fr x = some (.agg vs.toArray) := by exact rfl) (ht : nthT tyTab t = some (true, k) := by exact rfl) (hk : vs.length = k := by first | rfl | assumption) (hl : l.length = k := by first | rfl | assumption) (h1 : ones vs = true := by first | rfl | assumption | exact ones_sub (by assumption) _ _) : OPS Proofs.Tryz.prog r N D ops (o :: rest) h L fr C := S_w0 hd hg (W_all hop hp hx (ty ht) hu hk hl h1 kk)
section
variable {l : List Oper} {fuel n m i : Nat}
theorem Va (i : Nat) (x : ANYo P r N D l fuel n m i o h L fr C) (hb : m.testBit i = false := by exact rfl) (hi : nth l i = some o := by exact rfl) : ANY P r N D l.toArray fuel (lst n m) h L fr C := A_at i hb hi x
theorem Vm {v : Value} {d : Nat} {y : Operand} (m' : Nat) (x : ANY P r N D l.toArray fuel (lst n m') h L ((d, v) :: fr) C) (hd : o.dst = some d := by exact rfl) (hN : Nat.blt d N = true := by exact rfl) (hg : o.guard = none := by exact rfl) (hop : o.op = .move y := by exact rfl) (hy : ev fr y = some v := by exact rfl) (hm : m ||| 2 ^ i = m' := by exact rfl) (hf : firstB l.toArray (lst n m) i = true := by first | exact fbL (by decide +kernel) | decide +kernel) : ANYo P r N D l (fuel + 1) n m i o h L fr C := A_q hd hN hg (Q_move hop hy) hm hf x
theorem Vs {v : Value} {d : Nat} {y : Operand} (m' : Nat) (x : ANY P r N D l.toArray fuel (lst n m') h L ((d, v) :: fr) C) (hd : o.dst = some d := by exact rfl) (hN : Nat.blt d N = true := by exact rfl) (hg : o.guard = none := by exact rfl) (hop : o.op = .assign y := by exact rfl) (hy : ev fr y = some v := by exact rfl) (hm : m ||| 2 ^ i = m' := by exact rfl) (hf : firstB l.toArray (lst n m) i = true := by first | exact fbL (by decide +kernel) | decide +kernel) : ANYo P r N D l (fuel + 1) n m i o h L fr C := A_q hd hN hg (Q_assign hop hy) hm hf x
theorem Vf {d b off s f ft fo : Nat} {p : Operand} {k : List (Option (Nat × Nat))} (m' : Nat) (x : ANY Proofs.Tryz.prog r N D l.toArray fuel (lst n m') h L ((d, ptr b (off + fo)) :: fr) C) (hd : o.dst = some d := by exact rfl) (hN : Nat.blt d N = true := by exact rfl) (hg : o.guard = none := by exact rfl) (hop : o.op = .fieldAddr s p f := by exact rfl) (hp : ev fr p = some (ptr b off) := by exact rfl) (h1 : nthT flTab s = some k := by exact rfl) (h2 : nthT k f = some (some (ft, fo)) := by exact rfl) (hm : m ||| 2 ^ i = m' := by exact rfl) (hf : firstB l.toArray (lst n m) i = true := by first | exact fbL (by decide +kernel) | decide +kernel) : ANYo Proofs.Tryz.prog r N D l (fuel + 1) n m i o h L fr C := A_q hd hN hg (Q_fieldAddr hop hp (fld h1 h2)) hm hf x
theorem Vn {d j dj : Nat} {want : Bool} {oj : Oper} (m' : Nat) (x : ANY P r N D l.toArray fuel (lst n m') h L ((d, undef) :: fr) C) (hd : o.dst = some d := by exact rfl) (hN : Nat.blt d N = true := by exact rfl) (hg : o.guard = some (j, want) := by exact rfl) (hj : nth l j = some oj := by exact rfl) (hdj : oj.dst = some dj := by exact rfl) (hv : get? fr dj = some (.bool (!want)) := by exact rfl) (hm : m ||| 2 ^ i = m' := by exact rfl) (hf : firstB l.toArray (lst n m) i = true := by first | exact fbL (by decide +kernel) | decide +kernel) : ANYo P r N D l (fuel + 1) n m i o h L fr C := A_gn hd hN hg hj hdj hv hm hf x
theorem Vu {d j dj : Nat} {want : Bool} {oj : Oper} (m' : Nat) (x : ANY P r N D l.toArray fuel (lst n m') h L ((d, undef) :: fr) C) (hd : o.dst = some d := by exact rfl) (hN : Nat.blt d N = true := by exact rfl) (hg : o.guard = some (j, want) := by exact rfl) (hj : nth l j = some oj := by exact rfl) (hdj : oj.dst = some dj := by exact rfl) (hv : get? fr dj = some undef := by exact rfl) (hm : m ||| 2 ^ i = m' := by exact rfl) (hf : firstB l.toArray (lst n m) i = true := by first | exact fbL (by decide +kernel) | decide +kernel) : ANYo P r N D l (fuel + 1) n m i o h L fr C := A_gu hd hN hg hj hdj hv hm hf x
theorem Vl {d b off : Nat} {t : TypeId} {p : Operand} (m' : Nat) (x : LG P h L b off t (fun v => ANY P r N D l.toArray fuel (lst n m') h L ((d, v) :: fr) C)) (hop : o.op = .load t p := by exact rfl) (hp : ev fr p = some (ptr b off) := by exact rfl) (hd : o.dst = some d := by exact rfl) (hN : Nat.blt d N = true := by exact rfl) (hg : o.guard = none := by exact rfl) (hm : m ||| 2 ^ i = m' := by exact rfl) (hf : firstB l.toArray (lst n m) i = true := by first | exact fbL (by decide +kernel) | decide +kernel) : ANYo P r N D l (fuel + 1) n m i o h L fr C := A_load hop hp hd hN hg hm hf x
theorem Vgl {d j dj b off : Nat} {want : Bool} {oj : Oper} {t : TypeId} {p : Operand} (m' : Nat) (x : LG P h L b off t (fun v => ANY P r N D l.toArray fuel (lst n m') h L ((d, v) :: fr) C)) (hop : o.op = .load t p := by exact rfl) (hp : ev fr p = some (ptr b off) := by exact rfl) (hd : o.dst = some d := by exact rfl) (hN : Nat.blt d N = true := by exact rfl) (hg : o.guard = some (j, want) := by exact rfl) (hj : nth l j = some oj := by exact rfl) (hdj : oj.dst = some dj := by exact rfl) (hv : get? fr dj = some (.bool want) := by exact rfl) (hm : m ||| 2 ^ i = m' := by exact rfl) (hf : firstB l.toArray (lst n m) i = true := by first | exact fbL (by decide +kernel) | decide +kernel) : ANYo P r N D l (fuel + 1) n m i o h L fr C := A_gload hop hp hd hN hg hj hdj hv hm hf x
theorem Vgm {d j dj : Nat} {want : Bool} {oj : Oper} {y : Operand} {v : Value} (m' : Nat) (x : ANY P r N D l.toArray fuel (lst n m') h L ((d, v) :: fr) C) (hd : o.dst = some d := by exact rfl) (hN : Nat.blt d N = true := by exact rfl) (hg : o.guard = some (j, want) := by exact rfl) (hj : nth l j = some oj := by exact rfl) (hdj : oj.dst = some dj := by exact rfl) (hv : get? fr dj = some (.bool want) := by exact rfl) (hop : o.op = .move y := by exact rfl) (hy : ev fr y = some v := by exact rfl) (hm : m ||| 2 ^ i = m' := by exact rfl) (hf : firstB l.toArray (lst n m) i = true := by first | exact fbL (by decide +kernel) | decide +kernel) : ANYo P r N D l (fuel + 1) n m i o h L fr C := A_gq hd hN hg hj hdj hv (Q_move hop hy) hm hf x
end
section
variable {b off k : Nat} {t : TypeId} {vs : List Value} {K : Value → Prop}
theorem Lo {v : Value} {fo : Nat} {u : TypeId} (x : (b, cells vs u) ∈ L) (kk : K v) (ht : nthT tyTab t = some (false, k) := by exact rfl) (hv : vs[fo]? = some v := by exact rfl) : LG Proofs.Tryz.prog h L b (0 + fo) t K := L_fld (Rd.own x) (ty ht) hv kk
theorem Lg {u : TypeId} (x : (b, cells vs u) ∈ L) (kk : K (.agg vs.toArray)) (ht : nthT tyTab t = some (true, k) := by exact rfl) (hk : vs.length = k := by first | rfl | assumption) : LG Proofs.Tryz.prog h L b 0 t K := L_agg (Rd.own x) (ty ht) hk kk
theorem Lp (kk : K (.agg vs.toArray)) (ht : nthT tyTab t = some (true, k) := by exact rfl) (x : At h b off vs := by assumption) (hk : vs.length = k := by first | rfl | assumption) : LG Proofs.Tryz.prog h L b off t K := L_agg (Rd.pers x) (ty ht) hk kk
theorem Le {α : Type} {Ce : CR α} {B j : Nat} {v : Value} {xs : List α} {x : α} (kk : ∀ vs, vs.length = k → ones vs = true → Ce h x vs → K (.agg vs.toArray)) (ht : nthT tyTab t = some (true, k) := by exact rfl) (s : SLB B h k Ce v xs := by assumption) (hx : xs[j]? = some x := by assumption) : LG Proofs.Tryz.prog h L (blk v) (ofs v + j * k) t K := L_elA s hx (ty ht) kk
end
end
theorem sR {α : Type} (l : List α) : List.Sublist l l := List.Sublist.refl l
theorem sA {α : Type} (a b : List α) : List.Sublist a (a ++ b) := List.sublist_append_left a b
theorem sN {α : Type} (a : List α) : List.Sublist [] a := List.nil_sublist a
theorem s2 {α : Type} {a b : List α} (x : α) (h : List.Sublist a b) : List.Sublist (x :: a) (x :: b) := List.Sublist.cons₂ x h
theorem s1 {α : Type} {a b : List α} (x : α) (h : List.Sublist a b) : List.Sublist a (x :: b) := List.Sublist.cons x h
theorem lA {α : Type} : (∀ a b : List α, (a ++ b).length = a.length + b.length) ∧ (∀ (x : α) (l : List α), (x :: l).length = l.length + 1) ∧ ([] : List α).length = 0 := ⟨fun _ _ => List.length_append, fun _ _ => rfl, rfl⟩
end Go.Mesh
/-
  CONTRACTS: comparisons of numbers and identities.
-/
set_option linter.all false
namespace Go.Proofs.YtfhoecgiahpddaaGreat
open Go.Mesh Go.RowKit
set_option maxRecDepth 100000
set_option linter.unusedVariables false
set_option maxHeartbeats 4000000
attribute [local irreducible] WP OPS ANY ANYo LG LV FSpec PSpec QOP OPc OPw thenQ blockQ roundQ roundF retQ retM Rd At SLB OS 
theorem isNaN_s (h : Frag) (a : Int) : PSpec Tryz.prog 149 #[.int .i64 a] h (fun _ v => v = .bool false) := by
  refine pspec_of (vs := [.int .i64 a]) Tryz.func149 Tryz.ntmps149 rfl rfl ?_
  (focus (refine Wr ?_; refine Tm ?_; refine On ?_; refine Wr ?_; refine Tm ?_; refine Tm ?_; refine Tc ?_; refine Tm ?_; refine On ?_; refine WP_ret ?_))
  exact pret (.inl rfl) rfl ⟨_, _, rfl, rfl, rfl⟩ (by simp [resOf])
def cmpI (a b : Int) : Int := if a < b then -1 else if b < a then 1 else 0
theorem cmpI_s (h : Frag) (a b : Int) : PSpec Tryz.prog 123 #[.int .i64 a, .int .i64 b] h (fun _ v => v = .int .i64 (cmpI a b)) := by
  refine pspec_of (vs := [.int .i64 a, .int .i64 b]) Tryz.func123 Tryz.ntmps123 rfl rfl ?_
  (focus (refine Wr ?_; refine Tm ?_; refine On ?_; refine Wr ?_; refine Tm ?_; refine S_c rfl rfl rfl (C_callv (isNaN_s _ _) rfl rfl ⟨_, _, rfl, rfl, rfl⟩ (cal rfl) ?_); refine Tm ?_; refine On ?_; refine Wr ?_; refine Tm ?_; refine S_c rfl rfl rfl (C_callv (isNaN_s _ _) rfl rfl ⟨_, _, rfl, rfl, rfl⟩ (cal rfl) ?_); refine Tm ?_; refine On ?_; refine WP_seq ?_; refine Wr ?_; refine Tm ?_; refine On ?_; refine cond_f rfl ?_; refine WP_skip ?_; refine then_n ?_; refine WP_seq ?_; refine Wr ?_; refine Tm ?_; refine On ?_; refine cond_f rfl ?_; refine WP_skip ?_; refine then_n ?_; refine WP_seq ?_; refine Wr ?_; refine Tm ?_; refine Tm ?_; refine Tc ?_; refine On ?_; refine WP_cond rfl (fun c2_1 => ?_) (fun c2_1 => ?_) <;> (try simp at c2_1); (focus (refine Wr ?_; refine Tm ?_; refine On ?_; refine WP_ret ?_; refine then_r ?_)); rotate_left 1; (focus (refine WP_skip ?_; refine then_n ?_; refine WP_seq ?_; refine Wr ?_; refine Tm ?_; refine Tm ?_; refine Tc ?_; refine On ?_; refine WP_cond rfl (fun c2_2 => ?_) (fun c2_2 => ?_) <;> (try simp at c2_2); (focus (refine Wr ?_; refine Tm ?_; refine On ?_; refine WP_ret ?_; refine then_r ?_)); rotate_left 1; (focus (refine WP_skip ?_; refine then_n ?_; refine Wr ?_; refine Tm ?_; refine On ?_; refine WP_ret ?_)); rotate_left 1)); rotate_left 2))
  all_goals refine pret (.inl rfl) rfl ⟨_, _, rfl, rfl, rfl⟩ ?_
  all_goals (simp [resOf, cmpI]; omega)
def orI : List Int → Int
  | [] => 0
  | x :: xs => if x ≠ 0 then x else orI xs
theorem drop_get {α : Type} {xs : List α} {k : Nat} {x : α} (hx : xs[k]? = some x) : xs.drop k = x :: xs.drop (k + 1) := by
  obtain ⟨h1, h2⟩ := List.getElem?_eq_some_iff.1 hx
  rw [List.drop_eq_getElem_cons h1, h2]
theorem get_of {α : Type} {xs : List α} {k : Nat} (h : k < xs.length) : ∃ x, xs[k]? = some x := ⟨xs[k], by simp [h]⟩
theorem lt_of_get {α : Type} {xs : List α} {k : Nat} {x : α} (hx : xs[k]? = some x) : k < xs.length := (List.getElem?_eq_some_iff.1 hx).1
attribute [local irreducible] cmpI orI
theorem or_s {h : Frag} {l : Value} {xs : List Int} (hs : SL h 1 IntC l xs) : PSpec Tryz.prog 122 #[l] h (fun _ v => v = .int .i64 (orI xs)) := by
  have hl := hs.le
  refine pspec_of (vs := [l]) Tryz.func122 Tryz.ntmps122 rfl rfl ?_
  (focus (refine Wr ?_; refine Tm ?_; refine On ?_; refine Wr ?_; refine Tm ?_; refine On ?_; refine WP_seq ?_; refine Wr ?_; refine Tm ?_; refine S_q rfl rfl rfl (Q_lenS rfl rfl rfl rfl rfl rfl ‹_›) ?_; refine Tm ?_; refine On ?_; refine WP_block ?_))
  (refine WP_loopC (α := Nat) [7, 6, 3] (fun (k : Nat) => xs.length - k) (fun (k : Nat) => [(8, .int .i64 k)]) (fun hh (k : Nat) => hh = h ∧ k ≤ xs.length ∧ orI (xs.drop k) = orI xs) 0 ⟨_, _, rfl, ⟨_, _, rfl, ⟨_, _, rfl, rfl, rfl⟩, rfl⟩, rfl⟩ (by repeat' first | exact trivial | refine ⟨rfl, ?_⟩) ?_ ?_)
  · exact ⟨rfl, Nat.zero_le _, rfl⟩
  rintro h1 k _ ⟨rfl, hk, hor⟩
  by_cases hlt : k < xs.length
  · obtain ⟨x, hx⟩ := get_of hlt
    have hod := drop_get hx
    (focus (refine Wr ?_; refine Tc ?_; refine On ?_; refine WP_seq ?_; refine WP_cond rfl (fun c2_1 => ?_) (fun c2_1 => ?_) <;> (try simp at c2_1); (focus (refine WP_skip ?_; refine then_n ?_; refine WP_seq ?_; refine WP_block ?_; refine Wr ?_; refine Ti ?_; refine Tl ?_; refine L_el1 ‹_› ‹_› (ty rfl) ?_; rintro _ ⟨⟩; refine Tm ?_; refine On ?_; refine Wr ?_; refine Tm ?_; refine Tm ?_; refine Tc ?_; refine On ?_; refine WP_cond rfl (fun c2_3 => ?_) (fun c2_3 => ?_) <;> (try simp at c2_3); (focus (refine Wr ?_; refine Tm ?_; refine Tm ?_; refine On ?_; refine WP_ret ?_; refine block_r ?_; refine then_r ?_; refine roundF_r ?_; refine block_r ?_; refine then_r ?_)); rotate_left 1; (focus (refine WP_skip ?_; refine block_n ?_; refine then_n ?_; refine R_region ?_; refine Ta ?_; refine Tm ?_; refine OPS_nil ?_)); rotate_left 1)); rotate_left 2; (focus (exfalso; omega))))
    · refine pret (.inl rfl) rfl ⟨_, _, rfl, rfl, rfl⟩ ?_
      rw [← hor, hod]; simp_all [resOf, orI]
    · refine roundF_n (k + 1) (by omega) ⟨rfl, by omega, ?_⟩ (List.Sublist.refl _) ⟨rfl, rfl, rfl, rfl, trivial⟩
      rw [← hor, hod]; simp_all [orI]
  · have hge : k = xs.length := by omega
    subst hge
    (focus (refine Wr ?_; refine Tc ?_; refine On ?_; refine WP_seq ?_; refine WP_cond rfl (fun c3_1 => ?_) (fun c3_1 => ?_) <;> (try simp at c3_1); refine WP_exit ?_; refine then_e ?_; refine roundF_e ?_; refine block_e ?_; refine then_n ?_; refine Wr ?_; refine Tm ?_; refine Tm ?_; refine On ?_; refine WP_ret ?_))
    · refine pret (.inl rfl) rfl ⟨_, _, rfl, rfl, rfl⟩ ?_
      rw [← hor]; simp [resOf, orI]
/-- the order of identities -/
def cmpID (a b : ID) : Int := orI [cmpI a.1 b.1, cmpI a.2 b.2]
attribute [local irreducible] cmpID
theorem order_s (h : Frag) (a b : ID) : PSpec Tryz.prog 85 #[.agg (idc a).toArray, .agg (idc b).toArray] h (fun _ v => v = .int .i64 (cmpID a b)) := by
  refine pspec_of (vs := [.agg (idc a).toArray, .agg (idc b).toArray]) Tryz.func85 Tryz.ntmps85 rfl rfl ?_
  (focus (refine Wr ?_; refine Tbx ?_; intro b7_1; refine Tbx ?_; intro b7_2; refine Tm ?_; refine On ?_; refine WP_seq ?_; refine R_draw (n := 13) mixed rfl ?_; refine Va 0 ?_; refine Vf 1 ?_; refine Va 1 ?_; refine Vl 3 ?_; refine Lo m1 ?_; refine Va 2 ?_; refine Vf 7 ?_; refine Va 3 ?_; refine Vl 15 ?_; refine Lo m0 ?_; refine Va 5 ?_; refine Vf 47 ?_; refine Va 6 ?_; refine Vl 111 ?_; refine Lo m1 ?_; refine Va 7 ?_; refine Vf 239 ?_; refine Va 8 ?_; refine Vl 495 ?_; refine Lo m0 ?_; refine Va 4 ?_; refine A_c (m' := 511) rfl rfl rfl rfl (by decide +kernel) (C_callv (cmpI_s _ _ _) rfl rfl ⟨_, _, rfl, ⟨_, _, rfl, rfl, rfl⟩, rfl⟩ (cal rfl) ?_); refine Va 9 ?_; refine A_c (m' := 1023) rfl rfl rfl rfl (by decide +kernel) (C_callv (cmpI_s _ _ _) rfl rfl ⟨_, _, rfl, ⟨_, _, rfl, rfl, rfl⟩, rfl⟩ (cal rfl) ?_); refine Va 10 ?_; refine A_c (m' := 2047) rfl rfl rfl rfl (by decide +kernel) (C_buildSlice rfl (elm rfl) (zer rfl) rfl ⟨_, _, _, rfl, rfl, rfl, rfl, ⟨_, _, _, rfl, rfl, rfl, rfl, rfl, rfl⟩, rfl⟩ rfl rfl ?_); intro b7_3))
  refine Va 11 ?_
  refine A_callK (fun h' hl hb => or_s (xs := [cmpI a.1 b.1, cmpI a.2 b.2]) (SLB.of_block (us := [.int .i64 (cmpI a.1 b.1), .int .i64 (cmpI a.2 b.2)]) (rest := []) hb ⟨_, _, rfl, rfl, rfl, rfl, ⟨_, _, rfl, rfl, rfl, rfl, rfl⟩⟩ (by simp))) rfl rfl ⟨_, _, rfl, rfl, rfl⟩ (cal rfl) rfl rfl rfl rfl (by decide +kernel) ?_
  rintro h1 v _ _ rfl
  (focus (refine Va 12 ?_; refine Vs 8191 ?_; refine A_done (by decide +kernel) ?_; refine then_n ?_; refine WP_ret ?_))
  exact pret (.inl rfl) rfl ⟨_, _, rfl, rfl, rfl⟩ (by simp [resOf, cmpID])
theorem compareID_s (h : Frag) (a b : ID) : PSpec Tryz.prog 90 #[.agg (idc a).toArray, .agg (idc b).toArray] h (fun _ v => v = .int .i64 (cmpID a b)) := by
  refine pspec_of (vs := [.agg (idc a).toArray, .agg (idc b).toArray]) Tryz.func90 Tryz.ntmps90 rfl rfl ?_
  (focus (refine Wr ?_; refine Tbx ?_; intro b9_1; refine Tbx ?_; intro b9_2; refine Tm ?_; refine On ?_; refine WP_seq ?_; refine R_draw (n := 13) mixed rfl ?_; refine Va 0 ?_; refine Vf 1 ?_; refine Va 1 ?_; refine Vl 3 ?_; refine Lo m1 ?_; refine Va 2 ?_; refine Vf 7 ?_; refine Va 3 ?_; refine Vl 15 ?_; refine Lo m0 ?_; refine Va 5 ?_; refine Vf 47 ?_; refine Va 6 ?_; refine Vl 111 ?_; refine Lo m1 ?_; refine Va 7 ?_; refine Vf 239 ?_; refine Va 8 ?_; refine Vl 495 ?_; refine Lo m0 ?_; refine Va 4 ?_; refine A_c (m' := 511) rfl rfl rfl rfl (by decide +kernel) (C_callv (cmpI_s _ _ _) rfl rfl ⟨_, _, rfl, ⟨_, _, rfl, rfl, rfl⟩, rfl⟩ (cal rfl) ?_); refine Va 9 ?_; refine A_c (m' := 1023) rfl rfl rfl rfl (by decide +kernel) (C_callv (cmpI_s _ _ _) rfl rfl ⟨_, _, rfl, ⟨_, _, rfl, rfl, rfl⟩, rfl⟩ (cal rfl) ?_); refine Va 10 ?_; refine A_c (m' := 2047) rfl rfl rfl rfl (by decide +kernel) (C_buildSlice rfl (elm rfl) (zer rfl) rfl ⟨_, _, _, rfl, rfl, rfl, rfl, ⟨_, _, _, rfl, rfl, rfl, rfl, rfl, rfl⟩, rfl⟩ rfl rfl ?_); intro b9_3))
  refine Va 11 ?_
  refine A_callK (fun h' hl hb => or_s (xs := [cmpI a.1 b.1, cmpI a.2 b.2]) (SLB.of_block (us := [.int .i64 (cmpI a.1 b.1), .int .i64 (cmpI a.2 b.2)]) (rest := []) hb ⟨_, _, rfl, rfl, rfl, rfl, ⟨_, _, rfl, rfl, rfl, rfl, rfl⟩⟩ (by simp))) rfl rfl ⟨_, _, rfl, rfl, rfl⟩ (cal rfl) rfl rfl rfl rfl (by decide +kernel) ?_
  rintro h1 v _ _ rfl
  (focus (refine Va 12 ?_; refine Vs 8191 ?_; refine A_done (by decide +kernel) ?_; refine then_n ?_; refine WP_ret ?_))
  exact pret (.inl rfl) rfl ⟨_, _, rfl, rfl, rfl⟩ (by simp [resOf, cmpID])
end Go.Proofs.YtfhoecgiahpddaaGreat
/-
  CONTRACTS: valid identities, values and nodes; nodes compared and copied; a node found.
-/
set_option linter.all false
namespace Go.Proofs.YtfhoecgiahpddaaGreat
open Go.Mesh Go.RowKit
set_option maxRecDepth 100000
set_option linter.unusedVariables false
set_option maxHeartbeats 4000000
attribute [local irreducible] WP OPS ANY ANYo LG LV FSpec PSpec QOP OPc OPw thenQ blockQ roundQ roundF retQ retM Rd At SLB OS cmpI orI cmpID
def namedB (a : ID) : Bool := decide (1 ≤ a.1 ∧ a.1 ≤ 8 ∧ 1 ≤ a.2 ∧ a.2 ≤ 1099511627775)
attribute [local irreducible] namedB
theorem encodeID_s (h : Frag) (a : ID) : PSpec Tryz.prog 152 #[.agg (idc a).toArray] h (fun _ v => ∃ u e, v = .tuple #[u, .int .i64 e] ∧ (e == 0) = namedB a) := by
  refine pspec_of (vs := [.agg (idc a).toArray]) Tryz.func152 Tryz.ntmps152 rfl rfl ?_
  (focus (refine Wr ?_; refine Tbx ?_; intro b0_1; refine Tm ?_; refine Tm ?_; refine On ?_; refine WP_seq ?_; refine Wr ?_; refine Tf ?_; refine Tl ?_; refine Lo m0 ?_; refine Tc ?_; refine Tm ?_; refine S_gsplit rfl rfl rfl rfl (fun c0_2 => ?_) (fun c0_2 => ?_) <;> (try simp at c0_2); (focus (refine Tn ?_; refine Tn ?_; refine Tn ?_; refine Tp1 ?_; refine Tm ?_; refine Tn ?_; refine Tn ?_; refine Tn ?_; refine Tp1 ?_; refine Tm ?_; refine Tn ?_; refine Tn ?_; refine Tn ?_; refine Tp1 ?_; refine On ?_; refine cond_t rfl ?_; refine Wr ?_; refine Tm ?_; refine Tm ?_; refine On ?_; refine WP_ret ?_; refine then_r ?_)); rotate_left 1; (focus (refine Ugf ?_; refine Ugl ?_; refine Lo m0 ?_; refine Ugc ?_; refine Tp0 ?_; refine Tm ?_; refine S_gsplit rfl rfl rfl rfl (fun c0_3 => ?_) (fun c0_3 => ?_) <;> (try simp at c0_3); (focus (refine Tn ?_; refine Tn ?_; refine Tn ?_; refine Tp1 ?_; refine Tm ?_; refine Tn ?_; refine Tn ?_; refine Tn ?_; refine Tp1 ?_; refine On ?_; refine cond_t rfl ?_; refine Wr ?_; refine Tm ?_; refine Tm ?_; refine On ?_; refine WP_ret ?_; refine then_r ?_)); rotate_left 1; (focus (refine Ugf ?_; refine Ugl ?_; refine Lo m0 ?_; refine Ugc ?_; refine Tp0 ?_; refine Tm ?_; refine S_gsplit rfl rfl rfl rfl (fun c0_4 => ?_) (fun c0_4 => ?_) <;> (try simp at c0_4); (focus (refine Tn ?_; refine Tn ?_; refine Tn ?_; refine Tp1 ?_; refine On ?_; refine cond_t rfl ?_; refine Wr ?_; refine Tm ?_; refine Tm ?_; refine On ?_; refine WP_ret ?_; refine then_r ?_)); rotate_left 1; (focus (refine Ugf ?_; refine Ugl ?_; refine Lo m0 ?_; refine Ugc ?_; refine Tp0 ?_; refine On ?_; refine WP_cond rfl (fun c0_5 => ?_) (fun c0_5 => ?_) <;> (try simp at c0_5); (focus (refine Wr ?_; refine Tm ?_; refine Tm ?_; refine On ?_; refine WP_ret ?_; refine then_r ?_)); rotate_left 1; (focus (refine WP_skip ?_; refine then_n ?_; refine Wr ?_; refine Tf ?_; refine Tl ?_; refine Lo m0 ?_; refine S_q rfl rfl rfl (Q_conv rfl rfl ⟨_, rfl⟩ rfl) ?_; refine S_q rfl rfl rfl (Q_shl rfl rfl rfl (fun _ => rfl)) ?_; refine Tf ?_; refine Tl ?_; refine Lo m0 ?_; refine S_q rfl rfl rfl (Q_conv rfl rfl ⟨_, rfl⟩ rfl) ?_; refine S_q rfl rfl rfl (Q_arith rfl rfl rfl rfl) ?_; refine Tm ?_; refine Tm ?_; refine On ?_; refine WP_ret ?_)); rotate_left 1)); rotate_left 2)); rotate_left 3)); rotate_left 4))
  all_goals refine pret (.inl rfl) rfl ⟨_, _, rfl, ⟨_, _, rfl, rfl, rfl⟩, rfl⟩ ?_
  all_goals refine ⟨_, _, rfl, ?_⟩
  all_goals (simp_all [namedB] <;> omega)
theorem named_s (h : Frag) (a : ID) : PSpec Tryz.prog 129 #[.agg (idc a).toArray] h (fun _ v => v = .bool (namedB a)) := by
  refine pspec_of (vs := [.agg (idc a).toArray]) Tryz.func129 Tryz.ntmps129 rfl rfl ?_
  (focus (refine Wr ?_; refine Tbx ?_; intro b0_1; refine Tm ?_; refine On ?_; refine Wr ?_; refine Tl ?_; refine Lg m0 ?_; refine S_c rfl rfl rfl (C_call0 (encodeID_s _ (_, _)) rfl rfl ⟨_, _, rfl, rfl, rfl⟩ (cal rfl) ?_); rintro _ ⟨u0_2, e0_2, rfl, he0_2⟩; refine Tm ?_; refine Tx ?_; refine Tx ?_; refine Tm ?_; refine Tm ?_; refine On ?_; refine Wr ?_; refine Tm ?_; refine Tc ?_; refine Tm ?_; refine On ?_; refine WP_ret ?_))
  refine pret (.inl rfl) rfl ⟨_, _, rfl, rfl, rfl⟩ ?_
  simp_all [resOf]
def valB (v : Val) : Bool :=
  if v.1 = 0 then decide (v = (0, 0, (0, 0))) else if v.1 = 1 then decide (-2305843009213693952 ≤ v.2.1 ∧ v.2.1 ≤ 2305843009213693951 ∧ v.2.2 = (0, 0)) else if v.1 = 2 then decide (v.2.1 = 0) && namedB v.2.2 else false
attribute [local irreducible] valB
theorem validVal_s (h : Frag) (v : Val) : PSpec Tryz.prog 130 #[.agg (vlc v).toArray] h (fun _ u => u = .bool (valB v)) := by
  obtain ⟨k, n, r1, r2⟩ := v
  refine pspec_of (vs := [.agg (vlc (k, n, r1, r2)).toArray]) Tryz.func130 Tryz.ntmps130 rfl rfl ?_
  (focus (refine Wr ?_; refine Tbx ?_; intro b0_1; refine Tm ?_; refine On ?_; refine WP_seq ?_; refine Wr ?_; refine Tf ?_; refine Tl ?_; refine Lo m0 ?_; refine On ?_; refine WP_block ?_; refine Wr ?_; refine Tc ?_; refine Tm ?_; refine On ?_; refine WP_cond rfl (fun c0_2 => ?_) (fun c0_2 => ?_) <;> (try simp at c0_2); (focus (refine Wr ?_; refine Tl ?_; refine Lg m0 ?_; refine S_q rfl rfl rfl (Q_build rfl (by decide +kernel) (zer rfl) rfl rfl) ?_; refine S_q rfl rfl rfl (Q_eqV eqVal rfl rfl rfl rfl rfl) ?_; refine Tm ?_; refine On ?_; refine WP_ret ?_; refine block_r ?_; refine then_r ?_)); rotate_left 1; (focus (refine Wr ?_; refine Tc ?_; refine Tm ?_; refine On ?_; refine WP_cond rfl (fun c0_3 => ?_) (fun c0_3 => ?_) <;> (try simp at c0_3); (focus (refine Wr ?_; refine Tf ?_; refine Tl ?_; refine Lo m0 ?_; refine Tc ?_; refine Tm ?_; refine S_gsplit rfl rfl rfl rfl (fun c0_4 => ?_) (fun c0_4 => ?_) <;> (try simp at c0_4); (focus (refine Ugf ?_; refine Ugl ?_; refine Lo m0 ?_; refine Ugc ?_; refine Tp1 ?_; refine Tm ?_; refine S_gsplit rfl rfl rfl rfl (fun c0_5 => ?_) (fun c0_5 => ?_) <;> (try simp at c0_5); (focus (refine Ugf ?_; refine Ugl ?_; refine L_sub (Rd.own m0) (ty rfl) rfl ?_; refine S_gq rfl rfl rfl rfl rfl rfl (Q_build rfl (by decide +kernel) (zer rfl) rfl rfl) ?_; refine S_gq rfl rfl rfl rfl rfl rfl (Q_eqI eqID rfl rfl rfl rfl rfl) ?_; refine Tp1 ?_; refine Tm ?_; refine On ?_; refine WP_ret ?_; refine block_r ?_; refine then_r ?_)); rotate_left 1; (focus (refine Tn ?_; refine Tn ?_; refine Tn ?_; refine Tn ?_; refine Tp0 ?_; refine Tm ?_; refine On ?_; refine WP_ret ?_; refine block_r ?_; refine then_r ?_)); rotate_left 1)); rotate_left 2; (focus (refine Tn ?_; refine Tn ?_; refine Tn ?_; refine Tp0 ?_; refine Tm ?_; refine Tn ?_; refine Tn ?_; refine Tn ?_; refine Tn ?_; refine Tp0 ?_; refine Tm ?_; refine On ?_; refine WP_ret ?_; refine block_r ?_; refine then_r ?_)); rotate_left 1)); rotate_left 3; (focus (refine Wr ?_; refine Tc ?_; refine Tm ?_; refine On ?_; refine WP_cond rfl (fun c0_6 => ?_) (fun c0_6 => ?_) <;> (try simp at c0_6); (focus (refine Wr ?_; refine Tf ?_; refine Tl ?_; refine Lo m0 ?_; refine Tc ?_; refine Tm ?_; refine S_gsplit rfl rfl rfl rfl (fun c0_7 => ?_) (fun c0_7 => ?_) <;> (try simp at c0_7); (focus (refine Ugf ?_; refine Ugl ?_; refine L_sub (Rd.own m0) (ty rfl) rfl ?_; refine S_gc rfl rfl rfl rfl rfl rfl (C_callv (named_s _ (_, _)) rfl rfl ⟨_, _, rfl, rfl, rfl⟩ (cal rfl) ?_); refine Tp1 ?_; refine Tm ?_; refine On ?_; refine WP_ret ?_; refine block_r ?_; refine then_r ?_)); rotate_left 1; (focus (refine Tn ?_; refine Tn ?_; refine Tn ?_; refine Tp0 ?_; refine Tm ?_; refine On ?_; refine WP_ret ?_; refine block_r ?_; refine then_r ?_)); rotate_left 1)); rotate_left 2; (focus (refine WP_skip ?_; refine block_n ?_; refine then_n ?_; refine Wr ?_; refine Tm ?_; refine On ?_; refine WP_ret ?_)); rotate_left 1)); rotate_left 3)); rotate_left 6))
  all_goals refine pret (.inl rfl) rfl ⟨_, _, rfl, rfl, rfl⟩ ?_
  all_goals (simp_all [resOf, valB] <;> omega)
theorem take_eq {α : Type} {xs ys : List α} {k : Nat} {x : α} (h : xs.take k = ys.take k) (hx : xs[k]? = some x) (hy : ys[k]? = some x) : xs.take (k + 1) = ys.take (k + 1) := by
  rw [List.take_add_one, List.take_add_one, h, hx, hy]
theorem eqVals_s {h : Frag} {a b : Value} {xs ys : List Val} (hx : SL h 4 ValC a xs) (hy : SL h 4 ValC b ys) : PSpec Tryz.prog 96 #[a, b] h (fun _ v => v = .bool (decide (xs = ys))) := by
  have hxl := hx.le
  have hyl := hy.le
  refine pspec_of (vs := [a, b]) Tryz.func96 Tryz.ntmps96 rfl rfl ?_
  (focus (refine Wr ?_; refine Tm ?_; refine On ?_; refine WP_seq ?_; refine Wr ?_; refine Tm ?_; refine S_q rfl rfl rfl (Q_lenS rfl rfl rfl rfl rfl rfl ‹_›) ?_; refine Tm ?_; refine S_q rfl rfl rfl (Q_lenS rfl rfl rfl rfl rfl rfl ‹_›) ?_; refine Tc ?_; refine On ?_; refine WP_cond rfl (fun c0_1 => ?_) (fun c0_1 => ?_) <;> (try simp at c0_1); (focus (refine Wr ?_; refine Tm ?_; refine On ?_; refine WP_ret ?_; refine then_r ?_)); rotate_left 1; (focus (refine WP_skip ?_; refine then_n ?_; refine WP_seq ?_; refine Wr ?_; refine Tm ?_; refine S_q rfl rfl rfl (Q_lenS rfl rfl rfl rfl rfl rfl ‹_›) ?_; refine Tm ?_; refine On ?_; refine WP_block ?_)); rotate_left 1))
  · have : xs ≠ ys := fun e => by rw [e] at c0_1; simp at c0_1
    refine pret (.inl rfl) rfl ⟨_, _, rfl, rfl, rfl⟩ ?_
    simp [resOf, this]
  have hlen : xs.length = ys.length := by omega
  (refine WP_loopC (α := Nat) [12, 0, 1] (fun (k : Nat) => xs.length - k) (fun (k : Nat) => [(13, .int .i64 k)]) (fun hh (k : Nat) => hh = h ∧ k ≤ xs.length ∧ xs.take k = ys.take k) 0 ⟨_, _, rfl, ⟨_, _, rfl, ⟨_, _, rfl, rfl, rfl⟩, rfl⟩, rfl⟩ (by repeat' first | exact trivial | refine ⟨rfl, ?_⟩) ?_ ?_)
  · exact ⟨rfl, Nat.zero_le _, rfl⟩
  rintro h1 k _ ⟨rfl, hk, ht⟩
  by_cases hlt : k < xs.length
  · obtain ⟨x, ex⟩ := get_of hlt
    obtain ⟨y, ey⟩ := get_of (xs := ys) (k := k) (by omega)
    (focus (refine Wr ?_; refine Tc ?_; refine On ?_; refine WP_seq ?_; refine WP_cond rfl (fun c2_1 => ?_) (fun c2_1 => ?_) <;> (try simp at c2_1); (focus (refine WP_skip ?_; refine then_n ?_; refine WP_seq ?_; refine WP_block ?_; refine Wr ?_; refine Tm ?_; refine Tm ?_; refine On ?_; refine WP_seq ?_; refine R_draw (n := 9) mixed rfl ?_; refine Va 0 ?_; refine Vm 1 ?_; refine Va 1 ?_; refine Vm 3 ?_; refine Va 2 ?_; refine A_q (m' := 7) rfl rfl rfl (Q_indexS ‹_› ‹_› rfl rfl rfl (elm rfl) rfl) rfl (by decide +kernel) ?_; refine Va 3 ?_; refine Vl 15 ?_; refine Le ?_; rintro _ _ _ rfl; refine Va 4 ?_; refine Vm 31 ?_; refine Va 5 ?_; refine Vm 63 ?_; refine Va 6 ?_; refine A_q (m' := 127) rfl rfl rfl (Q_indexS ‹_› ‹_› rfl rfl rfl (elm rfl) rfl) rfl (by decide +kernel) ?_; refine Va 7 ?_; refine Vl 255 ?_; refine Le ?_; rintro _ _ _ rfl; refine Va 8 ?_; refine A_q (m' := 511) rfl rfl rfl (Q_neV eqVal rfl rfl rfl rfl rfl) rfl (by decide +kernel) ?_; refine A_done (by decide +kernel) ?_; refine then_n ?_; refine WP_cond rfl (fun c2_4 => ?_) (fun c2_4 => ?_) <;> (try simp at c2_4); (focus (refine Wr ?_; refine Tm ?_; refine On ?_; refine WP_ret ?_; refine block_r ?_; refine then_r ?_; refine roundF_r ?_; refine block_r ?_; refine then_r ?_)); rotate_left 1; (focus (refine WP_skip ?_; refine block_n ?_; refine then_n ?_; refine R_region ?_; refine Ta ?_; refine Tm ?_; refine OPS_nil ?_)); rotate_left 1)); rotate_left 2; (focus (exfalso; omega))))
    · refine pret (.inl rfl) rfl ⟨_, _, rfl, rfl, rfl⟩ ?_
      have : xs ≠ ys := fun e => by subst e; rw [ex] at ey; cases ey; simp_all
      simp [resOf, this]
    · refine roundF_n (k + 1) (by omega) ⟨rfl, by omega, take_eq (x := x) ht ex ?_⟩ (List.Sublist.refl _) (by repeat' first | exact trivial | refine ⟨rfl, ?_⟩)
      rw [ey]; obtain ⟨x1, x2, x3, x4⟩ := x; obtain ⟨y1, y2, y3, y4⟩ := y; simp_all
  · have hge : k = xs.length := by omega
    subst hge
    (focus (refine Wr ?_; refine Tc ?_; refine On ?_; refine WP_seq ?_; refine WP_cond rfl (fun c3_1 => ?_) (fun c3_1 => ?_) <;> (try simp at c3_1); refine WP_exit ?_; refine then_e ?_; refine roundF_e ?_; refine block_e ?_; refine then_n ?_; refine Wr ?_; refine Tm ?_; refine On ?_; refine WP_ret ?_))
    · refine pret (.inl rfl) rfl ⟨_, _, rfl, rfl, rfl⟩ ?_
      have : xs = ys := by rw [List.take_of_length_le (Nat.le_refl _), List.take_of_length_le (by omega)] at ht; exact ht
      simp [resOf, this]
end Go.Proofs.YtfhoecgiahpddaaGreat
/-
  CONTRACTS: slices of values copied; nodes that are valid, equal, copied, found.
-/
set_option linter.all false
namespace Go.Proofs.YtfhoecgiahpddaaGreat
open Go.Mesh Go.RowKit
set_option maxRecDepth 100000
set_option linter.unusedVariables false
set_option maxHeartbeats 4000000
attribute [local irreducible] WP OPS ANY ANYo LG LV FSpec PSpec QOP OPc OPw thenQ blockQ roundQ roundF retQ retM Rd At SLB OS cmpI orI cmpID namedB valB
theorem cloneVals_s {h : Frag} {a : Value} {xs : List Val} (hx : SL h 4 ValC a xs) : PSpec Tryz.prog 92 #[a] h (fun h' v => ∃ p c, v = .slice p xs.length c ∧ SL h' 4 ValC (.slice p xs.length c) xs) := by
  have hxl := hx.le
  obtain ⟨p, cap, rfl⟩ := hx.slice
  refine pspec_of (vs := [.slice p xs.length cap]) Tryz.func92 Tryz.ntmps92 rfl rfl ?_
  (focus (refine Wr ?_; refine Tm ?_; refine On ?_; refine WP_seq ?_; refine Wr ?_; refine Tm ?_; refine S_q rfl rfl rfl (Q_eqNil rfl rfl rfl rfl) ?_; refine On ?_; refine WP_cond rfl (fun c0_1 => ?_) (fun c0_1 => ?_) <;> (try simp at c0_1); (focus (refine Wr ?_; refine Tm ?_; refine On ?_; refine WP_ret ?_; refine then_r ?_)); rotate_left 1; (focus (refine WP_skip ?_; refine then_n ?_; refine Wr ?_; refine S_c rfl rfl rfl (C_buildSlice rfl (elm rfl) (zer rfl) rfl rfl rfl rfl ?_); intro b0_2; refine Tm ?_; refine S_w rfl rfl rfl (W_appS [] _ (OS.lit0 _ _ _ _ _) ‹_› rfl rfl rfl rfl rfl rfl (elm rfl) (zer rfl) rfl rfl (by simp only [List.length_append, List.length_cons, List.length_nil]; omega) (by simp only [List.length_append, List.length_cons, List.length_nil]; omega) ?_); rintro p0_3 q0_3 m0_3 o0_3; refine Tm ?_; refine On ?_; refine WP_ret ?_)); rotate_left 1))
  · subst c0_1
    have hn : xs = [] := hx.none_nil
    subst hn
    refine pret (.inl rfl) rfl ⟨_, _, rfl, rfl, rfl⟩ ?_
    exact ⟨_, _, rfl, SLB.nil _ _ _ _ _ _⟩
  · exact pretK [] m0_3 (by simp) (.inl rfl) rfl ⟨_, _, rfl, rfl, rfl⟩ fun h' hl hm => ⟨_, _, rfl, OS.sl o0_3 hl ValC_mono hm hxl⟩
def oneB (q : Val → Bool) : List Val → Bool
  | [x] => q x
  | _ => false
theorem oneB_ne {q : Val → Bool} {fs : List Val} (h : ¬ fs.length = 1) : oneB q fs = false := by
  match fs, h with
  | [], _ => rfl
  | [y], e => exact absurd rfl e
  | _ :: _ :: _, _ => rfl
def kindB (kd cl : Int) (fs : List Val) : Bool :=
  if kd = 0 ∨ kd = 1 then decide (0 < cl) && decide ((fs.length : Int) ≤ 30) else if kd = 2 then decide (cl = 0) && oneB (fun x => x.1 != 1) fs else if kd = 3 then (fs.length : Int) == 0 else false
def nodeB (n : Nd) : Bool := namedB n.id && decide (0 ≤ n.cls ∧ n.cls ≤ 60) && n.fields.all valB && kindB n.kind n.cls n.fields
attribute [local irreducible] nodeB kindB
theorem all_drop {α : Type} {p : α → Bool} {xs : List α} {k : Nat} {x : α} (hx : xs[k]? = some x) : (xs.drop k).all p = (p x && (xs.drop (k + 1)).all p) := by rw [drop_get hx]; rfl
theorem any_drop {α : Type} {p : α → Bool} {xs : List α} {k : Nat} {x : α} (hx : xs[k]? = some x) : (xs.drop k).any p = (p x || (xs.drop (k + 1)).any p) := by rw [drop_get hx]; rfl
theorem validNode_s {h : Frag} {n : Nd} {vs : List Value} (hn : NodeC 4398046511104 h n vs) : PSpec Tryz.prog 117 #[.agg vs.toArray] h (fun _ v => v = .bool (nodeB n)) := by
  obtain ⟨p, c, rfl, hf⟩ := hn
  have hl := hf.le
  obtain ⟨⟨i1, i2⟩, kd, cl, fs⟩ := n
  refine pspec_of (vs := [.agg [Value.int .i64 i1, .int .i64 i2, .int .i64 kd, .int .i64 cl, .slice p fs.length c].toArray]) Tryz.func117 Tryz.ntmps117 rfl rfl ?_
  simp only at hf hl
  (focus (refine Wr ?_; refine Tbx ?_; intro b0_1; refine Tm ?_; refine On ?_; refine WP_seq ?_; refine Wr ?_; refine Tf ?_; refine Tl ?_; refine L_sub (Rd.own m0) (ty rfl) rfl ?_; refine S_c rfl rfl rfl (C_callv (named_s _ (_, _)) rfl rfl ⟨_, _, rfl, rfl, rfl⟩ (cal rfl) ?_); refine S_q rfl rfl rfl (Q_not rfl rfl) ?_; refine Tm ?_; refine Ugs ?_ ?_ <;> intro c0_2 <;> (first | simp [*] at c0_2; done | try simp at c0_2); (focus (refine Tn ?_; refine Tn ?_; refine Tn ?_; refine Tp1 ?_; refine Tm ?_; refine Tn ?_; refine Tn ?_; refine Tn ?_; refine Tp1 ?_; refine On ?_; refine cond_t rfl ?_; refine Wr ?_; refine Tm ?_; refine On ?_; refine WP_ret ?_; refine then_r ?_)); rotate_left 1; (focus (refine Ugf ?_; refine Ugl ?_; refine Lo m0 ?_; refine Ugc ?_; refine Tp0 ?_; refine Tm ?_; refine Ugs ?_ ?_ <;> intro c0_3 <;> (first | simp [*] at c0_3; done | try simp at c0_3); (focus (refine Tn ?_; refine Tn ?_; refine Tn ?_; refine Tp1 ?_; refine On ?_; refine cond_t rfl ?_; refine Wr ?_; refine Tm ?_; refine On ?_; refine WP_ret ?_; refine then_r ?_)); rotate_left 1; (focus (refine Ugf ?_; refine Ugl ?_; refine Lo m0 ?_; refine Ugc ?_; refine Tp0 ?_; refine On ?_; refine Wc ?_ ?_ <;> intro c0_4 <;> (first | simp [*] at c0_4; done | try simp at c0_4); (focus (refine Wr ?_; refine Tm ?_; refine On ?_; refine WP_ret ?_; refine then_r ?_)); rotate_left 1; (focus (refine WP_skip ?_; refine then_n ?_; refine WP_seq ?_; refine Wr ?_; refine Tf ?_; refine Tl ?_; refine Lo m0 ?_; refine Tlen ?_; refine Tm ?_; refine On ?_; refine WP_block ?_)); rotate_left 1)); rotate_left 2)); rotate_left 3))
  iterate 3
    · refine pret (.inl rfl) rfl ⟨_, _, rfl, rfl, rfl⟩ ?_
      simp_all [resOf, nodeB]; try omega
  (refine WP_loopC (α := Nat) [21, 20, 1] (fun (k : Nat) => fs.length - k) (fun (k : Nat) => [(22, .int .i64 k)]) (fun hh (k : Nat) => hh = h ∧ k ≤ fs.length ∧ (fs.drop k).all valB = fs.all valB) 0 ⟨_, _, rfl, ⟨_, _, rfl, ⟨_, _, rfl, rfl, rfl⟩, rfl⟩, rfl⟩ (by repeat' first | exact trivial | refine ⟨rfl, ?_⟩) ?_ ?_)
  · exact ⟨rfl, Nat.zero_le _, rfl⟩
  rintro h1 k _ ⟨rfl, hk, ht⟩
  by_cases hlt : k < fs.length
  · obtain ⟨⟨x1, x2, x3, x4⟩, ex⟩ := get_of hlt
    have had := all_drop (p := valB) ex
    (focus (refine Wr ?_; refine Tc ?_; refine On ?_; refine WP_seq ?_; refine Wc ?_ ?_ <;> intro c2_1 <;> (first | simp [*] at c2_1; done | try simp at c2_1); refine WP_skip ?_; refine then_n ?_; refine WP_seq ?_; refine WP_block ?_; refine Wr ?_; refine Ti ?_; refine Tl ?_; refine Le ?_; rintro _ _ _ rfl; refine Tal ?_; intro b2_3; refine Tw u0 ?_; refine On ?_; refine Wr ?_; refine Tl ?_; refine Lg m0 ?_; refine S_c rfl rfl rfl (C_callv (validVal_s _ (_, _, (_, _))) rfl rfl ⟨_, _, rfl, rfl, rfl⟩ (cal rfl) ?_); refine S_q rfl rfl rfl (Q_not rfl rfl) ?_; refine On ?_; refine Wc ?_ ?_ <;> intro c2_4 <;> (first | simp [*] at c2_4; done | try simp at c2_4); (focus (refine Wr ?_; refine Tm ?_; refine On ?_; refine WP_ret ?_; refine block_r ?_; refine then_r ?_; refine roundF_r ?_; refine block_r ?_; refine then_r ?_)); rotate_left 1; (focus (refine WP_skip ?_; refine block_n ?_; refine then_n ?_; refine R_region ?_; refine Ta ?_; refine Tm ?_; refine OPS_nil ?_)); rotate_left 1))
    · refine pret (.inl rfl) rfl ⟨_, _, rfl, rfl, rfl⟩ ?_
      have : fs.all valB = false := by rw [← ht, had]; simp_all
      simp [resOf, nodeB, this]
    · refine roundF_n (k + 1) (by omega) ⟨rfl, by omega, ?_⟩ (by repeat' first | exact sR _ | exact sA _ _ | exact sN _ | apply s2 | apply s1) (by repeat' first | exact trivial | refine ⟨rfl, ?_⟩)
      rw [← ht, had]; simp_all
  · have hge : k = fs.length := by omega
    subst hge
    have hall : fs.all valB = true := by rw [← ht]; simp
    have hnb : nodeB ⟨(i1, i2), kd, cl, fs⟩ = kindB kd cl fs := by simp only [nodeB, c0_2, hall]; simp [c0_3, c0_4]
    clear hall ht
    by_cases h1' : fs.length = 1
    · obtain ⟨⟨x1, x2, x3, x4⟩, ex⟩ := get_of (xs := fs) (k := 0) (by omega)
      have hfs : fs = [(x1, x2, x3, x4)] := by
        match fs, h1', ex with
        | [y], _, e => simp at e; rw [e]
      (focus (refine Wr ?_; refine Tc ?_; refine On ?_; refine WP_seq ?_; refine Wc ?_ ?_ <;> intro c3_1 <;> (first | simp [*] at c3_1; done | try simp at c3_1); refine WP_exit ?_; refine then_e ?_; refine roundF_e ?_; refine block_e ?_; refine then_n ?_; refine WP_seq ?_; refine Wr ?_; refine Tf ?_; refine Tl ?_; refine Lo m0 ?_; refine On ?_; refine WP_block ?_; refine WP_seq ?_; refine Wr ?_; refine Tc ?_; refine Tm ?_; refine On ?_; refine Wc ?_ ?_ <;> intro c3_2 <;> (first | simp [*] at c3_2; done | try simp at c3_2); (focus (refine WP_skip ?_; refine then_n ?_; refine Wc ?_ ?_ <;> intro c3_3 <;> (first | simp [*] at c3_3; done | try simp at c3_3); refine Wr ?_; refine Tf ?_; refine Tl ?_; refine Lo m0 ?_; refine Tc ?_; refine Tm ?_; refine Ugs ?_ ?_ <;> intro c3_4 <;> (first | simp [*] at c3_4; done | try simp at c3_4); (focus (refine Ugf ?_; refine Ugl ?_; refine Lo m0 ?_; refine S_gq rfl rfl rfl rfl rfl rfl (Q_len rfl rfl rfl rfl rfl rfl) ?_; refine Ugc ?_; refine Tp1 ?_; refine Tm ?_; refine On ?_; refine WP_ret ?_; refine block_r ?_; refine then_r ?_)); rotate_left 1; (focus (refine Tn ?_; refine Tn ?_; refine Tn ?_; refine Tn ?_; refine Tp0 ?_; refine Tm ?_; refine On ?_; refine WP_ret ?_; refine block_r ?_; refine then_r ?_)); rotate_left 1)); rotate_left 2; (focus (refine R_region ?_; refine Tc ?_; refine Tm ?_; refine On ?_; refine Wc ?_ ?_ <;> intro c3_5 <;> (first | simp [*] at c3_5; done | try simp at c3_5); (focus (refine Wr ?_; refine Tf ?_; refine Tl ?_; refine Lo m0 ?_; refine Tc ?_; refine Tm ?_; refine Ugs ?_ ?_ <;> intro c3_6 <;> (first | simp [*] at c3_6; done | try simp at c3_6); (focus (refine Ugf ?_; refine Ugl ?_; refine Lo m0 ?_; refine S_gq rfl rfl rfl rfl rfl rfl (Q_len rfl rfl rfl rfl rfl rfl) ?_; refine Ugc ?_; refine Tp1 ?_; refine Tm ?_; refine On ?_; refine WP_ret ?_; refine block_r ?_; refine then_r ?_)); rotate_left 1; (focus (refine Tn ?_; refine Tn ?_; refine Tn ?_; refine Tn ?_; refine Tp0 ?_; refine Tm ?_; refine On ?_; refine WP_ret ?_; refine block_r ?_; refine then_r ?_)); rotate_left 1)); rotate_left 2; (focus (refine Wr ?_; refine Tc ?_; refine Tm ?_; refine On ?_; refine Wc ?_ ?_ <;> intro c3_7 <;> (first | simp [*] at c3_7; done | try simp at c3_7); (focus (refine Wr ?_; refine Tf ?_; refine Tl ?_; refine Lo m0 ?_; refine Tc ?_; refine Tm ?_; refine Ugs ?_ ?_ <;> intro c3_8 <;> (first | simp [*] at c3_8; done | try simp at c3_8); (focus (refine Ugf ?_; refine Ugl ?_; refine Lo m0 ?_; refine S_gq rfl rfl rfl rfl rfl rfl (Q_len rfl rfl rfl rfl rfl rfl) ?_; refine Ugc ?_; refine Tp1 ?_; refine Tm ?_; refine Ugs ?_ ?_ <;> intro c3_9 <;> (first | simp [*] at c3_9; done | try simp at c3_9); refine Ugf ?_; refine Ugl ?_; refine Lo m0 ?_; refine S_gq rfl rfl rfl rfl rfl rfl (Q_indexS ‹_› ‹_› rfl rfl rfl (elm rfl) rfl) ?_; refine Ugf ?_; refine Ugl ?_; refine L_elF ‹_› ‹_› ?_; rintro _ _ _ rfl; refine LV_1 (ty rfl) rfl ?_; refine Ugc ?_; refine Tp1 ?_; refine Tm ?_; refine On ?_; refine WP_ret ?_; refine block_r ?_; refine then_r ?_)); rotate_left 1; (focus (refine Tn ?_; refine Tn ?_; refine Tn ?_; refine Tn ?_; refine Tp0 ?_; refine Tm ?_; refine Tn ?_; refine Tn ?_; refine Tn ?_; refine Tn ?_; refine Tn ?_; refine Tn ?_; refine Tp0 ?_; refine Tm ?_; refine On ?_; refine WP_ret ?_; refine block_r ?_; refine then_r ?_)); rotate_left 1)); rotate_left 2; (focus (refine Wr ?_; refine Tc ?_; refine Tm ?_; refine On ?_; refine Wc ?_ ?_ <;> intro c3_11 <;> (first | simp [*] at c3_11; done | try simp at c3_11); (focus (refine Wr ?_; refine Tf ?_; refine Tl ?_; refine Lo m0 ?_; refine Tlen ?_; refine Tc ?_; refine Tm ?_; refine On ?_; refine WP_ret ?_; refine block_r ?_; refine then_r ?_)); rotate_left 1; (focus (refine WP_skip ?_; refine block_n ?_; refine then_n ?_; refine Wr ?_; refine Tm ?_; refine On ?_; refine WP_ret ?_)); rotate_left 1)); rotate_left 2)); rotate_left 4)); rotate_left 6))
      all_goals refine pret (.inl rfl) rfl ⟨_, _, rfl, rfl, rfl⟩ ?_
      all_goals (rw [hnb]; clear hnb; subst hfs; simp_all [resOf, kindB, oneB])
    · (focus (refine Wr ?_; refine Tc ?_; refine On ?_; refine WP_seq ?_; refine Wc ?_ ?_ <;> intro c4_1 <;> (first | simp [*] at c4_1; done | try simp at c4_1); refine WP_exit ?_; refine then_e ?_; refine roundF_e ?_; refine block_e ?_; refine then_n ?_; refine WP_seq ?_; refine Wr ?_; refine Tf ?_; refine Tl ?_; refine Lo m0 ?_; refine On ?_; refine WP_block ?_; refine WP_seq ?_; refine Wr ?_; refine Tc ?_; refine Tm ?_; refine On ?_; refine Wc ?_ ?_ <;> intro c4_2 <;> (first | simp [*] at c4_2; done | try simp at c4_2); (focus (refine WP_skip ?_; refine then_n ?_; refine Wc ?_ ?_ <;> intro c4_3 <;> (first | simp [*] at c4_3; done | try simp at c4_3); refine Wr ?_; refine Tf ?_; refine Tl ?_; refine Lo m0 ?_; refine Tc ?_; refine Tm ?_; refine Ugs ?_ ?_ <;> intro c4_4 <;> (first | simp [*] at c4_4; done | try simp at c4_4); (focus (refine Ugf ?_; refine Ugl ?_; refine Lo m0 ?_; refine S_gq rfl rfl rfl rfl rfl rfl (Q_len rfl rfl rfl rfl rfl rfl) ?_; refine Ugc ?_; refine Tp1 ?_; refine Tm ?_; refine On ?_; refine WP_ret ?_; refine block_r ?_; refine then_r ?_)); rotate_left 1; (focus (refine Tn ?_; refine Tn ?_; refine Tn ?_; refine Tn ?_; refine Tp0 ?_; refine Tm ?_; refine On ?_; refine WP_ret ?_; refine block_r ?_; refine then_r ?_)); rotate_left 1)); rotate_left 2; (focus (refine R_region ?_; refine Tc ?_; refine Tm ?_; refine On ?_; refine Wc ?_ ?_ <;> intro c4_5 <;> (first | simp [*] at c4_5; done | try simp at c4_5); (focus (refine Wr ?_; refine Tf ?_; refine Tl ?_; refine Lo m0 ?_; refine Tc ?_; refine Tm ?_; refine Ugs ?_ ?_ <;> intro c4_6 <;> (first | simp [*] at c4_6; done | try simp at c4_6); (focus (refine Ugf ?_; refine Ugl ?_; refine Lo m0 ?_; refine S_gq rfl rfl rfl rfl rfl rfl (Q_len rfl rfl rfl rfl rfl rfl) ?_; refine Ugc ?_; refine Tp1 ?_; refine Tm ?_; refine On ?_; refine WP_ret ?_; refine block_r ?_; refine then_r ?_)); rotate_left 1; (focus (refine Tn ?_; refine Tn ?_; refine Tn ?_; refine Tn ?_; refine Tp0 ?_; refine Tm ?_; refine On ?_; refine WP_ret ?_; refine block_r ?_; refine then_r ?_)); rotate_left 1)); rotate_left 2; (focus (refine Wr ?_; refine Tc ?_; refine Tm ?_; refine On ?_; refine Wc ?_ ?_ <;> intro c4_7 <;> (first | simp [*] at c4_7; done | try simp at c4_7); (focus (refine Wr ?_; refine Tf ?_; refine Tl ?_; refine Lo m0 ?_; refine Tc ?_; refine Tm ?_; refine Ugs ?_ ?_ <;> intro c4_8 <;> (first | simp [*] at c4_8; done | try simp at c4_8); (focus (refine Ugf ?_; refine Ugl ?_; refine Lo m0 ?_; refine S_gq rfl rfl rfl rfl rfl rfl (Q_len rfl rfl rfl rfl rfl rfl) ?_; refine Ugc ?_; refine Tp1 ?_; refine Tm ?_; refine Ugs ?_ ?_ <;> intro c4_9 <;> (first | simp [*] at c4_9; done | try simp at c4_9); (focus (exfalso; omega)); (focus (refine Tn ?_; refine Tn ?_; refine Tn ?_; refine Tn ?_; refine Tn ?_; refine Tn ?_; refine Tp0 ?_; refine Tm ?_; refine On ?_; refine WP_ret ?_; refine block_r ?_; refine then_r ?_)); rotate_left 1)); rotate_left 1; (focus (refine Tn ?_; refine Tn ?_; refine Tn ?_; refine Tn ?_; refine Tp0 ?_; refine Tm ?_; refine Tn ?_; refine Tn ?_; refine Tn ?_; refine Tn ?_; refine Tn ?_; refine Tn ?_; refine Tp0 ?_; refine Tm ?_; refine On ?_; refine WP_ret ?_; refine block_r ?_; refine then_r ?_)); rotate_left 1)); rotate_left 2; (focus (refine Wr ?_; refine Tc ?_; refine Tm ?_; refine On ?_; refine Wc ?_ ?_ <;> intro c4_10 <;> (first | simp [*] at c4_10; done | try simp at c4_10); (focus (refine Wr ?_; refine Tf ?_; refine Tl ?_; refine Lo m0 ?_; refine Tlen ?_; refine Tc ?_; refine Tm ?_; refine On ?_; refine WP_ret ?_; refine block_r ?_; refine then_r ?_)); rotate_left 1; (focus (refine WP_skip ?_; refine block_n ?_; refine then_n ?_; refine Wr ?_; refine Tm ?_; refine On ?_; refine WP_ret ?_)); rotate_left 1)); rotate_left 2)); rotate_left 4)); rotate_left 6))
      all_goals refine pret (.inl rfl) rfl ⟨_, _, rfl, rfl, rfl⟩ ?_
      all_goals (rw [hnb]; clear hnb hf hl hk hlt; simp only [resOf, kindB, oneB_ne h1']; first | (simp [*]; done) | (simp [*]; omega))
theorem compare_s {h : Frag} {n m : Nd} {vs us : List Value} (hn : NodeC 4398046511104 h n vs) (hm : NodeC 4398046511104 h m us) : PSpec Tryz.prog 81 #[.agg vs.toArray, .agg us.toArray] h (fun _ v => v = .int .i64 (cmpID n.id m.id)) := by
  obtain ⟨p, c, rfl, hf⟩ := hn
  obtain ⟨p', c', rfl, hg⟩ := hm
  obtain ⟨⟨i1, i2⟩, kd, cl, fs⟩ := n
  obtain ⟨⟨j1, j2⟩, kd', cl', fs'⟩ := m
  refine pspec_of (vs := [.agg [Value.int .i64 i1, .int .i64 i2, .int .i64 kd, .int .i64 cl, .slice p fs.length c].toArray, .agg [Value.int .i64 j1, .int .i64 j2, .int .i64 kd', .int .i64 cl', .slice p' fs'.length c'].toArray]) Tryz.func81 Tryz.ntmps81 rfl rfl ?_
  (focus (refine Wr ?_; refine Tbx ?_; intro b0_1; refine Tbx ?_; intro b0_2; refine Tm ?_; refine On ?_; refine Wr ?_; refine Tf ?_; refine Tl ?_; refine L_sub (Rd.own m1) (ty rfl) rfl ?_; refine Tf ?_; refine Tl ?_; refine L_sub (Rd.own m0) (ty rfl) rfl ?_; refine S_c rfl rfl rfl (C_callv (order_s _ (_, _) (_, _)) rfl rfl ⟨_, _, rfl, ⟨_, _, rfl, rfl, rfl⟩, rfl⟩ (cal rfl) ?_); refine Tm ?_; refine On ?_; refine WP_ret ?_))
  refine pret (.inl rfl) rfl ⟨_, _, rfl, rfl, rfl⟩ ?_
  simp only [resOf]
/-- valid nodes, strictly increasing by identity -/
def valAux : Option Nd → List Nd → Bool
  | _, [] => true
  | p, x :: r => nodeB x && ((match p with | none => true | some y => decide (cmpID y.id x.id < 0)) && valAux (some x) r)
def validG (g : List Nd) : Bool := valAux none g
def prev (g : List Nd) (k : Nat) : Option Nd := match k with | 0 => none | j + 1 => g[j]?
theorem valAux_drop {g : List Nd} {k : Nat} {x : Nd} (hx : g[k]? = some x) : valAux (prev g k) (g.drop k) = (nodeB x && ((match prev g k with | none => true | some y => decide (cmpID y.id x.id < 0)) && valAux (prev g (k + 1)) (g.drop (k + 1)))) := by
  rw [drop_get hx]
  have : prev g (k + 1) = some x := hx
  rw [this]
  simp only [valAux]
attribute [local irreducible] validG valAux
theorem valid_s {h : Frag} {g : List Nd} {vs : List Value} (hg : GraphC 4398046511104 h g vs) : PSpec Tryz.prog 79 #[.agg vs.toArray] h (fun _ v => v = .bool (validG g)) := by
  obtain ⟨p, c, rfl, hf⟩ := hg
  have hl := hf.le
  refine pspec_of (vs := [.agg [Value.slice p g.length c].toArray]) Tryz.func79 Tryz.ntmps79 rfl rfl ?_
  (focus (refine Wr ?_; refine Tbx ?_; intro b0_1; refine Tm ?_; refine On ?_; refine WP_seq ?_; refine Wr ?_; refine Tf ?_; refine Tl ?_; refine L_one (Rd.own m0) (ty rfl) ?_; refine Tlen ?_; refine Tm ?_; refine On ?_; refine WP_block ?_))
  (refine WP_loopC (α := Nat) [7, 6, 1] (fun (k : Nat) => g.length - k) (fun (k : Nat) => [(8, .int .i64 k)]) (fun hh (k : Nat) => hh = h ∧ k ≤ g.length ∧ valAux (prev g k) (g.drop k) = validG g) 0 ⟨_, _, rfl, ⟨_, _, rfl, ⟨_, _, rfl, rfl, rfl⟩, rfl⟩, rfl⟩ (by repeat' first | exact trivial | refine ⟨rfl, ?_⟩) ?_ ?_)
  · exact ⟨rfl, Nat.zero_le _, by rw [validG]; rfl⟩
  rintro h1 k _ ⟨rfl, hk, ht⟩
  by_cases hlt : k < g.length
  · obtain ⟨x, ex⟩ := get_of hlt
    have hs := valAux_drop ex
    rw [ht] at hs
    by_cases h0 : k = 0
    · subst h0
      (focus (refine Wr ?_; refine Tc ?_; refine On ?_; refine WP_seq ?_; refine Wc ?_ ?_ <;> intro c2_1 <;> (first | simp [*] at c2_1; done | try simp at c2_1); refine WP_skip ?_; refine then_n ?_; refine WP_seq ?_; refine WP_block ?_; refine Wr ?_; refine Tm ?_; refine Ti ?_; refine Tl ?_; refine Le ?_; rintro _ _ _ ⟨pn2_2, qn2_2, rfl, fn2_2⟩; refine Tal ?_; intro b2_3; refine Tm ?_; refine Tw u0 ?_; refine On ?_; refine WP_seq ?_; refine R_draw (n := 18) mixed rfl ?_; refine Va 0 ?_; refine Vl 1 ?_; refine Lg m0 ?_; refine Va 1 ?_; refine A_c (m' := 3) rfl rfl rfl rfl (by decide +kernel) (C_callv (validNode_s ⟨_, _, rfl, by assumption⟩) rfl rfl ⟨_, _, rfl, rfl, rfl⟩ (cal rfl) ?_); refine Va 2 ?_; refine A_q (m' := 7) rfl rfl rfl (Q_not rfl rfl) rfl (by decide +kernel) ?_; refine Va 3 ?_; refine Vm 15 ?_; refine Va 4 ?_; refine Vgs ?_ ?_ <;> intro c2_4 <;> (first | simp [*] at c2_4; done | try simp at c2_4); (focus (refine Va 4 ?_; refine Vn 31 ?_; refine Va 5 ?_; refine Vn 63 ?_; refine Va 6 ?_; refine Vn 127 ?_; refine Va 7 ?_; refine Vu 255 ?_; refine Va 8 ?_; refine Vu 511 ?_; refine Va 9 ?_; refine Vu 1023 ?_; refine Va 10 ?_; refine Vu 2047 ?_; refine Va 11 ?_; refine Vu 4095 ?_; refine Va 12 ?_; refine Vu 8191 ?_; refine Va 13 ?_; refine Vu 16383 ?_; refine Va 14 ?_; refine Vu 32767 ?_; refine Va 15 ?_; refine Vu 65535 ?_; refine Va 16 ?_; refine Vn 131071 ?_; refine Va 17 ?_; refine A_q (m' := 262143) rfl rfl rfl (Q_pick_t rfl rfl rfl) rfl (by decide +kernel) ?_; refine A_done (by decide +kernel) ?_; refine then_n ?_; refine cond_t rfl ?_; refine Wr ?_; refine Tm ?_; refine On ?_; refine WP_ret ?_; refine block_r ?_; refine then_r ?_; refine roundF_r ?_; refine block_r ?_; refine then_r ?_)); rotate_left 1; (focus (refine Va 4 ?_; refine Vgm 31 ?_; refine Va 5 ?_; refine A_gq (m' := 63) rfl rfl rfl rfl rfl rfl (Q_cmp rfl rfl rfl rfl) rfl (by decide +kernel) ?_; refine Va 6 ?_; refine Vgm 127 ?_; refine Va 7 ?_; refine Vgs ?_ ?_ <;> intro c2_5 <;> (first | simp [*] at c2_5; done | try simp at c2_5); refine Va 7 ?_; refine Vn 255 ?_; refine Va 8 ?_; refine Vn 511 ?_; refine Va 9 ?_; refine Vn 1023 ?_; refine Va 10 ?_; refine Vn 2047 ?_; refine Va 11 ?_; refine Vn 4095 ?_; refine Va 12 ?_; refine Vn 8191 ?_; refine Va 13 ?_; refine Vn 16383 ?_; refine Va 14 ?_; refine Vn 32767 ?_; refine Va 15 ?_; refine Vn 65535 ?_; refine Va 16 ?_; refine A_gq (m' := 131071) rfl rfl rfl rfl rfl rfl (Q_pick_f rfl rfl rfl) rfl (by decide +kernel) ?_; refine Va 17 ?_; refine A_q (m' := 262143) rfl rfl rfl (Q_pick_f rfl rfl rfl) rfl (by decide +kernel) ?_; refine A_done (by decide +kernel) ?_; refine then_n ?_; refine cond_f rfl ?_; refine WP_skip ?_; refine block_n ?_; refine then_n ?_; refine R_region ?_; refine Ta ?_; refine Tm ?_; refine OPS_nil ?_)); rotate_left 1))
      · refine pret (.inl rfl) rfl ⟨_, _, rfl, rfl, rfl⟩ ?_
        rw [hs]; simp_all [resOf]
      · refine roundF_n 1 (by omega) ⟨rfl, by omega, ?_⟩ (by repeat' first | exact sR _ | exact sA _ _ | exact sN _ | apply s2 | apply s1) (by repeat' first | exact trivial | refine ⟨rfl, ?_⟩)
        rw [hs]; simp_all [prev]
    · obtain ⟨j, rfl⟩ : ∃ j, k = j + 1 := ⟨k - 1, by omega⟩
      obtain ⟨y, ey⟩ := get_of (xs := g) (k := j) (by omega)
      have hp : prev g (j + 1) = some y := ey
      rw [hp] at hs
      simp only at hs
      (focus (refine Wr ?_; refine Tc ?_; refine On ?_; refine WP_seq ?_; refine Wc ?_ ?_ <;> intro c3_1 <;> (first | simp [*] at c3_1; done | try simp at c3_1); (focus (refine WP_skip ?_; refine then_n ?_; refine WP_seq ?_; refine WP_block ?_; refine Wr ?_; refine Tm ?_; refine Ti ?_; refine Tl ?_; refine Le ?_; rintro _ _ _ ⟨pn3_2, qn3_2, rfl, fn3_2⟩; refine Tal ?_; intro b3_3; refine Tm ?_; refine Tw u0 ?_; refine On ?_; refine WP_seq ?_; refine R_draw (n := 18) mixed rfl ?_; refine Va 0 ?_; refine Vl 1 ?_; refine Lg m0 ?_; refine Va 1 ?_; refine A_c (m' := 3) rfl rfl rfl rfl (by decide +kernel) (C_callv (validNode_s ⟨_, _, rfl, by assumption⟩) rfl rfl ⟨_, _, rfl, rfl, rfl⟩ (cal rfl) ?_); refine Va 2 ?_; refine A_q (m' := 7) rfl rfl rfl (Q_not rfl rfl) rfl (by decide +kernel) ?_; refine Va 3 ?_; refine Vm 15 ?_; refine Va 4 ?_; refine Vgs ?_ ?_ <;> intro c3_4 <;> (first | simp [*] at c3_4; done | try simp at c3_4); (focus (refine Va 4 ?_; refine Vn 31 ?_; refine Va 5 ?_; refine Vn 63 ?_; refine Va 6 ?_; refine Vn 127 ?_; refine Va 7 ?_; refine Vu 255 ?_; refine Va 8 ?_; refine Vu 511 ?_; refine Va 9 ?_; refine Vu 1023 ?_; refine Va 10 ?_; refine Vu 2047 ?_; refine Va 11 ?_; refine Vu 4095 ?_; refine Va 12 ?_; refine Vu 8191 ?_; refine Va 13 ?_; refine Vu 16383 ?_; refine Va 14 ?_; refine Vu 32767 ?_; refine Va 15 ?_; refine Vu 65535 ?_; refine Va 16 ?_; refine Vn 131071 ?_; refine Va 17 ?_; refine A_q (m' := 262143) rfl rfl rfl (Q_pick_t rfl rfl rfl) rfl (by decide +kernel) ?_; refine A_done (by decide +kernel) ?_; refine then_n ?_; refine cond_t rfl ?_; refine Wr ?_; refine Tm ?_; refine On ?_; refine WP_ret ?_; refine block_r ?_; refine then_r ?_; refine roundF_r ?_; refine block_r ?_; refine then_r ?_)); rotate_left 1; (focus (refine Va 4 ?_; refine Vgm 31 ?_; refine Va 5 ?_; refine A_gq (m' := 63) rfl rfl rfl rfl rfl rfl (Q_cmp rfl rfl rfl rfl) rfl (by decide +kernel) ?_; refine Va 6 ?_; refine Vgm 127 ?_; refine Va 7 ?_; refine Vgs ?_ ?_ <;> intro c3_5 <;> (first | simp [*] at c3_5; done | try simp at c3_5); refine Va 7 ?_; refine A_gq (m' := 255) rfl rfl rfl rfl rfl rfl (Q_fieldAddr rfl rfl (fld rfl rfl)) rfl (by decide +kernel) ?_; refine Va 8 ?_; refine Vgl 511 ?_; refine L_one (Rd.own m1) (ty rfl) ?_; refine Va 9 ?_; refine Vgm 1023 ?_; refine Va 10 ?_; refine A_gq (m' := 2047) rfl rfl rfl rfl rfl rfl (Q_sub rfl rfl rfl (by omega)) rfl (by decide +kernel) ?_; refine Va 11 ?_; refine A_gq (m' := 4095) rfl rfl rfl rfl rfl rfl (Q_indexS ‹_› ‹_› rfl rfl rfl (elm rfl) (by omega)) rfl (by decide +kernel) ?_; refine Va 12 ?_; refine Vgl 8191 ?_; refine Le ?_; rintro _ _ _ ⟨pn3_6, qn3_6, rfl, fn3_6⟩; refine Va 13 ?_; refine Vgl 16383 ?_; refine Lg m0 ?_; refine Va 14 ?_; refine A_gc (m' := 32767) rfl rfl rfl rfl rfl rfl rfl (by decide +kernel) (C_callv (compare_s ⟨_, _, rfl, by assumption⟩ ⟨_, _, rfl, by assumption⟩) rfl rfl ⟨_, _, rfl, ⟨_, _, rfl, rfl, rfl⟩, rfl⟩ (cal rfl) ?_); refine Va 15 ?_; refine A_gq (m' := 65535) rfl rfl rfl rfl rfl rfl (Q_cmp rfl rfl rfl rfl) rfl (by decide +kernel) ?_; refine Va 16 ?_; refine A_gq (m' := 131071) rfl rfl rfl rfl rfl rfl (Q_pick_t rfl rfl rfl) rfl (by decide +kernel) ?_; refine Va 17 ?_; refine A_q (m' := 262143) rfl rfl rfl (Q_pick_f rfl rfl rfl) rfl (by decide +kernel) ?_; refine A_done (by decide +kernel) ?_; refine then_n ?_; refine Wc ?_ ?_ <;> intro c3_7 <;> (first | simp [*] at c3_7; done | try simp at c3_7); (focus (refine Wr ?_; refine Tm ?_; refine On ?_; refine WP_ret ?_; refine block_r ?_; refine then_r ?_; refine roundF_r ?_; refine block_r ?_; refine then_r ?_)); rotate_left 1; (focus (refine WP_skip ?_; refine block_n ?_; refine then_n ?_; refine R_region ?_; refine Ta ?_; refine Tm ?_; refine OPS_nil ?_)); rotate_left 1)); rotate_left 2)); rotate_left 3; (focus (exfalso; omega))))
      · refine pret (.inl rfl) rfl ⟨_, _, rfl, rfl, rfl⟩ ?_
        rw [hs]; clear hs ht; simp [resOf, *]
      · refine pret (.inl rfl) rfl ⟨_, _, rfl, rfl, rfl⟩ ?_
        rw [hs]; clear hs ht; simp [resOf, *]; intro hh; omega
      · refine roundF_n (j + 2) (by omega) ⟨rfl, by omega, ?_⟩ (by repeat' first | exact sR _ | exact sA _ _ | exact sN _ | apply s2 | apply s1) (by repeat' first | exact trivial | refine ⟨rfl, ?_⟩)
        rw [hs]; clear hs ht; simp [*]
  · have hge : k = g.length := by omega
    subst hge
    (focus (refine Wr ?_; refine Tc ?_; refine On ?_; refine WP_seq ?_; refine Wc ?_ ?_ <;> intro c4_1 <;> (first | simp [*] at c4_1; done | try simp at c4_1); refine WP_exit ?_; refine then_e ?_; refine roundF_e ?_; refine block_e ?_; refine then_n ?_; refine Wr ?_; refine Tm ?_; refine On ?_; refine WP_ret ?_))
    refine pret (.inl rfl) rfl ⟨_, _, rfl, rfl, rfl⟩ ?_
    rw [← ht, List.drop_length, valAux]; rfl
/-- a node found by its identity -/
def findG (g : List Nd) (id : ID) : Option Nd := g.find? fun n => decide (n.id = id)
def zeroN : Nd := ⟨(0, 0), 0, 0, []⟩
def idxI : Option Nat → Int
  | none => -1
  | some k => k
theorem findIdx_drop {α : Type} {p : α → Bool} {xs : List α} {k : Nat} {x : α} (hx : xs[k]? = some x) : ((xs.drop k).findIdx? p).map (· + k) = if p x then some k else ((xs.drop (k + 1)).findIdx? p).map (· + (k + 1)) := by
  rw [drop_get hx, List.findIdx?_cons]
  cases p x with
  | true => simp
  | false =>
    simp only [Bool.false_eq_true, if_false, Option.map_map]
    congr 1; funext y; simp only [Function.comp]; omega
attribute [local irreducible] idxI
theorem idxNode_s {α : Type} {C : CR α} {h : Frag} {a : Value} {xs : List α} {g : Nat} {cap : List Value} {p : α → Bool} (hs : SL h 5 C a xs) (hcal : callOk Tryz.prog g = true)
    (hfn : ∀ x vs, vs.length = 5 → ones vs = true → C h x vs → PSpec Tryz.prog g ([Value.agg vs.toArray] ++ cap).toArray h (fun _ v => v = .bool (p x))) :
    PSpec Tryz.prog 43 #[a, .func (.func g) #[] cap.toArray] h (fun _ v => v = .int .i64 (idxI (xs.findIdx? p))) := by
  have hl := hs.le
  refine pspec_of (vs := [a, .func (.func g) #[] cap.toArray]) Tryz.func43 Tryz.ntmps43 rfl rfl ?_
  (focus (refine Wr ?_; refine Tm ?_; refine On ?_; refine WP_seq ?_; refine Wr ?_; refine Tm ?_; refine S_q rfl rfl rfl (Q_lenS rfl rfl rfl rfl rfl rfl ‹_›) ?_; refine Tm ?_; refine On ?_; refine WP_block ?_))
  (refine WP_loopC (α := Nat) [7, 0, 1] (fun (k : Nat) => xs.length - k) (fun (k : Nat) => [(8, .int .i64 k)]) (fun hh (k : Nat) => hh = h ∧ k ≤ xs.length ∧ ((xs.drop k).findIdx? p).map (· + k) = xs.findIdx? p) 0 ⟨_, _, rfl, ⟨_, _, rfl, ⟨_, _, rfl, rfl, rfl⟩, rfl⟩, rfl⟩ (by repeat' first | exact trivial | refine ⟨rfl, ?_⟩) ?_ ?_)
  · exact ⟨rfl, Nat.zero_le _, by simp⟩
  rintro h1 k _ ⟨rfl, hk, ht⟩
  by_cases hlt : k < xs.length
  · obtain ⟨x, ex⟩ := get_of hlt
    have hod := findIdx_drop (p := p) ex
    rw [ht] at hod
    (focus (refine Wr ?_; refine Tc ?_; refine On ?_; refine WP_seq ?_; refine Wc ?_ ?_ <;> intro c2_1 <;> (first | simp [*] at c2_1; done | try simp at c2_1); refine WP_skip ?_; refine then_n ?_; refine WP_seq ?_; refine WP_block ?_; refine Wr ?_; refine Tm ?_; refine Tm ?_; refine On ?_; refine Wr ?_; refine Tm ?_; refine Tm ?_; refine Tm ?_; refine Ti ?_; refine Tl ?_; refine Le ?_))
    rintro vs e1 e2 e3
    (focus (refine S_c rfl rfl rfl (C_callCv (hfn _ _ ‹_› ‹_› ‹_›) rfl rfl rfl ⟨_, _, rfl, rfl, rfl⟩ hcal ?_); refine On ?_; refine Wc ?_ ?_ <;> intro c3_1 <;> (first | simp [*] at c3_1; done | try simp at c3_1); (focus (refine Wr ?_; refine Tm ?_; refine Tm ?_; refine On ?_; refine WP_ret ?_; refine block_r ?_; refine then_r ?_; refine roundF_r ?_; refine block_r ?_; refine then_r ?_)); rotate_left 1; (focus (refine WP_skip ?_; refine block_n ?_; refine then_n ?_; refine R_region ?_; refine Ta ?_; refine Tm ?_; refine OPS_nil ?_)); rotate_left 1))
    · refine pret (.inl rfl) rfl ⟨_, _, rfl, rfl, rfl⟩ ?_
      rw [hod]; simp_all [resOf, idxI]
    · refine roundF_n (k + 1) (by omega) ⟨rfl, by omega, ?_⟩ (by repeat' first | exact sR _ | exact sA _ _ | exact sN _ | apply s2 | apply s1) (by repeat' first | exact trivial | refine ⟨rfl, ?_⟩)
      rw [hod]; simp_all
  · have hge : k = xs.length := by omega
    subst hge
    (focus (refine Wr ?_; refine Tc ?_; refine On ?_; refine WP_seq ?_; refine Wc ?_ ?_ <;> intro c4_1 <;> (first | simp [*] at c4_1; done | try simp at c4_1); refine WP_exit ?_; refine then_e ?_; refine roundF_e ?_; refine block_e ?_; refine then_n ?_; refine Wr ?_; refine Tm ?_; refine On ?_; refine WP_ret ?_))
    · refine pret (.inl rfl) rfl ⟨_, _, rfl, rfl, rfl⟩ ?_
      rw [← ht]; simp [resOf, idxI]
theorem find1_s {h : Frag} {n : Nd} {vs : List Value} {id : ID} {b : Nat} (hb : At h b 0 (idc id)) (hn : NodeC 4398046511104 h n vs) : PSpec Tryz.prog 44 ([Value.agg vs.toArray] ++ [ptr b 0]).toArray h (fun _ v => v = .bool (decide (n.id = id))) := by
  obtain ⟨p, c, rfl, hf⟩ := hn
  obtain ⟨⟨i1, i2⟩, kd, cl, fs⟩ := n
  refine pspec_of (vs := [.agg [Value.int .i64 i1, .int .i64 i2, .int .i64 kd, .int .i64 cl, .slice p fs.length c].toArray, ptr b 0]) Tryz.func44 Tryz.ntmps44 rfl rfl ?_
  (focus (refine Wr ?_; refine Tbx ?_; intro b0_1; refine Tm ?_; refine On ?_; refine Wr ?_; refine Tf ?_; refine Tl ?_; refine L_sub (Rd.own m0) (ty rfl) rfl ?_; refine Tl ?_; refine Lp ?_; refine S_q rfl rfl rfl (Q_eqI eqID rfl rfl rfl rfl rfl) ?_; refine Tm ?_; refine On ?_; refine WP_ret ?_))
  refine pret (.inl rfl) rfl ⟨_, _, rfl, rfl, rfl⟩ ?_
  simp only [resOf]
theorem copyNode_s {h : Frag} {n : Nd} {vs : List Value} (hn : NodeC 4398046511104 h n vs) : PSpec Tryz.prog 45 #[.agg vs.toArray] h (fun h' v => ∃ p c, v = .agg #[.int .i64 n.id.1, .int .i64 n.id.2, .int .i64 n.kind, .int .i64 n.cls, .slice p n.fields.length c] ∧ SL h' 4 ValC (.slice p n.fields.length c) n.fields) := by
  obtain ⟨p, c, rfl, hf⟩ := hn
  obtain ⟨⟨i1, i2⟩, kd, cl, fs⟩ := n
  refine pspec_of (vs := [.agg [Value.int .i64 i1, .int .i64 i2, .int .i64 kd, .int .i64 cl, .slice p fs.length c].toArray]) Tryz.func45 Tryz.ntmps45 rfl rfl ?_
  simp only at hf
  (focus (refine Wr ?_; refine Tbx ?_; intro b0_1; refine Tal ?_; intro b0_2; refine On ?_; refine Wr ?_; refine Tf ?_; refine Tl ?_; refine Lo m1 ?_; refine S_c rfl rfl rfl (C_call (cloneVals_s ‹_›) rfl rfl ⟨_, _, rfl, rfl, rfl⟩ (cal rfl) ?_); rintro h0_3 _ l0_3 ⟨p0_3, q0_3, rfl, f0_3⟩; replace hf := hf.up l0_3; refine Tf ?_; refine S_w0 rfl rfl (W_fld rfl rfl rfl (ty rfl) u1 rfl rfl rfl rfl ?_); refine On ?_; refine Wr ?_; refine Tl ?_; refine Lg m1 ?_; refine Tw u0 ?_; refine On ?_; refine WP_ret ?_))
  exact pret (.inl rfl) rfl ⟨_, _, _, rfl, Loads_agg (Rd.own m0) (ty rfl) rfl, rfl, rfl⟩ ⟨_, _, rfl, by assumption⟩
theorem sameNode_s {h : Frag} {n m : Nd} {vs us : List Value} (hn : NodeC 4398046511104 h n vs) (hm : NodeC 4398046511104 h m us) : PSpec Tryz.prog 50 #[.agg vs.toArray, .agg us.toArray] h (fun _ v => v = .bool (decide (n = m))) := by
  obtain ⟨p, c, rfl, hf⟩ := hn
  obtain ⟨p', c', rfl, hg⟩ := hm
  obtain ⟨⟨i1, i2⟩, kd, cl, fs⟩ := n
  obtain ⟨⟨j1, j2⟩, kd', cl', fs'⟩ := m
  refine pspec_of (vs := [.agg [Value.int .i64 i1, .int .i64 i2, .int .i64 kd, .int .i64 cl, .slice p fs.length c].toArray, .agg [Value.int .i64 j1, .int .i64 j2, .int .i64 kd', .int .i64 cl', .slice p' fs'.length c'].toArray]) Tryz.func50 Tryz.ntmps50 rfl rfl ?_
  simp only at hf hg
  (focus (refine Wr ?_; refine Tbx ?_; intro b0_1; refine Tbx ?_; intro b0_2; refine Tm ?_; refine On ?_; refine Wr ?_; refine Tf ?_; refine Tl ?_; refine L_sub (Rd.own m1) (ty rfl) rfl ?_; refine Tf ?_; refine Tl ?_; refine L_sub (Rd.own m0) (ty rfl) rfl ?_; refine S_q rfl rfl rfl (Q_eqI eqID rfl rfl rfl rfl rfl) ?_; refine Tm ?_; refine S_gsplit rfl rfl rfl rfl (fun c0_3 => ?_) (fun c0_3 => ?_) <;> (try simp at c0_3); (focus (refine Ugf ?_; refine Ugl ?_; refine Lo m1 ?_; refine Ugf ?_; refine Ugl ?_; refine Lo m0 ?_; refine Ugc ?_; refine Tp1 ?_; refine Tm ?_; refine S_gsplit rfl rfl rfl rfl (fun c0_4 => ?_) (fun c0_4 => ?_) <;> (try simp at c0_4); (focus (refine Ugf ?_; refine Ugl ?_; refine Lo m1 ?_; refine Ugf ?_; refine Ugl ?_; refine Lo m0 ?_; refine Ugc ?_; refine Tp1 ?_; refine Tm ?_; refine S_gsplit rfl rfl rfl rfl (fun c0_5 => ?_) (fun c0_5 => ?_) <;> (try simp at c0_5); (focus (refine Ugf ?_; refine Ugl ?_; refine Lo m1 ?_; refine Ugf ?_; refine Ugl ?_; refine Lo m0 ?_; refine S_gc rfl rfl rfl rfl rfl rfl (C_callv (eqVals_s ‹_› ‹_›) rfl rfl ⟨_, _, rfl, ⟨_, _, rfl, rfl, rfl⟩, rfl⟩ (cal rfl) ?_); refine Tp1 ?_; refine Tm ?_; refine On ?_; refine WP_ret ?_)); rotate_left 1; (focus (refine Tn ?_; refine Tn ?_; refine Tn ?_; refine Tn ?_; refine Tn ?_; refine Tp0 ?_; refine Tm ?_; refine On ?_; refine WP_ret ?_)); rotate_left 1)); rotate_left 2; (focus (refine Tn ?_; refine Tn ?_; refine Tn ?_; refine Tn ?_; refine Tn ?_; refine Tp0 ?_; refine Tm ?_; refine Tn ?_; refine Tn ?_; refine Tn ?_; refine Tn ?_; refine Tn ?_; refine Tp0 ?_; refine Tm ?_; refine On ?_; refine WP_ret ?_)); rotate_left 1)); rotate_left 3; (focus (refine Tn ?_; refine Tn ?_; refine Tn ?_; refine Tn ?_; refine Tn ?_; refine Tp0 ?_; refine Tm ?_; refine Tn ?_; refine Tn ?_; refine Tn ?_; refine Tn ?_; refine Tn ?_; refine Tp0 ?_; refine Tm ?_; refine Tn ?_; refine Tn ?_; refine Tn ?_; refine Tn ?_; refine Tn ?_; refine Tp0 ?_; refine Tm ?_; refine On ?_; refine WP_ret ?_)); rotate_left 1))
  all_goals refine pret (.inl rfl) rfl ⟨_, _, rfl, rfl, rfl⟩ ?_
  all_goals simp_all [resOf]
theorem findIdx_find {α : Type} {p : α → Bool} : ∀ {xs : List α} {k : Nat}, xs.findIdx? p = some k → ∃ x, xs[k]? = some x ∧ xs.find? p = some x
  | [], _, e => by simp at e
  | x :: xs, k, e => by
    rw [List.findIdx?_cons] at e
    cases hp : p x with
    | true => rw [hp] at e; simp at e; subst e; exact ⟨x, rfl, by simp [hp]⟩
    | false =>
      rw [hp] at e
      simp only [Bool.false_eq_true, if_false, Option.map_eq_some_iff] at e
      obtain ⟨j, hj, rfl⟩ := e
      obtain ⟨y, h1, h2⟩ := findIdx_find hj
      exact ⟨y, by simpa using h1, by simp [hp, h2]⟩
theorem findIdx_none {α : Type} {p : α → Bool} {xs : List α} (e : xs.findIdx? p = none) : xs.find? p = none := by
  simp only [List.findIdx?_eq_none_iff] at e
  simpa using e
theorem find_s {h : Frag} {g : List Nd} {vs : List Value} {id : ID} (hg : GraphC 4398046511104 h g vs) : PSpec Tryz.prog 14 #[.agg vs.toArray, .agg (idc id).toArray] h
    (fun h' v => ∃ us, v = .tuple #[.agg us.toArray, .bool (findG g id).isSome] ∧ NodeC 4398046511104 h' ((findG g id).getD zeroN) us) := by
  obtain ⟨p, c, rfl, hf⟩ := hg
  have hl := hf.le
  refine pspec_of (vs := [.agg [Value.slice p g.length c].toArray, .agg (idc id).toArray]) Tryz.func14 Tryz.ntmps14 rfl rfl ?_
  (focus (refine Wr ?_; refine Tbx ?_; intro b0_1; refine Tbx ?_; intro b0_2; refine Tal ?_; intro b0_3; refine Tm ?_; refine On ?_; refine Wr ?_; refine Tf ?_; refine Tl ?_; refine L_one (Rd.own m2) (ty rfl) ?_; refine S_q rfl rfl rfl (Q_makeFunc rfl rfl ⟨_, _, rfl, rfl, rfl⟩) ?_))
  (focus (refine OPS_keepM [_] [_] _ rfl ?_; rintro h1_k l1_k k1_k; have a1_k := at_of_keep k1_k; clear k1_k; replace hf := hf.up l1_k))
  refine S_c rfl rfl rfl (C_callv (idxNode_s (cap := [ptr b0_2 0]) hf (cal rfl) (fun x vs _ _ hx => find1_s a1_k hx)) rfl rfl ⟨_, _, rfl, ⟨_, _, rfl, rfl, rfl⟩, rfl⟩ (cal rfl) ?_)
  cases hi : g.findIdx? (fun n => decide (n.id = id)) with
  | none =>
    simp only [idxI]
    have hx' : findG g id = none := findIdx_none hi
    (focus (refine Tm ?_; refine On ?_; refine WP_seq ?_; refine Wr ?_; refine Tm ?_; refine Tc ?_; refine On ?_; refine cond_t rfl ?_; refine Wr ?_; refine S_q rfl rfl rfl (Q_build rfl (by decide +kernel) (zer rfl) rfl rfl) ?_; refine Tw u0 ?_; refine Tm ?_; refine On ?_; refine WP_ret ?_; refine then_r ?_))
    refine pret (.inl rfl) rfl ⟨_, _, _, rfl, Loads_agg (Rd.own m0) (ty rfl) rfl, ⟨_, _, rfl, rfl, rfl⟩, rfl⟩ ?_
    rw [hx']
    exact ⟨_, rfl, none, 0, rfl, SLB.nil _ _ _ _ _ _⟩
  | some k =>
    simp only [idxI]
    obtain ⟨x, ex, hx⟩ := findIdx_find hi
    have hx' : findG g id = some x := hx
    (focus (refine Tm ?_; refine On ?_; refine WP_seq ?_; refine Wr ?_; refine Tm ?_; refine Tc ?_; refine On ?_; refine cond_f rfl ?_; refine WP_skip ?_; refine then_n ?_; refine Wr ?_; refine Tf ?_; refine Tl ?_; refine L_one (Rd.own m1) (ty rfl) ?_; refine Tm ?_; refine Ti ?_; refine Tl ?_; refine Le ?_; rintro _ _ _ ⟨pn3_1, qn3_1, rfl, fn3_1⟩; refine S_c rfl rfl rfl (C_call (copyNode_s ⟨_, _, rfl, by assumption⟩) rfl rfl ⟨_, _, rfl, rfl, rfl⟩ (cal rfl) ?_); rintro h3_2 _ l3_2 ⟨pc3_2, qc3_2, rfl, fc3_2⟩; replace a1_k := a1_k.up l3_2; replace hf := hf.up l3_2; replace fn3_1 := fn3_1.up l3_2; refine Tw u0 ?_; refine Tm ?_; refine On ?_; refine WP_ret ?_))
    refine pret (.inl rfl) rfl ⟨_, _, _, rfl, Loads_agg (Rd.own m0) (ty rfl) rfl, ⟨_, _, rfl, rfl, rfl⟩, rfl⟩ ?_
    rw [hx']
    exact ⟨_, rfl, _, _, rfl, by assumption⟩
attribute [local irreducible] findG
theorem eqFunc_s {h : Frag} {a b : Value} {xs ys : List Nd} {g : Nat} (hx : SL h 5 (NodeC 4398046511104) a xs) (hy : SL h 5 (NodeC 4398046511104) b ys) (hcal : callOk Tryz.prog g = true)
    (hfn : ∀ x vs y us, NodeC 4398046511104 h x vs → NodeC 4398046511104 h y us → PSpec Tryz.prog g ([Value.agg vs.toArray, Value.agg us.toArray] ++ []).toArray h (fun _ v => v = .bool (decide (x = y)))) :
    PSpec Tryz.prog 49 #[a, b, .func (.func g) #[] #[]] h (fun _ v => v = .bool (decide (xs = ys))) := by
  have hxl := hx.le
  have hyl := hy.le
  refine pspec_of (vs := [a, b, .func (.func g) #[] #[]]) Tryz.func49 Tryz.ntmps49 rfl rfl ?_
  (focus (refine Wr ?_; refine Tm ?_; refine On ?_; refine WP_seq ?_; refine Wr ?_; refine Tm ?_; refine S_q rfl rfl rfl (Q_lenS rfl rfl rfl rfl rfl rfl ‹_›) ?_; refine Tm ?_; refine S_q rfl rfl rfl (Q_lenS rfl rfl rfl rfl rfl rfl ‹_›) ?_; refine Tc ?_; refine On ?_; refine Wc ?_ ?_ <;> intro c0_1 <;> (first | simp [*] at c0_1; done | try simp at c0_1); (focus (refine Wr ?_; refine Tm ?_; refine On ?_; refine WP_ret ?_; refine then_r ?_)); rotate_left 1; (focus (refine WP_skip ?_; refine then_n ?_; refine WP_seq ?_; refine Wr ?_; refine Tm ?_; refine S_q rfl rfl rfl (Q_lenS rfl rfl rfl rfl rfl rfl ‹_›) ?_; refine Tm ?_; refine On ?_; refine WP_block ?_)); rotate_left 1))
  · have : xs ≠ ys := fun e => by rw [e] at c0_1; simp at c0_1
    refine pret (.inl rfl) rfl ⟨_, _, rfl, rfl, rfl⟩ ?_
    simp [resOf, this]
  have hlen : xs.length = ys.length := by omega
  (refine WP_loopC (α := Nat) [16, 15, 1, 2] (fun (k : Nat) => xs.length - k) (fun (k : Nat) => [(17, .int .i64 k)]) (fun hh (k : Nat) => hh = h ∧ k ≤ xs.length ∧ xs.take k = ys.take k) 0 ⟨_, _, rfl, ⟨_, _, rfl, ⟨_, _, rfl, ⟨_, _, rfl, rfl, rfl⟩, rfl⟩, rfl⟩, rfl⟩ (by repeat' first | exact trivial | refine ⟨rfl, ?_⟩) ?_ ?_)
  · exact ⟨rfl, Nat.zero_le _, rfl⟩
  rintro h1 k _ ⟨rfl, hk, ht⟩
  by_cases hlt : k < xs.length
  · obtain ⟨x, ex⟩ := get_of hlt
    obtain ⟨y, ey⟩ := get_of (xs := ys) (k := k) (by omega)
    (focus (refine Wr ?_; refine Tc ?_; refine On ?_; refine WP_seq ?_; refine Wc ?_ ?_ <;> intro c2_1 <;> (first | simp [*] at c2_1; done | try simp at c2_1); (focus (refine WP_skip ?_; refine then_n ?_; refine WP_seq ?_; refine WP_block ?_; refine Wr ?_; refine Tm ?_; refine Ti ?_; refine Tl ?_; refine Le ?_; rintro _ _ _ ⟨pn2_2, qn2_2, rfl, fn2_2⟩; refine Tal ?_; intro b2_3; refine Tm ?_; refine Tw u0 ?_; refine On ?_; refine Wr ?_; refine Tm ?_; refine Tm ?_; refine Ti ?_; refine Tl ?_; refine Le ?_; rintro _ _ _ ⟨pn2_4, qn2_4, rfl, fn2_4⟩; refine Tal ?_; intro b2_5; refine Tw u0 ?_; refine On ?_; refine Wr ?_; refine Tm ?_; refine Tl ?_; refine Lg m1 ?_; refine Tl ?_; refine Lg m0 ?_)); rotate_left 1; (focus (exfalso; omega))))
    refine S_c rfl rfl rfl (C_callCv (cap := []) (hfn x _ y _ ⟨_, _, rfl, by assumption⟩ ⟨_, _, rfl, by assumption⟩) rfl rfl rfl ⟨_, _, rfl, ⟨_, _, rfl, rfl, rfl⟩, rfl⟩ hcal ?_)
    (focus (refine S_q rfl rfl rfl (Q_not rfl rfl) ?_; refine On ?_; refine Wc ?_ ?_ <;> intro c3_1 <;> (first | simp [*] at c3_1; done | try simp at c3_1); (focus (refine Wr ?_; refine Tm ?_; refine On ?_; refine WP_ret ?_; refine block_r ?_; refine then_r ?_; refine roundF_r ?_; refine block_r ?_; refine then_r ?_)); rotate_left 1; (focus (refine WP_skip ?_; refine block_n ?_; refine then_n ?_; refine R_region ?_; refine Ta ?_; refine Tm ?_; refine OPS_nil ?_)); rotate_left 1))
    · refine pret (.inl rfl) rfl ⟨_, _, rfl, rfl, rfl⟩ ?_
      have : xs ≠ ys := fun e => by subst e; rw [ex] at ey; cases ey; simp_all
      simp [resOf, this]
    · refine roundF_n (k + 1) (by omega) ⟨rfl, by omega, take_eq (x := x) ht ex ?_⟩ (by repeat' first | exact sR _ | exact sA _ _ | exact sN _ | apply s2 | apply s1) (by repeat' first | exact trivial | refine ⟨rfl, ?_⟩)
      rw [ey]; simp_all
  · have hge : k = xs.length := by omega
    subst hge
    (focus (refine Wr ?_; refine Tc ?_; refine On ?_; refine WP_seq ?_; refine Wc ?_ ?_ <;> intro c4_1 <;> (first | simp [*] at c4_1; done | try simp at c4_1); refine WP_exit ?_; refine then_e ?_; refine roundF_e ?_; refine block_e ?_; refine then_n ?_; refine Wr ?_; refine Tm ?_; refine On ?_; refine WP_ret ?_))
    · refine pret (.inl rfl) rfl ⟨_, _, rfl, rfl, rfl⟩ ?_
      have : xs = ys := by rw [List.take_of_length_le (Nat.le_refl _), List.take_of_length_le (by omega)] at ht; exact ht
      simp [resOf, this]
theorem equal_s {h : Frag} {g k : List Nd} {vs us : List Value} (hg : GraphC 4398046511104 h g vs) (hk : GraphC 4398046511104 h k us) : PSpec Tryz.prog 17 #[.agg vs.toArray, .agg us.toArray] h (fun _ v => v = .bool (decide (g = k))) := by
  obtain ⟨p, c, rfl, hf⟩ := hg
  obtain ⟨p', c', rfl, hf'⟩ := hk
  refine pspec_of (vs := [.agg [Value.slice p g.length c].toArray, .agg [Value.slice p' k.length c'].toArray]) Tryz.func17 Tryz.ntmps17 rfl rfl ?_
  (focus (refine Wr ?_; refine Tbx ?_; intro b0_1; refine Tbx ?_; intro b0_2; refine Tm ?_; refine On ?_; refine Wr ?_; refine Tf ?_; refine Tl ?_; refine L_one (Rd.own m1) (ty rfl) ?_; refine Tf ?_; refine Tl ?_; refine L_one (Rd.own m0) (ty rfl) ?_))
  refine S_c rfl rfl rfl (C_callv (eqFunc_s (g := 50) hf hf' (cal rfl) (fun x vs y us hx hy => by simpa using sameNode_s hx hy)) rfl rfl ⟨_, _, rfl, ⟨_, _, rfl, ⟨_, _, rfl, rfl, rfl⟩, rfl⟩, rfl⟩ (cal rfl) ?_)
  (focus (refine Tm ?_; refine On ?_; refine WP_ret ?_))
  refine pret (.inl rfl) rfl ⟨_, _, rfl, rfl, rfl⟩ ?_
  simp only [resOf]
end Go.Proofs.YtfhoecgiahpddaaGreat
/-
  CONTRACTS: slices searched (slices.IndexFunc, ContainsFunc, Index, Contains) at each of the types; identities that a list has.
-/
set_option linter.all false
namespace Go.Proofs.YtfhoecgiahpddaaGreat
open Go.Mesh Go.RowKit
set_option maxRecDepth 100000
set_option linter.unusedVariables false
set_option maxHeartbeats 4000000
attribute [local irreducible] WP OPS ANY ANYo LG LV FSpec PSpec QOP OPc OPw thenQ blockQ roundQ roundF retQ retM Rd At SLB OS cmpI orI cmpID namedB valB nodeB kindB validG valAux idxI findG
theorem idxI_any {α : Type} {p : α → Bool} {xs : List α} : decide (idxI (xs.findIdx? p) ≥ 0) = xs.any p := by
  cases h : xs.findIdx? p with
  | none =>
    simp only [List.findIdx?_eq_none_iff] at h
    simp only [idxI]
    have : xs.any p = false := by simpa using h
    simp [this]
  | some k =>
    obtain ⟨x, h1, h2⟩ := findIdx_find h
    have hp := List.find?_some h2
    have : xs.any p = true := by rw [List.any_eq_true]; exact ⟨x, List.mem_of_getElem? h1, hp⟩
    simp only [idxI]
    rw [this]; simp
theorem any_mem {α : Type} [DecidableEq α] {xs : List α} {x : α} : xs.any (fun y => decide (x = y)) = decide (x ∈ xs) := by
  induction xs with
  | nil => simp
  | cons y ys ih => simp [List.any_cons, ih]
theorem idxStub_s {α : Type} {C : CR α} {h : Frag} {a : Value} {xs : List α} {g : Nat} {cap : List Value} {p : α → Bool} (hs : SL h 12 C a xs) (hcal : callOk Tryz.prog g = true)
    (hfn : ∀ x vs, vs.length = 12 → ones vs = true → C h x vs → PSpec Tryz.prog g ([Value.agg vs.toArray] ++ cap).toArray h (fun _ v => v = .bool (p x))) :
    PSpec Tryz.prog 57 #[a, .func (.func g) #[] cap.toArray] h (fun _ v => v = .int .i64 (idxI (xs.findIdx? p))) := by
  have hl := hs.le
  refine pspec_of (vs := [a, .func (.func g) #[] cap.toArray]) Tryz.func57 Tryz.ntmps57 rfl rfl ?_
  (focus (refine Wr ?_; refine Tm ?_; refine On ?_; refine WP_seq ?_; refine Wr ?_; refine Tm ?_; refine S_q rfl rfl rfl (Q_lenS rfl rfl rfl rfl rfl rfl ‹_›) ?_; refine Tm ?_; refine On ?_; refine WP_block ?_))
  (refine WP_loopC (α := Nat) [7, 0, 1] (fun (k : Nat) => xs.length - k) (fun (k : Nat) => [(8, .int .i64 k)]) (fun hh (k : Nat) => hh = h ∧ k ≤ xs.length ∧ ((xs.drop k).findIdx? p).map (· + k) = xs.findIdx? p) 0 ⟨_, _, rfl, ⟨_, _, rfl, ⟨_, _, rfl, rfl, rfl⟩, rfl⟩, rfl⟩ (by repeat' first | exact trivial | refine ⟨rfl, ?_⟩) ?_ ?_)
  · exact ⟨rfl, Nat.zero_le _, by simp⟩
  rintro h1 k _ ⟨rfl, hk, ht⟩
  by_cases hlt : k < xs.length
  · obtain ⟨x, ex⟩ := get_of hlt
    have hod := findIdx_drop (p := p) ex
    rw [ht] at hod
    (focus (refine Wr ?_; refine Tc ?_; refine On ?_; refine WP_seq ?_; refine Wc ?_ ?_ <;> intro c2_1 <;> (first | simp [*] at c2_1; done | try simp at c2_1); refine WP_skip ?_; refine then_n ?_; refine WP_seq ?_; refine WP_block ?_; refine Wr ?_; refine Tm ?_; refine Tm ?_; refine On ?_; refine Wr ?_; refine Tm ?_; refine Tm ?_; refine Tm ?_; refine Ti ?_; refine Tl ?_; refine Le ?_))
    rintro vs e1 e2 e3
    (focus (refine S_c rfl rfl rfl (C_callCv (hfn _ _ ‹_› ‹_› ‹_›) rfl rfl rfl ⟨_, _, rfl, rfl, rfl⟩ hcal ?_); refine On ?_; refine Wc ?_ ?_ <;> intro c3_1 <;> (first | simp [*] at c3_1; done | try simp at c3_1); (focus (refine Wr ?_; refine Tm ?_; refine Tm ?_; refine On ?_; refine WP_ret ?_; refine block_r ?_; refine then_r ?_; refine roundF_r ?_; refine block_r ?_; refine then_r ?_)); rotate_left 1; (focus (refine WP_skip ?_; refine block_n ?_; refine then_n ?_; refine R_region ?_; refine Ta ?_; refine Tm ?_; refine OPS_nil ?_)); rotate_left 1))
    · refine pret (.inl rfl) rfl ⟨_, _, rfl, rfl, rfl⟩ ?_
      rw [hod]; simp_all [resOf, idxI]
    · refine roundF_n (k + 1) (by omega) ⟨rfl, by omega, ?_⟩ (by repeat' first | exact sR _ | exact sA _ _ | exact sN _ | apply s2 | apply s1) (by repeat' first | exact trivial | refine ⟨rfl, ?_⟩)
      rw [hod]; simp_all
  · have hge : k = xs.length := by omega
    subst hge
    (focus (refine Wr ?_; refine Tc ?_; refine On ?_; refine WP_seq ?_; refine Wc ?_ ?_ <;> intro c4_1 <;> (first | simp [*] at c4_1; done | try simp at c4_1); refine WP_exit ?_; refine then_e ?_; refine roundF_e ?_; refine block_e ?_; refine then_n ?_; refine Wr ?_; refine Tm ?_; refine On ?_; refine WP_ret ?_))
    · refine pret (.inl rfl) rfl ⟨_, _, rfl, rfl, rfl⟩ ?_
      rw [← ht]; simp [resOf, idxI]
theorem idxFlight_s {α : Type} {C : CR α} {h : Frag} {a : Value} {xs : List α} {g : Nat} {cap : List Value} {p : α → Bool} (hs : SL h 41 C a xs) (hcal : callOk Tryz.prog g = true)
    (hfn : ∀ x vs, vs.length = 41 → ones vs = true → C h x vs → PSpec Tryz.prog g ([Value.agg vs.toArray] ++ cap).toArray h (fun _ v => v = .bool (p x))) :
    PSpec Tryz.prog 86 #[a, .func (.func g) #[] cap.toArray] h (fun _ v => v = .int .i64 (idxI (xs.findIdx? p))) := by
  have hl := hs.le
  refine pspec_of (vs := [a, .func (.func g) #[] cap.toArray]) Tryz.func86 Tryz.ntmps86 rfl rfl ?_
  (focus (refine Wr ?_; refine Tm ?_; refine On ?_; refine WP_seq ?_; refine Wr ?_; refine Tm ?_; refine S_q rfl rfl rfl (Q_lenS rfl rfl rfl rfl rfl rfl ‹_›) ?_; refine Tm ?_; refine On ?_; refine WP_block ?_))
  (refine WP_loopC (α := Nat) [7, 0, 1] (fun (k : Nat) => xs.length - k) (fun (k : Nat) => [(8, .int .i64 k)]) (fun hh (k : Nat) => hh = h ∧ k ≤ xs.length ∧ ((xs.drop k).findIdx? p).map (· + k) = xs.findIdx? p) 0 ⟨_, _, rfl, ⟨_, _, rfl, ⟨_, _, rfl, rfl, rfl⟩, rfl⟩, rfl⟩ (by repeat' first | exact trivial | refine ⟨rfl, ?_⟩) ?_ ?_)
  · exact ⟨rfl, Nat.zero_le _, by simp⟩
  rintro h1 k _ ⟨rfl, hk, ht⟩
  by_cases hlt : k < xs.length
  · obtain ⟨x, ex⟩ := get_of hlt
    have hod := findIdx_drop (p := p) ex
    rw [ht] at hod
    (focus (refine Wr ?_; refine Tc ?_; refine On ?_; refine WP_seq ?_; refine Wc ?_ ?_ <;> intro c2_1 <;> (first | simp [*] at c2_1; done | try simp at c2_1); refine WP_skip ?_; refine then_n ?_; refine WP_seq ?_; refine WP_block ?_; refine Wr ?_; refine Tm ?_; refine Tm ?_; refine On ?_; refine Wr ?_; refine Tm ?_; refine Tm ?_; refine Tm ?_; refine Ti ?_; refine Tl ?_; refine Le ?_))
    rintro vs e1 e2 e3
    (focus (refine S_c rfl rfl rfl (C_callCv (hfn _ _ ‹_› ‹_› ‹_›) rfl rfl rfl ⟨_, _, rfl, rfl, rfl⟩ hcal ?_); refine On ?_; refine Wc ?_ ?_ <;> intro c3_1 <;> (first | simp [*] at c3_1; done | try simp at c3_1); (focus (refine Wr ?_; refine Tm ?_; refine Tm ?_; refine On ?_; refine WP_ret ?_; refine block_r ?_; refine then_r ?_; refine roundF_r ?_; refine block_r ?_; refine then_r ?_)); rotate_left 1; (focus (refine WP_skip ?_; refine block_n ?_; refine then_n ?_; refine R_region ?_; refine Ta ?_; refine Tm ?_; refine OPS_nil ?_)); rotate_left 1))
    · refine pret (.inl rfl) rfl ⟨_, _, rfl, rfl, rfl⟩ ?_
      rw [hod]; simp_all [resOf, idxI]
    · refine roundF_n (k + 1) (by omega) ⟨rfl, by omega, ?_⟩ (by repeat' first | exact sR _ | exact sA _ _ | exact sN _ | apply s2 | apply s1) (by repeat' first | exact trivial | refine ⟨rfl, ?_⟩)
      rw [hod]; simp_all
  · have hge : k = xs.length := by omega
    subst hge
    (focus (refine Wr ?_; refine Tc ?_; refine On ?_; refine WP_seq ?_; refine Wc ?_ ?_ <;> intro c4_1 <;> (first | simp [*] at c4_1; done | try simp at c4_1); refine WP_exit ?_; refine then_e ?_; refine roundF_e ?_; refine block_e ?_; refine then_n ?_; refine Wr ?_; refine Tm ?_; refine On ?_; refine WP_ret ?_))
    · refine pret (.inl rfl) rfl ⟨_, _, rfl, rfl, rfl⟩ ?_
      rw [← ht]; simp [resOf, idxI]
theorem idxScion_s {α : Type} {C : CR α} {h : Frag} {a : Value} {xs : List α} {g : Nat} {cap : List Value} {p : α → Bool} (hs : SL h 12 C a xs) (hcal : callOk Tryz.prog g = true)
    (hfn : ∀ x vs, vs.length = 12 → ones vs = true → C h x vs → PSpec Tryz.prog g ([Value.agg vs.toArray] ++ cap).toArray h (fun _ v => v = .bool (p x))) :
    PSpec Tryz.prog 103 #[a, .func (.func g) #[] cap.toArray] h (fun _ v => v = .int .i64 (idxI (xs.findIdx? p))) := by
  have hl := hs.le
  refine pspec_of (vs := [a, .func (.func g) #[] cap.toArray]) Tryz.func103 Tryz.ntmps103 rfl rfl ?_
  (focus (refine Wr ?_; refine Tm ?_; refine On ?_; refine WP_seq ?_; refine Wr ?_; refine Tm ?_; refine S_q rfl rfl rfl (Q_lenS rfl rfl rfl rfl rfl rfl ‹_›) ?_; refine Tm ?_; refine On ?_; refine WP_block ?_))
  (refine WP_loopC (α := Nat) [7, 0, 1] (fun (k : Nat) => xs.length - k) (fun (k : Nat) => [(8, .int .i64 k)]) (fun hh (k : Nat) => hh = h ∧ k ≤ xs.length ∧ ((xs.drop k).findIdx? p).map (· + k) = xs.findIdx? p) 0 ⟨_, _, rfl, ⟨_, _, rfl, ⟨_, _, rfl, rfl, rfl⟩, rfl⟩, rfl⟩ (by repeat' first | exact trivial | refine ⟨rfl, ?_⟩) ?_ ?_)
  · exact ⟨rfl, Nat.zero_le _, by simp⟩
  rintro h1 k _ ⟨rfl, hk, ht⟩
  by_cases hlt : k < xs.length
  · obtain ⟨x, ex⟩ := get_of hlt
    have hod := findIdx_drop (p := p) ex
    rw [ht] at hod
    (focus (refine Wr ?_; refine Tc ?_; refine On ?_; refine WP_seq ?_; refine Wc ?_ ?_ <;> intro c2_1 <;> (first | simp [*] at c2_1; done | try simp at c2_1); refine WP_skip ?_; refine then_n ?_; refine WP_seq ?_; refine WP_block ?_; refine Wr ?_; refine Tm ?_; refine Tm ?_; refine On ?_; refine Wr ?_; refine Tm ?_; refine Tm ?_; refine Tm ?_; refine Ti ?_; refine Tl ?_; refine Le ?_))
    rintro vs e1 e2 e3
    (focus (refine S_c rfl rfl rfl (C_callCv (hfn _ _ ‹_› ‹_› ‹_›) rfl rfl rfl ⟨_, _, rfl, rfl, rfl⟩ hcal ?_); refine On ?_; refine Wc ?_ ?_ <;> intro c3_1 <;> (first | simp [*] at c3_1; done | try simp at c3_1); (focus (refine Wr ?_; refine Tm ?_; refine Tm ?_; refine On ?_; refine WP_ret ?_; refine block_r ?_; refine then_r ?_; refine roundF_r ?_; refine block_r ?_; refine then_r ?_)); rotate_left 1; (focus (refine WP_skip ?_; refine block_n ?_; refine then_n ?_; refine R_region ?_; refine Ta ?_; refine Tm ?_; refine OPS_nil ?_)); rotate_left 1))
    · refine pret (.inl rfl) rfl ⟨_, _, rfl, rfl, rfl⟩ ?_
      rw [hod]; simp_all [resOf, idxI]
    · refine roundF_n (k + 1) (by omega) ⟨rfl, by omega, ?_⟩ (by repeat' first | exact sR _ | exact sA _ _ | exact sN _ | apply s2 | apply s1) (by repeat' first | exact trivial | refine ⟨rfl, ?_⟩)
      rw [hod]; simp_all
  · have hge : k = xs.length := by omega
    subst hge
    (focus (refine Wr ?_; refine Tc ?_; refine On ?_; refine WP_seq ?_; refine Wc ?_ ?_ <;> intro c4_1 <;> (first | simp [*] at c4_1; done | try simp at c4_1); refine WP_exit ?_; refine then_e ?_; refine roundF_e ?_; refine block_e ?_; refine then_n ?_; refine Wr ?_; refine Tm ?_; refine On ?_; refine WP_ret ?_))
    · refine pret (.inl rfl) rfl ⟨_, _, rfl, rfl, rfl⟩ ?_
      rw [← ht]; simp [resOf, idxI]
theorem idxVal_s {α : Type} {C : CR α} {h : Frag} {a : Value} {xs : List α} {g : Nat} {cap : List Value} {p : α → Bool} (hs : SL h 4 C a xs) (hcal : callOk Tryz.prog g = true)
    (hfn : ∀ x vs, vs.length = 4 → ones vs = true → C h x vs → PSpec Tryz.prog g ([Value.agg vs.toArray] ++ cap).toArray h (fun _ v => v = .bool (p x))) :
    PSpec Tryz.prog 108 #[a, .func (.func g) #[] cap.toArray] h (fun _ v => v = .int .i64 (idxI (xs.findIdx? p))) := by
  have hl := hs.le
  refine pspec_of (vs := [a, .func (.func g) #[] cap.toArray]) Tryz.func108 Tryz.ntmps108 rfl rfl ?_
  (focus (refine Wr ?_; refine Tm ?_; refine On ?_; refine WP_seq ?_; refine Wr ?_; refine Tm ?_; refine S_q rfl rfl rfl (Q_lenS rfl rfl rfl rfl rfl rfl ‹_›) ?_; refine Tm ?_; refine On ?_; refine WP_block ?_))
  (refine WP_loopC (α := Nat) [7, 0, 1] (fun (k : Nat) => xs.length - k) (fun (k : Nat) => [(8, .int .i64 k)]) (fun hh (k : Nat) => hh = h ∧ k ≤ xs.length ∧ ((xs.drop k).findIdx? p).map (· + k) = xs.findIdx? p) 0 ⟨_, _, rfl, ⟨_, _, rfl, ⟨_, _, rfl, rfl, rfl⟩, rfl⟩, rfl⟩ (by repeat' first | exact trivial | refine ⟨rfl, ?_⟩) ?_ ?_)
  · exact ⟨rfl, Nat.zero_le _, by simp⟩
  rintro h1 k _ ⟨rfl, hk, ht⟩
  by_cases hlt : k < xs.length
  · obtain ⟨x, ex⟩ := get_of hlt
    have hod := findIdx_drop (p := p) ex
    rw [ht] at hod
    (focus (refine Wr ?_; refine Tc ?_; refine On ?_; refine WP_seq ?_; refine Wc ?_ ?_ <;> intro c2_1 <;> (first | simp [*] at c2_1; done | try simp at c2_1); refine WP_skip ?_; refine then_n ?_; refine WP_seq ?_; refine WP_block ?_; refine Wr ?_; refine Tm ?_; refine Tm ?_; refine On ?_; refine Wr ?_; refine Tm ?_; refine Tm ?_; refine Tm ?_; refine Ti ?_; refine Tl ?_; refine Le ?_))
    rintro vs e1 e2 e3
    (focus (refine S_c rfl rfl rfl (C_callCv (hfn _ _ ‹_› ‹_› ‹_›) rfl rfl rfl ⟨_, _, rfl, rfl, rfl⟩ hcal ?_); refine On ?_; refine Wc ?_ ?_ <;> intro c3_1 <;> (first | simp [*] at c3_1; done | try simp at c3_1); (focus (refine Wr ?_; refine Tm ?_; refine Tm ?_; refine On ?_; refine WP_ret ?_; refine block_r ?_; refine then_r ?_; refine roundF_r ?_; refine block_r ?_; refine then_r ?_)); rotate_left 1; (focus (refine WP_skip ?_; refine block_n ?_; refine then_n ?_; refine R_region ?_; refine Ta ?_; refine Tm ?_; refine OPS_nil ?_)); rotate_left 1))
    · refine pret (.inl rfl) rfl ⟨_, _, rfl, rfl, rfl⟩ ?_
      rw [hod]; simp_all [resOf, idxI]
    · refine roundF_n (k + 1) (by omega) ⟨rfl, by omega, ?_⟩ (by repeat' first | exact sR _ | exact sA _ _ | exact sN _ | apply s2 | apply s1) (by repeat' first | exact trivial | refine ⟨rfl, ?_⟩)
      rw [hod]; simp_all
  · have hge : k = xs.length := by omega
    subst hge
    (focus (refine Wr ?_; refine Tc ?_; refine On ?_; refine WP_seq ?_; refine Wc ?_ ?_ <;> intro c4_1 <;> (first | simp [*] at c4_1; done | try simp at c4_1); refine WP_exit ?_; refine then_e ?_; refine roundF_e ?_; refine block_e ?_; refine then_n ?_; refine Wr ?_; refine Tm ?_; refine On ?_; refine WP_ret ?_))
    · refine pret (.inl rfl) rfl ⟨_, _, rfl, rfl, rfl⟩ ?_
      rw [← ht]; simp [resOf, idxI]
theorem idxID_s {α : Type} {C : CR α} {h : Frag} {a : Value} {xs : List α} {g : Nat} {cap : List Value} {p : α → Bool} (hs : SL h 2 C a xs) (hcal : callOk Tryz.prog g = true)
    (hfn : ∀ x vs, vs.length = 2 → ones vs = true → C h x vs → PSpec Tryz.prog g ([Value.agg vs.toArray] ++ cap).toArray h (fun _ v => v = .bool (p x))) :
    PSpec Tryz.prog 115 #[a, .func (.func g) #[] cap.toArray] h (fun _ v => v = .int .i64 (idxI (xs.findIdx? p))) := by
  have hl := hs.le
  refine pspec_of (vs := [a, .func (.func g) #[] cap.toArray]) Tryz.func115 Tryz.ntmps115 rfl rfl ?_
  (focus (refine Wr ?_; refine Tm ?_; refine On ?_; refine WP_seq ?_; refine Wr ?_; refine Tm ?_; refine S_q rfl rfl rfl (Q_lenS rfl rfl rfl rfl rfl rfl ‹_›) ?_; refine Tm ?_; refine On ?_; refine WP_block ?_))
  (refine WP_loopC (α := Nat) [7, 0, 1] (fun (k : Nat) => xs.length - k) (fun (k : Nat) => [(8, .int .i64 k)]) (fun hh (k : Nat) => hh = h ∧ k ≤ xs.length ∧ ((xs.drop k).findIdx? p).map (· + k) = xs.findIdx? p) 0 ⟨_, _, rfl, ⟨_, _, rfl, ⟨_, _, rfl, rfl, rfl⟩, rfl⟩, rfl⟩ (by repeat' first | exact trivial | refine ⟨rfl, ?_⟩) ?_ ?_)
  · exact ⟨rfl, Nat.zero_le _, by simp⟩
  rintro h1 k _ ⟨rfl, hk, ht⟩
  by_cases hlt : k < xs.length
  · obtain ⟨x, ex⟩ := get_of hlt
    have hod := findIdx_drop (p := p) ex
    rw [ht] at hod
    (focus (refine Wr ?_; refine Tc ?_; refine On ?_; refine WP_seq ?_; refine Wc ?_ ?_ <;> intro c2_1 <;> (first | simp [*] at c2_1; done | try simp at c2_1); refine WP_skip ?_; refine then_n ?_; refine WP_seq ?_; refine WP_block ?_; refine Wr ?_; refine Tm ?_; refine Tm ?_; refine On ?_; refine Wr ?_; refine Tm ?_; refine Tm ?_; refine Tm ?_; refine Ti ?_; refine Tl ?_; refine Le ?_))
    rintro vs e1 e2 e3
    (focus (refine S_c rfl rfl rfl (C_callCv (hfn _ _ ‹_› ‹_› ‹_›) rfl rfl rfl ⟨_, _, rfl, rfl, rfl⟩ hcal ?_); refine On ?_; refine Wc ?_ ?_ <;> intro c3_1 <;> (first | simp [*] at c3_1; done | try simp at c3_1); (focus (refine Wr ?_; refine Tm ?_; refine Tm ?_; refine On ?_; refine WP_ret ?_; refine block_r ?_; refine then_r ?_; refine roundF_r ?_; refine block_r ?_; refine then_r ?_)); rotate_left 1; (focus (refine WP_skip ?_; refine block_n ?_; refine then_n ?_; refine R_region ?_; refine Ta ?_; refine Tm ?_; refine OPS_nil ?_)); rotate_left 1))
    · refine pret (.inl rfl) rfl ⟨_, _, rfl, rfl, rfl⟩ ?_
      rw [hod]; simp_all [resOf, idxI]
    · refine roundF_n (k + 1) (by omega) ⟨rfl, by omega, ?_⟩ (by repeat' first | exact sR _ | exact sA _ _ | exact sN _ | apply s2 | apply s1) (by repeat' first | exact trivial | refine ⟨rfl, ?_⟩)
      rw [hod]; simp_all
  · have hge : k = xs.length := by omega
    subst hge
    (focus (refine Wr ?_; refine Tc ?_; refine On ?_; refine WP_seq ?_; refine Wc ?_ ?_ <;> intro c4_1 <;> (first | simp [*] at c4_1; done | try simp at c4_1); refine WP_exit ?_; refine then_e ?_; refine roundF_e ?_; refine block_e ?_; refine then_n ?_; refine Wr ?_; refine Tm ?_; refine On ?_; refine WP_ret ?_))
    · refine pret (.inl rfl) rfl ⟨_, _, rfl, rfl, rfl⟩ ?_
      rw [← ht]; simp [resOf, idxI]
theorem hasFlight_s {α : Type} {C : CR α} {h : Frag} {a : Value} {xs : List α} {g : Nat} {cap : List Value} {p : α → Bool} (hs : SL h 41 C a xs) (hcal : callOk Tryz.prog g = true)
    (hfn : ∀ x vs, vs.length = 41 → ones vs = true → C h x vs → PSpec Tryz.prog g ([Value.agg vs.toArray] ++ cap).toArray h (fun _ v => v = .bool (p x))) :
    PSpec Tryz.prog 105 #[a, .func (.func g) #[] cap.toArray] h (fun _ v => v = .bool (xs.any p)) := by
  refine pspec_of (vs := [a, .func (.func g) #[] cap.toArray]) Tryz.func105 Tryz.ntmps105 rfl rfl ?_
  (focus (refine Wr ?_; refine Tm ?_; refine On ?_; refine Wr ?_; refine Tm ?_; refine Tm ?_))
  refine S_c rfl rfl rfl (C_callv (idxFlight_s hs hcal hfn) rfl rfl ⟨_, _, rfl, ⟨_, _, rfl, rfl, rfl⟩, rfl⟩ (cal rfl) ?_)
  (focus (refine Tc ?_; refine Tm ?_; refine On ?_; refine WP_ret ?_))
  refine pret (.inl rfl) rfl ⟨_, _, rfl, rfl, rfl⟩ ?_
  simp only [resOf]; rw [idxI_any]
theorem hasVal_s {α : Type} {C : CR α} {h : Frag} {a : Value} {xs : List α} {g : Nat} {cap : List Value} {p : α → Bool} (hs : SL h 4 C a xs) (hcal : callOk Tryz.prog g = true)
    (hfn : ∀ x vs, vs.length = 4 → ones vs = true → C h x vs → PSpec Tryz.prog g ([Value.agg vs.toArray] ++ cap).toArray h (fun _ v => v = .bool (p x))) :
    PSpec Tryz.prog 66 #[a, .func (.func g) #[] cap.toArray] h (fun _ v => v = .bool (xs.any p)) := by
  refine pspec_of (vs := [a, .func (.func g) #[] cap.toArray]) Tryz.func66 Tryz.ntmps66 rfl rfl ?_
  (focus (refine Wr ?_; refine Tm ?_; refine On ?_; refine Wr ?_; refine Tm ?_; refine Tm ?_))
  refine S_c rfl rfl rfl (C_callv (idxVal_s hs hcal hfn) rfl rfl ⟨_, _, rfl, ⟨_, _, rfl, rfl, rfl⟩, rfl⟩ (cal rfl) ?_)
  (focus (refine Tc ?_; refine Tm ?_; refine On ?_; refine WP_ret ?_))
  refine pret (.inl rfl) rfl ⟨_, _, rfl, rfl, rfl⟩ ?_
  simp only [resOf]; rw [idxI_any]
theorem hasIDf_s {α : Type} {C : CR α} {h : Frag} {a : Value} {xs : List α} {g : Nat} {cap : List Value} {p : α → Bool} (hs : SL h 2 C a xs) (hcal : callOk Tryz.prog g = true)
    (hfn : ∀ x vs, vs.length = 2 → ones vs = true → C h x vs → PSpec Tryz.prog g ([Value.agg vs.toArray] ++ cap).toArray h (fun _ v => v = .bool (p x))) :
    PSpec Tryz.prog 72 #[a, .func (.func g) #[] cap.toArray] h (fun _ v => v = .bool (xs.any p)) := by
  refine pspec_of (vs := [a, .func (.func g) #[] cap.toArray]) Tryz.func72 Tryz.ntmps72 rfl rfl ?_
  (focus (refine Wr ?_; refine Tm ?_; refine On ?_; refine Wr ?_; refine Tm ?_; refine Tm ?_))
  refine S_c rfl rfl rfl (C_callv (idxID_s hs hcal hfn) rfl rfl ⟨_, _, rfl, ⟨_, _, rfl, rfl, rfl⟩, rfl⟩ (cal rfl) ?_)
  (focus (refine Tc ?_; refine Tm ?_; refine On ?_; refine WP_ret ?_))
  refine pret (.inl rfl) rfl ⟨_, _, rfl, rfl, rfl⟩ ?_
  simp only [resOf]; rw [idxI_any]
theorem indexInt_s {h : Frag} {a : Value} {xs : List Int} {x : Int} (hs : SL h 1 IntC a xs) : PSpec Tryz.prog 102 #[a, .int .i64 x] h (fun _ v => v = .int .i64 (idxI (xs.findIdx? fun y => decide (x = y)))) := by
  have hl := hs.le
  refine pspec_of (vs := [a, .int .i64 x]) Tryz.func102 Tryz.ntmps102 rfl rfl ?_
  (focus (refine Wr ?_; refine Tm ?_; refine On ?_; refine WP_seq ?_; refine Wr ?_; refine Tm ?_; refine S_q rfl rfl rfl (Q_lenS rfl rfl rfl rfl rfl rfl ‹_›) ?_; refine Tm ?_; refine On ?_; refine WP_block ?_))
  (refine WP_loopC (α := Nat) [7, 0, 1] (fun (k : Nat) => xs.length - k) (fun (k : Nat) => [(8, .int .i64 k)]) (fun hh (k : Nat) => hh = h ∧ k ≤ xs.length ∧ ((xs.drop k).findIdx? fun y => decide (x = y)).map (· + k) = xs.findIdx? fun y => decide (x = y)) 0 ⟨_, _, rfl, ⟨_, _, rfl, ⟨_, _, rfl, rfl, rfl⟩, rfl⟩, rfl⟩ (by repeat' first | exact trivial | refine ⟨rfl, ?_⟩) ?_ ?_)
  · exact ⟨rfl, Nat.zero_le _, by simp⟩
  rintro h1 k _ ⟨rfl, hk, ht⟩
  by_cases hlt : k < xs.length
  · obtain ⟨y, ex⟩ := get_of hlt
    have hod := findIdx_drop (p := fun y => decide (x = y)) ex
    rw [ht] at hod
    (focus (refine Wr ?_; refine Tc ?_; refine On ?_; refine WP_seq ?_; refine Wc ?_ ?_ <;> intro c2_1 <;> (first | simp [*] at c2_1; done | try simp at c2_1); refine WP_skip ?_; refine then_n ?_; refine WP_seq ?_; refine WP_block ?_; refine Wr ?_; refine Tm ?_; refine Tm ?_; refine On ?_; refine Wr ?_; refine Tm ?_; refine Tm ?_; refine Tm ?_; refine Ti ?_; refine Tl ?_; refine L_el1 ‹_› ‹_› (ty rfl) ?_; rintro _ ⟨⟩; refine Tc ?_; refine On ?_; refine Wc ?_ ?_ <;> intro c2_3 <;> (first | simp [*] at c2_3; done | try simp at c2_3); (focus (refine Wr ?_; refine Tm ?_; refine Tm ?_; refine On ?_; refine WP_ret ?_; refine block_r ?_; refine then_r ?_; refine roundF_r ?_; refine block_r ?_; refine then_r ?_)); rotate_left 1; (focus (refine WP_skip ?_; refine block_n ?_; refine then_n ?_; refine R_region ?_; refine Ta ?_; refine Tm ?_; refine OPS_nil ?_)); rotate_left 1))
    · refine pret (.inl rfl) rfl ⟨_, _, rfl, rfl, rfl⟩ ?_
      rw [hod]; simp_all [resOf, idxI]
    · refine roundF_n (k + 1) (by omega) ⟨rfl, by omega, ?_⟩ (by repeat' first | exact sR _ | exact sA _ _ | exact sN _ | apply s2 | apply s1) (by repeat' first | exact trivial | refine ⟨rfl, ?_⟩)
      rw [hod]; simp_all
  · have hge : k = xs.length := by omega
    subst hge
    (focus (refine Wr ?_; refine Tc ?_; refine On ?_; refine WP_seq ?_; refine Wc ?_ ?_ <;> intro c3_1 <;> (first | simp [*] at c3_1; done | try simp at c3_1); refine WP_exit ?_; refine then_e ?_; refine roundF_e ?_; refine block_e ?_; refine then_n ?_; refine Wr ?_; refine Tm ?_; refine On ?_; refine WP_ret ?_))
    · refine pret (.inl rfl) rfl ⟨_, _, rfl, rfl, rfl⟩ ?_
      rw [← ht]; simp [resOf, idxI]
theorem indexID_s {h : Frag} {a : Value} {xs : List ID} {x : ID} (hs : SL h 2 IDC a xs) : PSpec Tryz.prog 128 #[a, .agg (idc x).toArray] h (fun _ v => v = .int .i64 (idxI (xs.findIdx? fun y => decide (x = y)))) := by
  have hl := hs.le
  obtain ⟨x1, x2⟩ := x
  refine pspec_of (vs := [a, .agg (idc (x1, x2)).toArray]) Tryz.func128 Tryz.ntmps128 rfl rfl ?_
  (focus (refine Wr ?_; refine Tbx ?_; intro b0_1; refine Tm ?_; refine On ?_; refine WP_seq ?_; refine Wr ?_; refine Tm ?_; refine S_q rfl rfl rfl (Q_lenS rfl rfl rfl rfl rfl rfl ‹_›) ?_; refine Tm ?_; refine On ?_; refine WP_block ?_))
  (refine WP_loopC (α := Nat) [7, 3, 0] (fun (k : Nat) => xs.length - k) (fun (k : Nat) => [(8, .int .i64 k)]) (fun hh (k : Nat) => hh = h ∧ k ≤ xs.length ∧ ((xs.drop k).findIdx? fun y => decide ((x1, x2) = y)).map (· + k) = xs.findIdx? fun y => decide ((x1, x2) = y)) 0 ⟨_, _, rfl, ⟨_, _, rfl, ⟨_, _, rfl, rfl, rfl⟩, rfl⟩, rfl⟩ (by repeat' first | exact trivial | refine ⟨rfl, ?_⟩) ?_ ?_)
  · exact ⟨rfl, Nat.zero_le _, by simp⟩
  rintro h1 k _ ⟨rfl, hk, ht⟩
  by_cases hlt : k < xs.length
  · obtain ⟨⟨y1, y2⟩, ex⟩ := get_of hlt
    have hod := findIdx_drop (p := fun y => decide ((x1, x2) = y)) ex
    rw [ht] at hod
    (focus (refine Wr ?_; refine Tc ?_; refine On ?_; refine WP_seq ?_; refine Wc ?_ ?_ <;> intro c2_1 <;> (first | simp [*] at c2_1; done | try simp at c2_1); refine WP_skip ?_; refine then_n ?_; refine WP_seq ?_; refine WP_block ?_; refine Wr ?_; refine Tm ?_; refine Tm ?_; refine On ?_; refine WP_seq ?_; refine R_draw (n := 6) mixed rfl ?_; refine Va 0 ?_; refine Vl 1 ?_; refine Lg m0 ?_; refine Va 1 ?_; refine Vm 3 ?_; refine Va 2 ?_; refine Vm 7 ?_; refine Va 3 ?_; refine A_q (m' := 15) rfl rfl rfl (Q_indexS ‹_› ‹_› rfl rfl rfl (elm rfl) rfl) rfl (by decide +kernel) ?_; refine Va 4 ?_; refine Vl 31 ?_; refine Le ?_; rintro _ _ _ rfl; refine Va 5 ?_; refine A_q (m' := 63) rfl rfl rfl (Q_eqI eqID rfl rfl rfl rfl rfl) rfl (by decide +kernel) ?_; refine A_done (by decide +kernel) ?_; refine then_n ?_; refine Wc ?_ ?_ <;> intro c2_3 <;> (first | simp [*] at c2_3; done | try simp at c2_3); (focus (refine Wr ?_; refine Tm ?_; refine Tm ?_; refine On ?_; refine WP_ret ?_; refine block_r ?_; refine then_r ?_; refine roundF_r ?_; refine block_r ?_; refine then_r ?_)); rotate_left 1; (focus (refine WP_skip ?_; refine block_n ?_; refine then_n ?_; refine R_region ?_; refine Ta ?_; refine Tm ?_; refine OPS_nil ?_)); rotate_left 1))
    · refine pret (.inl rfl) rfl ⟨_, _, rfl, rfl, rfl⟩ ?_
      rw [hod]; simp_all [resOf, idxI]
    · refine roundF_n (k + 1) (by omega) ⟨rfl, by omega, ?_⟩ (by repeat' first | exact sR _ | exact sA _ _ | exact sN _ | apply s2 | apply s1) (by repeat' first | exact trivial | refine ⟨rfl, ?_⟩)
      rw [hod]; simp_all
  · have hge : k = xs.length := by omega
    subst hge
    (focus (refine Wr ?_; refine Tc ?_; refine On ?_; refine WP_seq ?_; refine Wc ?_ ?_ <;> intro c3_1 <;> (first | simp [*] at c3_1; done | try simp at c3_1); refine WP_exit ?_; refine then_e ?_; refine roundF_e ?_; refine block_e ?_; refine then_n ?_; refine Wr ?_; refine Tm ?_; refine On ?_; refine WP_ret ?_))
    · refine pret (.inl rfl) rfl ⟨_, _, rfl, rfl, rfl⟩ ?_
      rw [← ht]; simp [resOf, idxI]
theorem containsInt_s {h : Frag} {a : Value} {xs : List Int} {x : Int} (hs : SL h 1 IntC a xs) : PSpec Tryz.prog 59 #[a, .int .i64 x] h (fun _ v => v = .bool (decide (x ∈ xs))) := by
  refine pspec_of (vs := [a, .int .i64 x]) Tryz.func59 Tryz.ntmps59 rfl rfl ?_
  (focus (refine Wr ?_; refine Tm ?_; refine On ?_; refine Wr ?_; refine Tm ?_; refine Tm ?_; refine S_c rfl rfl rfl (C_callv (indexInt_s ‹_›) rfl rfl ⟨_, _, rfl, ⟨_, _, rfl, rfl, rfl⟩, rfl⟩ (cal rfl) ?_); refine Tc ?_; refine Tm ?_; refine On ?_; refine WP_ret ?_))
  refine pret (.inl rfl) rfl ⟨_, _, rfl, rfl, rfl⟩ ?_
  simp only [resOf]; rw [idxI_any, any_mem]; first | done | exact congrArg Value.bool (decide_eq_decide.2 Iff.rfl)
theorem containsID_s {h : Frag} {a : Value} {xs : List ID} {x : ID} (hs : SL h 2 IDC a xs) : PSpec Tryz.prog 109 #[a, .agg (idc x).toArray] h (fun _ v => v = .bool (decide (x ∈ xs))) := by
  obtain ⟨x1, x2⟩ := x
  refine pspec_of (vs := [a, .agg (idc (x1, x2)).toArray]) Tryz.func109 Tryz.ntmps109 rfl rfl ?_
  (focus (refine Wr ?_; refine Tbx ?_; intro b0_1; refine Tm ?_; refine On ?_; refine Wr ?_; refine Tm ?_; refine Tl ?_; refine Lg m0 ?_; refine S_c rfl rfl rfl (C_callv (indexID_s (x := (_, _)) ‹_›) rfl rfl ⟨_, _, rfl, ⟨_, _, rfl, rfl, rfl⟩, rfl⟩ (cal rfl) ?_); refine Tc ?_; refine Tm ?_; refine On ?_; refine WP_ret ?_))
  refine pret (.inl rfl) rfl ⟨_, _, rfl, rfl, rfl⟩ ?_
  simp only [resOf]; rw [idxI_any, any_mem]; first | done | exact congrArg Value.bool (decide_eq_decide.2 Iff.rfl)
theorem has_s {h : Frag} {a : Value} {xs : List ID} {x : ID} (hs : SL h 2 IDC a xs) : PSpec Tryz.prog 67 #[a, .agg (idc x).toArray] h (fun _ v => v = .bool (decide (x ∈ xs))) := by
  obtain ⟨x1, x2⟩ := x
  refine pspec_of (vs := [a, .agg (idc (x1, x2)).toArray]) Tryz.func67 Tryz.ntmps67 rfl rfl ?_
  (focus (refine Wr ?_; refine Tbx ?_; intro b0_1; refine Tm ?_; refine On ?_; refine Wr ?_; refine Tm ?_; refine Tl ?_; refine Lg m0 ?_; refine S_c rfl rfl rfl (C_callv (containsID_s (x := (_, _)) ‹_›) rfl rfl ⟨_, _, rfl, ⟨_, _, rfl, rfl, rfl⟩, rfl⟩ (cal rfl) ?_); refine Tm ?_; refine On ?_; refine WP_ret ?_))
  refine pret (.inl rfl) rfl ⟨_, _, rfl, rfl, rfl⟩ ?_
  rfl
theorem refHas_s {h : Frag} {a : Value} {xs : List ID} {x : ID} (hs : SL h 2 IDC a xs) : PSpec Tryz.prog 15 #[a, .agg (idc x).toArray] h (fun _ v => v = .bool (decide (x ∈ xs))) := by
  have hl := hs.le
  refine pspec_of (vs := [a, .agg (idc x).toArray]) Tryz.func15 Tryz.ntmps15 rfl rfl ?_
  (focus (refine Wr ?_; refine Tbx ?_; intro b0_1; refine Tm ?_; refine On ?_; refine WP_seq ?_; refine Wr ?_; refine Tm ?_; refine On ?_; refine WP_block ?_))
  (refine WP_loopC (α := Nat) [3, 0] (fun (k : Nat) => xs.length - k) (fun (k : Nat) => [(5, .int .i64 k)]) (fun hh (k : Nat) => hh = h ∧ k ≤ xs.length ∧ (x ∈ xs.drop k ↔ x ∈ xs)) 0 ⟨_, _, rfl, ⟨_, _, rfl, rfl, rfl⟩, rfl⟩ (by repeat' first | exact trivial | refine ⟨rfl, ?_⟩) ?_ ?_)
  · exact ⟨rfl, Nat.zero_le _, by simp⟩
  rintro h1 k _ ⟨rfl, hk, ht⟩
  by_cases hlt : k < xs.length
  · obtain ⟨⟨y1, y2⟩, ex⟩ := get_of hlt
    have hod := drop_get ex
    rw [hod] at ht
    (focus (refine WP_seq ?_; refine Wr ?_; refine Tm ?_; refine Tm ?_; refine S_q rfl rfl rfl (Q_lenS rfl rfl rfl rfl rfl rfl ‹_›) ?_; refine Tc ?_; refine On ?_; refine Wc ?_ ?_ <;> intro c2_1 <;> (first | simp [*] at c2_1; done | try simp at c2_1); refine WP_skip ?_; refine then_n ?_; refine WP_seq ?_; refine WP_block ?_; refine WP_seq ?_; refine R_draw (n := 6) mixed rfl ?_; refine Va 0 ?_; refine Vm 1 ?_; refine Va 1 ?_; refine Vm 3 ?_; refine Va 2 ?_; refine A_q (m' := 7) rfl rfl rfl (Q_indexS ‹_› ‹_› rfl rfl rfl (elm rfl) rfl) rfl (by decide +kernel) ?_; refine Va 3 ?_; refine Vl 15 ?_; refine Le ?_; rintro _ _ _ rfl; refine Va 4 ?_; refine Vl 31 ?_; refine Lg m0 ?_; refine Va 5 ?_; refine A_q (m' := 63) rfl rfl rfl (Q_eqI eqID rfl rfl rfl rfl rfl) rfl (by decide +kernel) ?_; refine A_done (by decide +kernel) ?_; refine then_n ?_; refine Wc ?_ ?_ <;> intro c2_3 <;> (first | simp [*] at c2_3; done | try simp at c2_3); (focus (refine Wr ?_; refine Tm ?_; refine On ?_; refine WP_ret ?_; refine block_r ?_; refine then_r ?_; refine roundF_r ?_; refine block_r ?_; refine then_r ?_)); rotate_left 1; (focus (refine WP_skip ?_; refine block_n ?_; refine then_n ?_; refine R_region ?_; refine Tm ?_; refine Ta ?_; refine Tm ?_; refine OPS_nil ?_)); rotate_left 1))
    · refine pret (.inl rfl) rfl ⟨_, _, rfl, rfl, rfl⟩ ?_
      simp only [resOf, ← ht]; simp_all
    · refine roundF_n (k + 1) (by omega) ⟨rfl, by omega, ?_⟩ (by repeat' first | exact sR _ | exact sA _ _ | exact sN _ | apply s2 | apply s1) (by repeat' first | exact trivial | refine ⟨rfl, ?_⟩)
      rw [← ht]; simp only [List.mem_cons]; constructor
      · exact .inr
      · rintro (rfl | h)
        · simp_all
        · exact h
  · have hge : k = xs.length := by omega
    subst hge
    (focus (refine WP_seq ?_; refine Wr ?_; refine Tm ?_; refine Tm ?_; refine S_q rfl rfl rfl (Q_lenS rfl rfl rfl rfl rfl rfl ‹_›) ?_; refine Tc ?_; refine On ?_; refine Wc ?_ ?_ <;> intro c3_1 <;> (first | simp [*] at c3_1; done | try simp at c3_1); refine WP_exit ?_; refine then_e ?_; refine roundF_e ?_; refine block_e ?_; refine then_n ?_; refine Wr ?_; refine Tm ?_; refine On ?_; refine WP_ret ?_))
    · refine pret (.inl rfl) rfl ⟨_, _, rfl, rfl, rfl⟩ ?_
      simp only [resOf, ← ht]; simp
theorem hasID_s {h : Frag} {a : Value} {xs : List ID} {x : ID} (hs : SL h 2 IDC a xs) : PSpec Tryz.prog 100 #[a, .agg (idc x).toArray] h (fun _ v => v = .bool (decide (x ∈ xs))) := by
  have hl := hs.le
  refine pspec_of (vs := [a, .agg (idc x).toArray]) Tryz.func100 Tryz.ntmps100 rfl rfl ?_
  (focus (refine Wr ?_; refine Tbx ?_; intro b0_1; refine Tm ?_; refine On ?_; refine WP_seq ?_; refine Wr ?_; refine Tm ?_; refine On ?_; refine WP_block ?_))
  (refine WP_loopC (α := Nat) [3, 0] (fun (k : Nat) => xs.length - k) (fun (k : Nat) => [(5, .int .i64 k)]) (fun hh (k : Nat) => hh = h ∧ k ≤ xs.length ∧ (x ∈ xs.drop k ↔ x ∈ xs)) 0 ⟨_, _, rfl, ⟨_, _, rfl, rfl, rfl⟩, rfl⟩ (by repeat' first | exact trivial | refine ⟨rfl, ?_⟩) ?_ ?_)
  · exact ⟨rfl, Nat.zero_le _, by simp⟩
  rintro h1 k _ ⟨rfl, hk, ht⟩
  by_cases hlt : k < xs.length
  · obtain ⟨⟨y1, y2⟩, ex⟩ := get_of hlt
    have hod := drop_get ex
    rw [hod] at ht
    (focus (refine WP_seq ?_; refine Wr ?_; refine Tm ?_; refine Tm ?_; refine S_q rfl rfl rfl (Q_lenS rfl rfl rfl rfl rfl rfl ‹_›) ?_; refine Tc ?_; refine On ?_; refine Wc ?_ ?_ <;> intro c2_1 <;> (first | simp [*] at c2_1; done | try simp at c2_1); refine WP_skip ?_; refine then_n ?_; refine WP_seq ?_; refine WP_block ?_; refine WP_seq ?_; refine R_draw (n := 6) mixed rfl ?_; refine Va 0 ?_; refine Vm 1 ?_; refine Va 1 ?_; refine Vm 3 ?_; refine Va 2 ?_; refine A_q (m' := 7) rfl rfl rfl (Q_indexS ‹_› ‹_› rfl rfl rfl (elm rfl) rfl) rfl (by decide +kernel) ?_; refine Va 3 ?_; refine Vl 15 ?_; refine Le ?_; rintro _ _ _ rfl; refine Va 4 ?_; refine Vl 31 ?_; refine Lg m0 ?_; refine Va 5 ?_; refine A_q (m' := 63) rfl rfl rfl (Q_eqI eqID rfl rfl rfl rfl rfl) rfl (by decide +kernel) ?_; refine A_done (by decide +kernel) ?_; refine then_n ?_; refine Wc ?_ ?_ <;> intro c2_3 <;> (first | simp [*] at c2_3; done | try simp at c2_3); (focus (refine Wr ?_; refine Tm ?_; refine On ?_; refine WP_ret ?_; refine block_r ?_; refine then_r ?_; refine roundF_r ?_; refine block_r ?_; refine then_r ?_)); rotate_left 1; (focus (refine WP_skip ?_; refine block_n ?_; refine then_n ?_; refine R_region ?_; refine Tm ?_; refine Ta ?_; refine Tm ?_; refine OPS_nil ?_)); rotate_left 1))
    · refine pret (.inl rfl) rfl ⟨_, _, rfl, rfl, rfl⟩ ?_
      simp only [resOf, ← ht]; simp_all
    · refine roundF_n (k + 1) (by omega) ⟨rfl, by omega, ?_⟩ (by repeat' first | exact sR _ | exact sA _ _ | exact sN _ | apply s2 | apply s1) (by repeat' first | exact trivial | refine ⟨rfl, ?_⟩)
      rw [← ht]; simp only [List.mem_cons]; constructor
      · exact .inr
      · rintro (rfl | h)
        · simp_all
        · exact h
  · have hge : k = xs.length := by omega
    subst hge
    (focus (refine WP_seq ?_; refine Wr ?_; refine Tm ?_; refine Tm ?_; refine S_q rfl rfl rfl (Q_lenS rfl rfl rfl rfl rfl rfl ‹_›) ?_; refine Tc ?_; refine On ?_; refine Wc ?_ ?_ <;> intro c3_1 <;> (first | simp [*] at c3_1; done | try simp at c3_1); refine WP_exit ?_; refine then_e ?_; refine roundF_e ?_; refine block_e ?_; refine then_n ?_; refine Wr ?_; refine Tm ?_; refine On ?_; refine WP_ret ?_))
    · refine pret (.inl rfl) rfl ⟨_, _, rfl, rfl, rfl⟩ ?_
      simp only [resOf, ← ht]; simp
end Go.Proofs.YtfhoecgiahpddaaGreat
/-
  WHAT THE OBSERVER COMPUTES, in plain words over plain data.
-/
set_option linter.all false
namespace Go.Mesh
open Go.RowKit
def zeroV : View := ⟨0, [], [], [], [], [], [], []⟩
def viewOf (vs : List View) (m : Int) : Option View := vs.find? fun v => decide (v.machine = m)
def vwAt (vs : List View) (m : Int) : View := (viewOf vs m).getD zeroV
def idxOf (vs : List View) (m : Int) : Option Nat := vs.findIdx? fun v => decide (v.machine = m)
def recv (to : View) (m : Int) : Int := if 1 ≤ m ∧ m ≤ to.received.length then to.received.getD (m - 1).toNat 0 else 0
def flyB (vs : List View) (v : View) (x : Flight) : Bool := (viewOf vs x.to).isSome && decide (recv (vwAt vs x.to) v.machine < x.seq)
def scionOf (vs : List View) (machine client number : Int) : Option ScionE := (vwAt vs machine).scions.find? fun e => decide (e.client = client) && decide (e.number = number)
def moveOf (vs : List View) (frm to number : Int) : Option Flight := (vwAt vs frm).flights.find? fun x => decide (x.to = to) && (decide (x.msg.kind = 1) && (decide (x.msg.parcel.number = number) && flyB vs (vwAt vs frm) x))
def numberedOf (vs : List View) (frm to number : Int) : ID := match scionOf vs to frm number with
  | some e => e.id
  | none => match moveOf vs frm to number with
    | some x => x.msg.parcel.id
    | none => (0, 0)
def idOf (vs : List View) (frm to : Int) (r : Ref) : ID := if r.kind = 3 then r.id else if r.kind = 2 then numberedOf vs frm to r.number else (0, 0)
def valueOf (vs : List View) (frm to : Int) (r : Ref) : Val := if r.kind = 1 then (1, r.num, (0, 0)) else if idOf vs frm to r ≠ (0, 0) then (2, 0, idOf vs frm to r) else (0, 0, (0, 0))
/-- a fleet: its views, and a map from numbers to places -/
def FleetC : CR (List View) := fun h vs cs => ∃ p c mb ps, cs = [.slice p vs.length c, .map (some mb)] ∧ SLB 4398046511104 h 13 (ViewC 4398046511104) (.slice p vs.length c) vs ∧ IsMapP itv h mb ps ∧ ∀ m, mget m ps = (idxOf vs m).map fun (k : Nat) => .int .i64 (k : Int)
theorem FleetC_mono : CMono FleetC := fun _ _ _ _ hl ⟨p, c, mb, ps, e, s, m, q⟩ => ⟨p, c, mb, ps, e, s.mono hl (ViewC_mono _), m.up hl, q⟩
instance : CM FleetC := ⟨FleetC_mono⟩
theorem FleetC.up {h h' : Frag} {vs : List View} {cs : List Value} (x : FleetC h vs cs) (hl : le h h') : FleetC h' vs cs := FleetC_mono _ _ _ _ hl x
theorem ViewC.up {B : Nat} {h h' : Frag} {v : View} {cs : List Value} (x : ViewC B h v cs) (hl : le h h') : ViewC B h' v cs := ViewC_mono B _ _ _ _ hl x
theorem NodeC.up {B : Nat} {h h' : Frag} {v : Nd} {cs : List Value} (x : NodeC B h v cs) (hl : le h h') : NodeC B h' v cs := NodeC_mono B _ _ _ _ hl x
theorem GraphC.up {B : Nat} {h h' : Frag} {v : List Nd} {cs : List Value} (x : GraphC B h v cs) (hl : le h h') : GraphC B h' v cs := GraphC_mono B _ _ _ _ hl x
theorem FlightC.up {B : Nat} {h h' : Frag} {v : Flight} {cs : List Value} (x : FlightC B h v cs) (hl : le h h') : FlightC B h' v cs := FlightC_mono B _ _ _ _ hl x
theorem idxOf_take {vs : List View} {k : Nat} {v : View} {m : Int} (hv : vs[k]? = some v) : idxOf (vs.take (k + 1)) m = if (idxOf (vs.take k) m).isSome then idxOf (vs.take k) m else if v.machine = m then some k else none := by
  have hlt : k < vs.length := (List.getElem?_eq_some_iff.1 hv).1
  unfold idxOf
  rw [List.take_add_one, hv, List.findIdx?_append]
  cases h : (vs.take k).findIdx? fun v => decide (v.machine = m) with
  | some j => simp
  | none => by_cases hm : v.machine = m <;> simp [hm, Nat.min_eq_left (Nat.le_of_lt hlt)]
theorem idxOf_view {vs : List View} {m : Int} {k : Nat} (h : idxOf vs m = some k) : ∃ v, vs[k]? = some v ∧ viewOf vs m = some v := Go.Proofs.YtfhoecgiahpddaaGreat.findIdx_find h
theorem idxOf_none {vs : List View} {m : Int} (h : idxOf vs m = none) : viewOf vs m = none := Go.Proofs.YtfhoecgiahpddaaGreat.findIdx_none h
end Go.Mesh
/-
  CONTRACTS: the fleet of views; its views, flights on their way, scions, identities and values.
-/
set_option linter.all false
namespace Go.Proofs.YtfhoecgiahpddaaGreat
open Go.Mesh Go.RowKit
set_option maxRecDepth 100000
set_option linter.unusedVariables false
set_option maxHeartbeats 4000000
attribute [local irreducible] WP OPS ANY ANYo LG LV FSpec PSpec QOP OPc OPw thenQ blockQ roundQ roundF retQ retM Rd At SLB OS cmpI orI cmpID namedB valB nodeB kindB validG valAux idxI findG
attribute [local irreducible] zeroV viewOf vwAt idxOf recv flyB scionOf moveOf numberedOf idOf valueOf mget mput
theorem of_s {h : Frag} {a : Value} {vs : List View} (hs : SL h 13 (ViewC 4398046511104) a vs) : PSpec Tryz.prog 33 #[a] h (fun h' v => ∃ p c mb, v = .agg #[.slice p vs.length c, .map (some mb)] ∧ FleetC h' vs [.slice p vs.length c, .map (some mb)]) := by
  have hl := hs.le
  obtain ⟨p, cap, rfl⟩ := hs.slice
  refine pspec_of (vs := [.slice p vs.length cap]) Tryz.func33 Tryz.ntmps33 rfl rfl ?_
  (focus (refine Wr ?_; refine Tal ?_; intro b0_1; refine On ?_; refine Wr ?_; refine Tm ?_; refine S_c rfl rfl rfl (C_makeMapK itk rfl rfl ?_); intro b0_2; refine S_q rfl rfl rfl (Q_build rfl (by decide +kernel) (zer rfl) ⟨_, _, _, _, _, _, _, rfl, fld rfl rfl, ty rfl, rfl, rfl, ⟨_, _, _, _, _, _, _, rfl, fld rfl rfl, ty rfl, rfl, rfl, rfl, rfl⟩, rfl⟩ rfl) ?_; refine Tal ?_; intro b0_3; refine Tw u0 ?_; refine On ?_; refine WP_seq ?_; refine Wr ?_; refine Tm ?_; refine Tlen ?_; refine Tm ?_; refine On ?_; refine WP_block ?_))
  (refine WP_loopM (α := Nat × List (Int × Value)) [_]  _ [12, 11, 3, 2] (fun (s : Nat × List (Int × Value)) => vs.length - s.1) (fun (s : Nat × List (Int × Value)) =>  [(b0_2, mapObj itv s.2)]) (fun (s : Nat × List (Int × Value)) => [(13, .int .i64 s.1)]) (fun hh (s : Nat × List (Int × Value)) => hh = h ∧ s.1 ≤ vs.length ∧ ∀ m, mget m s.2 = (idxOf (vs.take s.1) m).map fun (k : Nat) => .int .i64 (k : Int)) (0, []) rfl ⟨_, _, rfl, ⟨_, _, rfl, ⟨_, _, rfl, ⟨_, _, rfl, rfl, rfl⟩, rfl⟩, rfl⟩, rfl⟩ (by repeat' first | exact trivial | refine ⟨rfl, ?_⟩) ?_ ?_)
  · refine ⟨rfl, Nat.zero_le _, fun m => ?_⟩
    unfold idxOf mget; simp
  rintro h1 ⟨k, ps⟩ _ ⟨rfl, hk, hq⟩
  simp only at hk hq
  by_cases hlt : k < vs.length
  · obtain ⟨v, ev⟩ := get_of hlt
    have hqm := hq v.machine
    have hnx := fun m => idxOf_take (m := m) ev
    cases hi : idxOf (vs.take k) v.machine with
    | some j =>
      rw [hi] at hqm
      simp only [Option.map_some] at hqm
      (focus (refine Wr ?_; refine Tc ?_; refine On ?_; refine WP_seq ?_; refine Wc ?_ ?_ <;> intro c2_1 <;> (first | simp [*] at c2_1; done | try simp at c2_1); refine WP_skip ?_; refine then_n ?_; refine WP_seq ?_; refine WP_block ?_; refine Wr ?_; refine Tm ?_; refine Ti ?_; refine Tl ?_; refine Le ?_; rintro _ _ _ ⟨xi2_2, xa2_2, po2_2, qo2_2, ps2_2, qs2_2, pc2_2, qc2_2, pn2_2, qn2_2, pm2_2, qm2_2, xw2_2, xv2_2, pf2_2, qf2_2, pr2_2, qr2_2, xe2_2, xf2_2, rfl, vo2_2, vs2_2, vc2_2, vn2_2, vm2_2, vf2_2, vr2_2⟩; refine Tal ?_; intro b2_3; refine Tm ?_; refine Tw u0 ?_; refine On ?_; refine Wr ?_; refine Tf ?_; refine Tl ?_; refine Lo m1 ?_; refine Tf ?_; refine Tl ?_; refine Lo m0 ?_; refine S_q rfl rfl rfl (Q_lookupOkS rfl rfl rfl itk rfl rfl (.inr m2) ‹_›) ?_; refine Tm ?_; refine Tx ?_; refine Tx ?_; refine Tm ?_; refine Tm ?_; refine On ?_; refine Wr ?_; refine Tm ?_; refine S_q rfl rfl rfl (Q_not rfl rfl) ?_; refine On ?_; refine cond_f rfl ?_; refine WP_skip ?_; refine block_n ?_; refine then_n ?_; refine R_region ?_; refine Ta ?_; refine Tm ?_; refine OPS_nil ?_))
      refine roundF_n (k + 1, ps) (by simp only; omega) ⟨rfl, by simp only; omega, fun m => ?_⟩ (by repeat' first | exact sR _ | exact sA _ _ | exact sN _ | apply s2 | apply s1) (by repeat' first | exact trivial | refine ⟨rfl, ?_⟩)
      simp only
      rw [hq m, hnx m]
      by_cases hm : v.machine = m
      · subst hm; rw [hi]; simp
      · cases hx : idxOf (vs.take k) m <;> simp [hm]
    | none =>
      rw [hi] at hqm
      simp only [Option.map_none] at hqm
      (focus (refine Wr ?_; refine Tc ?_; refine On ?_; refine WP_seq ?_; refine Wc ?_ ?_ <;> intro c3_1 <;> (first | simp [*] at c3_1; done | try simp at c3_1); refine WP_skip ?_; refine then_n ?_; refine WP_seq ?_; refine WP_block ?_; refine Wr ?_; refine Tm ?_; refine Ti ?_; refine Tl ?_; refine Le ?_; rintro _ _ _ ⟨xi3_2, xa3_2, po3_2, qo3_2, ps3_2, qs3_2, pc3_2, qc3_2, pn3_2, qn3_2, pm3_2, qm3_2, xw3_2, xv3_2, pf3_2, qf3_2, pr3_2, qr3_2, xe3_2, xf3_2, rfl, vo3_2, vs3_2, vc3_2, vn3_2, vm3_2, vf3_2, vr3_2⟩; refine Tal ?_; intro b3_3; refine Tm ?_; refine Tw u0 ?_; refine On ?_; refine Wr ?_; refine Tf ?_; refine Tl ?_; refine Lo m1 ?_; refine Tf ?_; refine Tl ?_; refine Lo m0 ?_; refine S_q rfl rfl rfl (Q_lookupOkN rfl rfl rfl itk rfl rfl (.inr m2) ‹_›) ?_; refine Tm ?_; refine Tx ?_; refine Tx ?_; refine Tm ?_; refine Tm ?_; refine On ?_; refine Wr ?_; refine Tm ?_; refine S_q rfl rfl rfl (Q_not rfl rfl) ?_; refine On ?_; refine cond_t rfl ?_; refine R_region ?_; refine Tf ?_; refine Tl ?_; refine Lo m1 ?_; refine Tf ?_; refine Tl ?_; refine Lo m0 ?_; refine Tm ?_; refine S_w0 rfl rfl (W_mapUpdate rfl rfl rfl rfl itk rfl u2 ?_); refine OPS_nil ?_; refine block_n ?_; refine then_n ?_; refine R_region ?_; refine Ta ?_; refine Tm ?_; refine OPS_nil ?_))
      refine roundF_n (k + 1, mput v.machine (.int .i64 k) ps) (by simp only; omega) ⟨rfl, by simp only; omega, fun m => ?_⟩ (by repeat' first | exact sR _ | exact sA _ _ | exact sN _ | apply s2 | apply s1) (by repeat' first | exact trivial | refine ⟨rfl, ?_⟩)
      simp only
      rw [mget_mput, hnx m]
      by_cases hm : v.machine = m
      · subst hm; rw [hi]; simp
      · rw [if_neg hm, hq m]; cases hx : idxOf (vs.take k) m <;> simp [hm]
  · have hge : k = vs.length := by omega
    subst hge
    (focus (refine Wr ?_; refine Tc ?_; refine On ?_; refine WP_seq ?_; refine Wc ?_ ?_ <;> intro c4_1 <;> (first | simp [*] at c4_1; done | try simp at c4_1); refine WP_exit ?_; refine then_e ?_; refine roundF_e ?_; refine block_e ?_; refine then_n ?_; refine Wr ?_; refine Tl ?_; refine Lg m0 ?_; refine Tw u2 ?_; refine On ?_; refine WP_ret ?_))
    refine pretKM [_] [(b0_2, mapObj itv ps)] _ rfl (.inl rfl) rfl ⟨_, _, _, rfl, Loads_agg (Rd.own m2) (ty rfl) rfl, rfl, rfl⟩ fun h' hl' hm => ?_
    exact ⟨p, cap, b0_2, rfl, p, cap, b0_2, ps, rfl, hs.up hl', hm _ (List.Mem.head _), fun m => by rw [hq m, List.take_length]⟩
theorem view_s {h : Frag} {cs : List Value} {vs : List View} {m : Int} (hf : FleetC h vs cs) : PSpec Tryz.prog 55 #[.agg cs.toArray, .int .i64 m] h (fun _ v => ∃ us, v = .tuple #[.agg us.toArray, .bool (viewOf vs m).isSome] ∧ us.length = 13 ∧ ones us = true ∧ ViewC 4398046511104 h (vwAt vs m) us) := by
  obtain ⟨p, c, mb, ps, rfl, fv, fm, fq⟩ := hf
  refine pspec_of (vs := [.agg [Value.slice p vs.length c, .map (some mb)].toArray, .int .i64 m]) Tryz.func55 Tryz.ntmps55 rfl rfl ?_
  have hq := fq m
  clear fq
  cases hi : idxOf vs m with
  | none =>
    rw [hi] at hq
    simp only [Option.map_none] at hq
    have hv := idxOf_none hi
    (focus (refine Wr ?_; refine Tbx ?_; intro b0_1; refine Tal ?_; intro b0_2; refine Tm ?_; refine On ?_; refine Wr ?_; refine Tf ?_; refine Tl ?_; refine Lo m1 ?_; refine Tm ?_; refine S_q rfl rfl rfl (Q_lookupOkN rfl rfl rfl itk rfl rfl (.inl ‹_›) ‹_›) ?_; refine Tm ?_; refine Tx ?_; refine Tx ?_; refine Tm ?_; refine Tm ?_; refine On ?_; refine WP_seq ?_; refine Wr ?_; refine Tm ?_; refine S_q rfl rfl rfl (Q_not rfl rfl) ?_; refine On ?_; refine cond_t rfl ?_; refine Wr ?_; refine S_q rfl rfl rfl (Q_build rfl (by decide +kernel) (zer rfl) rfl rfl) ?_; refine Tw u0 ?_; refine Tm ?_; refine On ?_; refine WP_ret ?_; refine then_r ?_))
    refine pret (.inl rfl) rfl ⟨_, _, _, rfl, Loads_agg (Rd.own m0) (ty rfl) rfl, ⟨_, _, rfl, rfl, rfl⟩, rfl⟩ ?_
    have hz : vwAt vs m = zeroV := by rw [vwAt, hv]; rfl
    rw [hz, hv, zeroV]
    refine ⟨_, rfl, rfl, rfl, by unfold inI64; decide, _, _, _, _, _, _, _, _, _, _, _, _, _, _, _, _, _, _, _, rfl, ?_⟩
    exact ⟨SLB.nil _ _ _ _ _ _, SLB.nil _ _ _ _ _ _, SLB.nil _ _ _ _ _ _, SLB.nil _ _ _ _ _ _, SLB.nil _ _ _ _ _ _, SLB.nil _ _ _ _ _ _, SLB.nil _ _ _ _ _ _⟩
  | some k =>
    rw [hi] at hq
    simp only [Option.map_some] at hq
    obtain ⟨v, ev, hv⟩ := idxOf_view hi
    (focus (refine Wr ?_; refine Tbx ?_; intro b1_1; refine Tal ?_; intro b1_2; refine Tm ?_; refine On ?_; refine Wr ?_; refine Tf ?_; refine Tl ?_; refine Lo m1 ?_; refine Tm ?_; refine S_q rfl rfl rfl (Q_lookupOkS rfl rfl rfl itk rfl rfl (.inl ‹_›) ‹_›) ?_; refine Tm ?_; refine Tx ?_; refine Tx ?_; refine Tm ?_; refine Tm ?_; refine On ?_; refine WP_seq ?_; refine Wr ?_; refine Tm ?_; refine S_q rfl rfl rfl (Q_not rfl rfl) ?_; refine On ?_; refine cond_f rfl ?_; refine WP_skip ?_; refine then_n ?_; refine Wr ?_; refine Tf ?_; refine Tl ?_; refine Lo m1 ?_; refine Tm ?_; refine Ti ?_; refine Tl ?_; refine Le ?_; rintro _ _ _ ⟨xi1_3, xa1_3, po1_3, qo1_3, ps1_3, qs1_3, pc1_3, qc1_3, pn1_3, qn1_3, pm1_3, qm1_3, xw1_3, xv1_3, pf1_3, qf1_3, pr1_3, qr1_3, xe1_3, xf1_3, rfl, vo1_3, vs1_3, vc1_3, vn1_3, vm1_3, vf1_3, vr1_3⟩; refine Tw u0 ?_; refine Tm ?_; refine On ?_; refine WP_ret ?_))
    refine pret (.inl rfl) rfl ⟨_, _, _, rfl, Loads_agg (Rd.own m0) (ty rfl) rfl, ⟨_, _, rfl, rfl, rfl⟩, rfl⟩ ?_
    have hz : vwAt vs m = v := by rw [vwAt, hv]; rfl
    rw [hz, hv]
    exact ⟨_, rfl, rfl, by assumption, xi1_3, _, _, _, _, _, _, _, _, _, _, _, _, _, _, _, _, _, _, _, rfl, vo1_3, vs1_3, vc1_3, vn1_3, vm1_3, vf1_3, vr1_3⟩
/-- the number before, as 64 bits have it -/
theorem wrap_pred {m : Int} (hm : inI64 m) {n : Nat} (hn : n ≤ 4398046511104) : ((0 ≤ IntKind.i64.wrap (m - 1) ∧ IntKind.i64.wrap (m - 1) < n) ↔ (1 ≤ m ∧ m ≤ n)) ∧ (1 ≤ m → IntKind.i64.wrap (m - 1) = m - 1) := by
  unfold inI64 at hm
  by_cases h : m = -9223372036854775808
  · subst h
    have : IntKind.i64.wrap (-9223372036854775808 - 1) = 9223372036854775807 := by decide
    rw [this]; omega
  · have : IntKind.i64.wrap (m - 1) = m - 1 := IntWalk.i64_in _ (by omega)
    rw [this]; omega
theorem view_mem {vs : List View} {m : Int} {v : View} (h : viewOf vs m = some v) : ∃ k : Nat, vs[k]? = some v := by
  unfold viewOf at h
  obtain ⟨k, hk⟩ := List.getElem?_of_mem (List.mem_of_find?_eq_some h)
  exact ⟨k, hk⟩
theorem vwAt_recv {h : Frag} {a : Value} {vs : List View} (s : SL h 13 (ViewC 4398046511104) a vs) (m : Int) : (vwAt vs m).received.length ≤ 4398046511104 := by
  unfold vwAt
  cases hv : viewOf vs m with
  | none => rw [zeroV]; simp
  | some v =>
    obtain ⟨k, hk⟩ := view_mem hv
    obtain ⟨_, _, us, _, _, hc, _⟩ := s.at hk
    obtain ⟨hi, xa, po, qo, qs, qt, pc, qc, pn, qn, pm, qm, xw, xv, pf, qf, pr, qr, xe, xf, _, _, _, _, _, _, _, hr⟩ := hc
    exact hr.le
theorem flying_s {h : Frag} {cs us ws : List Value} {vs : List View} {v : View} {x : Flight} (hf : FleetC h vs cs) (hv : ViewC 4398046511104 h v us) (hx : FlightC 4398046511104 h x ws) : PSpec Tryz.prog 78 #[.agg cs.toArray, .agg us.toArray, .agg ws.toArray] h (fun _ u => u = .bool (flyB vs v x)) := by
  obtain ⟨p, c, mb, ps, rfl, fv, fm, fq⟩ := hf
  have hf : FleetC h vs [.slice p vs.length c, .map (some mb)] := ⟨p, c, mb, ps, rfl, fv, fm, fq⟩
  obtain ⟨hi, xa, po, qo, qs, qt, pc, qc, pn, qn, pm, qm, xw, xv, pf, qf, pr, qr, xe, xf, rfl, -⟩ := hv
  obtain ⟨ya, yb, yc, yd, ye, pa, qa, pg, qg, ph, qh, yw, y1, y2, y3, y4, y5, y6, y7, y8, y9, y10, y11, y12, y13, y14, y15, rfl, -⟩ := hx
  refine pspec_of (vs := [.agg [Value.slice p vs.length c, .map (some mb)].toArray, .agg _, .agg _]) Tryz.func78 Tryz.ntmps78 rfl rfl ?_
  have hrl := vwAt_recv fv x.to
  obtain ⟨hw1, hw2⟩ := wrap_pred hi hrl
  have hfl : flyB vs v x = ((viewOf vs x.to).isSome && decide (recv (vwAt vs x.to) v.machine < x.seq)) := by rw [flyB]
  clear fq fm fv
  by_cases hr : 1 ≤ v.machine ∧ v.machine ≤ (vwAt vs x.to).received.length
  · have hw := hw2 hr.1
    obtain ⟨j, hj⟩ := Int.eq_ofNat_of_zero_le (a := v.machine - 1) (by omega)
    obtain ⟨y, ey⟩ := get_of (xs := (vwAt vs x.to).received) (k := j) (by omega)
    have hrc : recv (vwAt vs x.to) v.machine = y := by rw [recv, if_pos hr, hj]; simp [ey]
    rw [hrc] at hfl
    clear hw1 hw2
    (focus (refine Wr ?_; refine Tbx ?_; intro b0_1; refine Tbx ?_; intro b0_2; refine Tbx ?_; intro b0_3; refine Tm ?_; refine On ?_; refine Wr ?_; refine Tl ?_; refine Lg m2 ?_; refine Tf ?_; refine Tl ?_; refine Lo m0 ?_; refine S_c rfl rfl rfl (C_call0 (view_s ‹_›) rfl rfl ⟨_, _, rfl, ⟨_, _, rfl, rfl, rfl⟩, rfl⟩ (cal rfl) ?_); rintro _ ⟨cv0_4, rfl, cl0_4, co0_4, ⟨xi0_4, xa0_4, po0_4, qo0_4, ps0_4, qs0_4, pc0_4, qc0_4, pn0_4, qn0_4, pm0_4, qm0_4, xw0_4, xv0_4, pf0_4, qf0_4, pr0_4, qr0_4, xe0_4, xf0_4, rfl, vo0_4, vs0_4, vc0_4, vn0_4, vm0_4, vf0_4, vr0_4⟩⟩; refine Tm ?_; refine Tx ?_; refine Tx ?_; refine Tal ?_; intro b0_5; refine Tw u0 ?_; refine Tm ?_; refine On ?_; refine Wr ?_; refine Tm ?_; refine On ?_; refine WP_seq ?_; refine Wr ?_; refine Tf ?_; refine Tl ?_; refine Lo m2 ?_; refine S_q rfl rfl rfl (Q_sub rfl rfl rfl (by omega)) ?_; refine Tm ?_; refine On ?_; refine Wr ?_; refine Tm ?_; refine Tc ?_; refine Tm ?_; refine S_gsplit rfl rfl rfl rfl (fun c0_6 => ?_) (fun c0_6 => ?_) <;> (try simp at c0_6); (focus (refine Ugm ?_; refine Ugf ?_; refine Ugl ?_; refine Lo m0 ?_; refine S_gq rfl rfl rfl rfl rfl rfl (Q_len rfl rfl rfl rfl rfl rfl) ?_; refine Ugc ?_; refine Tp1 ?_; refine On ?_; refine WP_cond rfl (fun c0_7 => ?_) (fun c0_7 => ?_) <;> (try simp at c0_7); (focus (refine R_region ?_; refine Tf ?_; refine Tl ?_; refine Lo m0 ?_; refine Tm ?_; refine S_q rfl rfl rfl (Q_indexS ‹_› ‹_› rfl rfl rfl (elm rfl) (by omega)) ?_; refine Tl ?_; refine L_el1 ‹_› ‹_› (ty rfl) ?_; rintro _ ⟨⟩; refine Tm ?_; refine On ?_; refine Wr ?_; refine Tm ?_; refine Tm ?_; refine S_gsplit rfl rfl rfl rfl (fun c0_9 => ?_) (fun c0_9 => ?_) <;> (try simp at c0_9); (focus (refine Ugf ?_; refine Ugl ?_; refine Lo m1 ?_; refine Ugm ?_; refine Ugc ?_; refine Tp1 ?_; refine Tm ?_; refine On ?_; refine WP_ret ?_)); rotate_left 1; (focus (refine Tn ?_; refine Tn ?_; refine Tn ?_; refine Tn ?_; refine Tp0 ?_; refine Tm ?_; refine On ?_; refine WP_ret ?_)); rotate_left 1)); rotate_left 2; (focus (exfalso; omega)))); rotate_left 2; (focus (exfalso; omega))))
    all_goals refine pret (.inl rfl) rfl ⟨_, _, rfl, rfl, rfl⟩ ?_
    all_goals (rw [hfl]; clear hfl hf; simp [resOf, *])
  · have hrc : recv (vwAt vs x.to) v.machine = 0 := by rw [recv, if_neg hr]
    rw [hrc] at hfl
    rw [← hw1] at hr
    clear hw1 hw2
    (focus (refine Wr ?_; refine Tbx ?_; intro b1_1; refine Tbx ?_; intro b1_2; refine Tbx ?_; intro b1_3; refine Tm ?_; refine On ?_; refine Wr ?_; refine Tl ?_; refine Lg m2 ?_; refine Tf ?_; refine Tl ?_; refine Lo m0 ?_; refine S_c rfl rfl rfl (C_call0 (view_s ‹_›) rfl rfl ⟨_, _, rfl, ⟨_, _, rfl, rfl, rfl⟩, rfl⟩ (cal rfl) ?_); rintro _ ⟨cv1_4, rfl, cl1_4, co1_4, ⟨xi1_4, xa1_4, po1_4, qo1_4, ps1_4, qs1_4, pc1_4, qc1_4, pn1_4, qn1_4, pm1_4, qm1_4, xw1_4, xv1_4, pf1_4, qf1_4, pr1_4, qr1_4, xe1_4, xf1_4, rfl, vo1_4, vs1_4, vc1_4, vn1_4, vm1_4, vf1_4, vr1_4⟩⟩; refine Tm ?_; refine Tx ?_; refine Tx ?_; refine Tal ?_; intro b1_5; refine Tw u0 ?_; refine Tm ?_; refine On ?_; refine Wr ?_; refine Tm ?_; refine On ?_; refine WP_seq ?_; refine Wr ?_; refine Tf ?_; refine Tl ?_; refine Lo m2 ?_; refine S_q rfl rfl rfl (Q_arith rfl rfl rfl rfl) ?_; refine Tm ?_; refine On ?_; refine Wr ?_; refine Tm ?_; refine Tc ?_; refine Tm ?_; refine S_gsplit rfl rfl rfl rfl (fun c1_6 => ?_) (fun c1_6 => ?_) <;> (try simp at c1_6); (focus (refine Ugm ?_; refine Ugf ?_; refine Ugl ?_; refine Lo m0 ?_; refine S_gq rfl rfl rfl rfl rfl rfl (Q_len rfl rfl rfl rfl rfl rfl) ?_; refine Ugc ?_; refine Tp1 ?_; refine On ?_; refine WP_cond rfl (fun c1_7 => ?_) (fun c1_7 => ?_) <;> (try simp at c1_7); (focus (exfalso; omega)); (focus (refine WP_skip ?_; refine then_n ?_; refine Wr ?_; refine Tm ?_; refine Tm ?_; refine S_gsplit rfl rfl rfl rfl (fun c1_8 => ?_) (fun c1_8 => ?_) <;> (try simp at c1_8); (focus (refine Ugf ?_; refine Ugl ?_; refine Lo m1 ?_; refine Ugm ?_; refine Ugc ?_; refine Tp1 ?_; refine Tm ?_; refine On ?_; refine WP_ret ?_)); rotate_left 1; (focus (refine Tn ?_; refine Tn ?_; refine Tn ?_; refine Tn ?_; refine Tp0 ?_; refine Tm ?_; refine On ?_; refine WP_ret ?_)); rotate_left 1)); rotate_left 2)); rotate_left 2; (focus (refine Tn ?_; refine Tn ?_; refine Tn ?_; refine Tn ?_; refine Tn ?_; refine Tp0 ?_; refine On ?_; refine cond_f rfl ?_; refine WP_skip ?_; refine then_n ?_; refine Wr ?_; refine Tm ?_; refine Tm ?_; refine S_gsplit rfl rfl rfl rfl (fun c1_9 => ?_) (fun c1_9 => ?_) <;> (try simp at c1_9); (focus (refine Ugf ?_; refine Ugl ?_; refine Lo m1 ?_; refine Ugm ?_; refine Ugc ?_; refine Tp1 ?_; refine Tm ?_; refine On ?_; refine WP_ret ?_)); rotate_left 1; (focus (refine Tn ?_; refine Tn ?_; refine Tn ?_; refine Tn ?_; refine Tp0 ?_; refine Tm ?_; refine On ?_; refine WP_ret ?_)); rotate_left 1)); rotate_left 2))
    all_goals refine pret (.inl rfl) rfl ⟨_, _, rfl, rfl, rfl⟩ ?_
    all_goals (rw [hfl]; clear hfl hf; simp [resOf, *])
theorem scion1_s {h : Frag} {e : ScionE} {us : List Value} {b1 b2 : Nat} {cl nu : Int} (h1 : At h b1 0 [.int .i64 cl]) (h2 : At h b2 0 [.int .u64 nu]) (he : ScionC h e us) : PSpec Tryz.prog 104 ([Value.agg us.toArray] ++ [ptr b1 0, ptr b2 0]).toArray h (fun _ v => v = .bool (decide (e.client = cl) && decide (e.number = nu))) := by
  obtain ⟨xa, xb, xc, xd, xe, xf, xg, xh, rfl⟩ := he
  refine pspec_of (vs := [.agg _, ptr b1 0, ptr b2 0]) Tryz.func104 Tryz.ntmps104 rfl rfl ?_
  (focus (refine Wr ?_; refine Tbx ?_; intro b0_1; refine Tm ?_; refine On ?_; refine Wr ?_; refine Tf ?_; refine Tl ?_; refine Lo m0 ?_; refine Tl ?_; refine L_one (Rd.pers ‹_›) (ty rfl) ?_; refine Tc ?_; refine Tm ?_; refine S_gsplit rfl rfl rfl rfl (fun c0_2 => ?_) (fun c0_2 => ?_) <;> (try simp at c0_2); (focus (refine Ugf ?_; refine Ugl ?_; refine Lo m0 ?_; refine Ugl ?_; refine L_one (Rd.pers ‹_›) (ty rfl) ?_; refine Ugc ?_; refine Tp1 ?_; refine Tm ?_; refine On ?_; refine WP_ret ?_)); rotate_left 1; (focus (refine Tn ?_; refine Tn ?_; refine Tn ?_; refine Tn ?_; refine Tp0 ?_; refine Tm ?_; refine On ?_; refine WP_ret ?_)); rotate_left 1))
  all_goals refine pret (.inl rfl) rfl ⟨_, _, rfl, rfl, rfl⟩ ?_
  all_goals (simp_all [resOf]; try rfl)
def zeroS : ScionE := ⟨0, 0, (0, 0)⟩
theorem scion_s {h : Frag} {cs : List Value} {vs : List View} {m cl nu : Int} (hf : FleetC h vs cs) : PSpec Tryz.prog 60 #[.agg cs.toArray, .int .i64 m, .int .i64 cl, .int .u64 nu] h
    (fun _ v => ∃ us, v = .tuple #[.agg us.toArray, .bool (scionOf vs m cl nu).isSome] ∧ us.length = 12 ∧ ones us = true ∧ ScionC h ((scionOf vs m cl nu).getD zeroS) us) := by
  obtain ⟨p, c, mb, ps, rfl, fv, fm, fq⟩ := hf
  have hf : FleetC h vs [.slice p vs.length c, .map (some mb)] := ⟨p, c, mb, ps, rfl, fv, fm, fq⟩
  clear fq fm fv
  refine pspec_of (vs := [.agg [Value.slice p vs.length c, .map (some mb)].toArray, .int .i64 m, .int .i64 cl, .int .u64 nu]) Tryz.func60 Tryz.ntmps60 rfl rfl ?_
  (focus (refine Wr ?_; refine Tbx ?_; intro b0_1; refine S_c rfl rfl rfl (C_box1 rfl rfl rfl ?_); intro b0_2; refine S_c rfl rfl rfl (C_box1 rfl rfl rfl ?_); intro b0_3; refine Tal ?_; intro b0_4; refine Tm ?_; refine On ?_; refine Wr ?_; refine Tl ?_; refine Lg m3 ?_; refine Tm ?_; refine S_c rfl rfl rfl (C_call0 (view_s ‹_›) rfl rfl ⟨_, _, rfl, ⟨_, _, rfl, rfl, rfl⟩, rfl⟩ (cal rfl) ?_); rintro _ ⟨cv0_5, rfl, cl0_5, co0_5, ⟨xi0_5, xa0_5, po0_5, qo0_5, ps0_5, qs0_5, pc0_5, qc0_5, pn0_5, qn0_5, pm0_5, qm0_5, xw0_5, xv0_5, pf0_5, qf0_5, pr0_5, qr0_5, xe0_5, xf0_5, rfl, vo0_5, vs0_5, vc0_5, vn0_5, vm0_5, vf0_5, vr0_5⟩⟩; refine Tm ?_; refine Tx ?_; refine Tx ?_; refine Tal ?_; intro b0_6; refine Tw u0 ?_; refine Tm ?_; refine On ?_; refine Wr ?_; refine Tf ?_; refine Tl ?_; refine Lo m0 ?_; refine S_q rfl rfl rfl (Q_makeFunc rfl rfl ⟨_, _, rfl, ⟨_, _, rfl, rfl, rfl⟩, rfl⟩) ?_))
  (focus (refine OPS_keepM [_, _] [_] _ rfl ?_; rintro h1_k l1_k k1_k; have a1_k := at_of_keep k1_k; clear k1_k; replace hf := hf.up l1_k; replace vo0_5 := vo0_5.up l1_k; replace vs0_5 := vs0_5.up l1_k; replace vc0_5 := vc0_5.up l1_k; replace vn0_5 := vn0_5.up l1_k; replace vm0_5 := vm0_5.up l1_k; replace vf0_5 := vf0_5.up l1_k; replace vr0_5 := vr0_5.up l1_k))
  (focus (refine OPS_keepM [_, _] [_] _ rfl ?_; rintro h2_k l2_k k2_k; have a2_k := at_of_keep k2_k; clear k2_k; replace a1_k := a1_k.up l2_k; replace hf := hf.up l2_k; replace vo0_5 := vo0_5.up l2_k; replace vs0_5 := vs0_5.up l2_k; replace vc0_5 := vc0_5.up l2_k; replace vn0_5 := vn0_5.up l2_k; replace vm0_5 := vm0_5.up l2_k; replace vf0_5 := vf0_5.up l2_k; replace vr0_5 := vr0_5.up l2_k))
  refine S_c rfl rfl rfl (C_callv (idxScion_s (cap := [ptr b0_2 0, ptr b0_3 0]) vc0_5 (cal rfl) (fun x us _ _ hx => scion1_s a2_k a1_k hx)) rfl rfl ⟨_, _, rfl, ⟨_, _, rfl, rfl, rfl⟩, rfl⟩ (cal rfl) ?_)
  cases hi : (vwAt vs m).scions.findIdx? (fun e => decide (e.client = cl) && decide (e.number = nu)) with
  | none =>
    simp only [idxI]
    have hx' : scionOf vs m cl nu = none := by rw [scionOf]; exact findIdx_none hi
    (focus (refine Tm ?_; refine On ?_; refine WP_seq ?_; refine Wr ?_; refine Tm ?_; refine Tc ?_; refine On ?_; refine cond_t rfl ?_; refine Wr ?_; refine S_q rfl rfl rfl (Q_build rfl (by decide +kernel) (zer rfl) rfl rfl) ?_; refine Tw u1 ?_; refine Tm ?_; refine On ?_; refine WP_ret ?_; refine then_r ?_))
    refine pret (.inl rfl) rfl ⟨_, _, _, rfl, Loads_agg (Rd.own m1) (ty rfl) rfl, ⟨_, _, rfl, rfl, rfl⟩, rfl⟩ ?_
    rw [hx', Option.getD_none, zeroS]
    exact ⟨_, rfl, rfl, rfl, _, _, _, _, _, _, _, _, rfl⟩
  | some k =>
    simp only [idxI]
    obtain ⟨x, ex, hx⟩ := findIdx_find hi
    have hx' : scionOf vs m cl nu = some x := by rw [scionOf]; exact hx
    (focus (refine Tm ?_; refine On ?_; refine WP_seq ?_; refine Wr ?_; refine Tm ?_; refine Tc ?_; refine On ?_; refine cond_f rfl ?_; refine WP_skip ?_; refine then_n ?_; refine Wr ?_; refine Tf ?_; refine Tl ?_; refine Lo m0 ?_; refine Tm ?_; refine Ti ?_; refine Tl ?_; refine Le ?_; rintro _ _ _ ⟨xa4_1, xb4_1, xc4_1, xd4_1, xe4_1, xf4_1, xg4_1, xh4_1, rfl⟩; refine Tw u1 ?_; refine Tm ?_; refine On ?_; refine WP_ret ?_))
    refine pret (.inl rfl) rfl ⟨_, _, _, rfl, Loads_agg (Rd.own m1) (ty rfl) rfl, ⟨_, _, rfl, rfl, rfl⟩, rfl⟩ ?_
    rw [hx', Option.getD_some]
    exact ⟨_, rfl, rfl, by assumption, _, _, _, _, _, _, _, _, rfl⟩
theorem numbered1_s {h : Frag} {x : Flight} {ws cs us : List Value} {vs : List View} {v : View} {b1 b2 b3 b4 : Nat} {to nu : Int} (h1 : At h b1 0 [.int .i64 to]) (h2 : At h b2 0 [.int .u64 nu]) (h3 : At h b3 0 cs) (h4 : At h b4 0 us) (lc : cs.length = 2) (lu : us.length = 13)
    (hf : FleetC h vs cs) (hv : ViewC 4398046511104 h v us) (hx : FlightC 4398046511104 h x ws) (hw : ones ws = true) : PSpec Tryz.prog 87 ([Value.agg ws.toArray] ++ [ptr b1 0, ptr b2 0, ptr b3 0, ptr b4 0]).toArray h
      (fun _ u => u = .bool (decide (x.to = to) && (decide (x.msg.kind = 1) && (decide (x.msg.parcel.number = nu) && flyB vs v x)))) := by
  have hx' := hx
  obtain ⟨ya, yb, yc, yd, ye, pa, qa, pg, qg, ph, qh, yw, y1, y2, y3, y4, y5, y6, y7, y8, y9, y10, y11, y12, y13, y14, y15, rfl, -⟩ := hx
  refine pspec_of (vs := [.agg _, ptr b1 0, ptr b2 0, ptr b3 0, ptr b4 0]) Tryz.func87 Tryz.ntmps87 rfl rfl ?_
  (focus (refine Wr ?_; refine Tbx ?_; intro b0_1; refine Tm ?_; refine On ?_; refine Wr ?_; refine Tf ?_; refine Tl ?_; refine Lo m0 ?_; refine Tl ?_; refine L_one (Rd.pers ‹_›) (ty rfl) ?_; refine Tc ?_; refine Tm ?_; refine S_gsplit rfl rfl rfl rfl (fun c0_2 => ?_) (fun c0_2 => ?_) <;> (try simp at c0_2); (focus (refine Ugf ?_; refine Ugf ?_; refine Ugl ?_; refine L_fld2 (Rd.own m0) ?_; refine LV_1 (ty rfl) rfl ?_; refine Ugc ?_; refine Tp1 ?_; refine Tm ?_; refine S_gsplit rfl rfl rfl rfl (fun c0_3 => ?_) (fun c0_3 => ?_) <;> (try simp at c0_3); (focus (refine Ugf ?_; refine Ugf ?_; refine Ugf ?_; refine Ugl ?_; refine L_fld3 (Rd.own m0) ?_; refine LV_1 (ty rfl) rfl ?_; refine Ugl ?_; refine L_one (Rd.pers ‹_›) (ty rfl) ?_; refine Ugc ?_; refine Tp1 ?_; refine Tm ?_; refine S_gsplit rfl rfl rfl rfl (fun c0_4 => ?_) (fun c0_4 => ?_) <;> (try simp at c0_4); (focus (refine Ugl ?_; refine Lp ?_; refine Ugl ?_; refine Lp ?_; refine Ugl ?_; refine Lg m0 ?_; refine S_gc rfl rfl rfl rfl rfl rfl (C_callv (flying_s ‹_› ‹_› ‹_›) rfl rfl ⟨_, _, rfl, ⟨_, _, rfl, ⟨_, _, rfl, rfl, rfl⟩, rfl⟩, rfl⟩ (cal rfl) ?_); refine Tp1 ?_; refine Tm ?_; refine On ?_; refine WP_ret ?_)); rotate_left 1; (focus (refine Tn ?_; refine Tn ?_; refine Tn ?_; refine Tn ?_; refine Tp0 ?_; refine Tm ?_; refine On ?_; refine WP_ret ?_)); rotate_left 1)); rotate_left 2; (focus (refine Tn ?_; refine Tn ?_; refine Tn ?_; refine Tn ?_; refine Tn ?_; refine Tn ?_; refine Tp0 ?_; refine Tm ?_; refine Tn ?_; refine Tn ?_; refine Tn ?_; refine Tn ?_; refine Tp0 ?_; refine Tm ?_; refine On ?_; refine WP_ret ?_)); rotate_left 1)); rotate_left 3; (focus (refine Tn ?_; refine Tn ?_; refine Tn ?_; refine Tn ?_; refine Tp0 ?_; refine Tm ?_; refine Tn ?_; refine Tn ?_; refine Tn ?_; refine Tn ?_; refine Tn ?_; refine Tn ?_; refine Tp0 ?_; refine Tm ?_; refine Tn ?_; refine Tn ?_; refine Tn ?_; refine Tn ?_; refine Tp0 ?_; refine Tm ?_; refine On ?_; refine WP_ret ?_)); rotate_left 1))
  all_goals refine pret (.inl rfl) rfl ⟨_, _, rfl, rfl, rfl⟩ ?_
  all_goals (simp_all [resOf]; try rfl)
theorem numbered_s {h : Frag} {cs : List Value} {vs : List View} {frm to nu : Int} (hf : FleetC h vs cs) : PSpec Tryz.prog 40 #[.agg cs.toArray, .int .i64 frm, .int .i64 to, .int .u64 nu] h
    (fun _ v => v = .agg (idc (numberedOf vs frm to nu)).toArray) := by
  obtain ⟨p, c, mb, ps, rfl, fv, fm, fq⟩ := hf
  have hf : FleetC h vs [.slice p vs.length c, .map (some mb)] := ⟨p, c, mb, ps, rfl, fv, fm, fq⟩
  clear fq fm fv
  refine pspec_of (vs := [.agg [Value.slice p vs.length c, .map (some mb)].toArray, .int .i64 frm, .int .i64 to, .int .u64 nu]) Tryz.func40 Tryz.ntmps40 rfl rfl ?_
  (focus (refine Wr ?_; refine Tbx ?_; intro b0_1; refine S_c rfl rfl rfl (C_box1 rfl rfl rfl ?_); intro b0_2; refine S_c rfl rfl rfl (C_box1 rfl rfl rfl ?_); intro b0_3; refine Tal ?_; intro b0_4; refine On ?_; refine WP_seq ?_; refine Wr ?_; refine Tl ?_; refine Lg m3 ?_; refine Tl ?_; refine L_one (Rd.own m2) (ty rfl) ?_; refine Tm ?_; refine Tl ?_; refine L_one (Rd.own m1) (ty rfl) ?_; refine S_c rfl rfl rfl (C_call0 (scion_s ‹_›) rfl rfl ⟨_, _, rfl, ⟨_, _, rfl, ⟨_, _, rfl, ⟨_, _, rfl, rfl, rfl⟩, rfl⟩, rfl⟩, rfl⟩ (cal rfl) ?_); rintro _ ⟨cv0_5, rfl, cl0_5, co0_5, ⟨xa0_5, xb0_5, xc0_5, xd0_5, xe0_5, xf0_5, xg0_5, xh0_5, rfl⟩⟩; refine Tm ?_; refine Tx ?_; refine Tx ?_; refine Tal ?_; intro b0_6; refine Tw u0 ?_; refine Tm ?_; refine On ?_; refine Wr ?_; refine Tm ?_; refine On ?_; refine WP_cond rfl (fun c0_7 => ?_) (fun c0_7 => ?_) <;> (try simp at c0_7); (focus (refine Wr ?_; refine Tf ?_; refine Tl ?_; refine L_sub (Rd.own m0) (ty rfl) rfl ?_; refine Tw u1 ?_; refine On ?_; refine WP_ret ?_; refine then_r ?_)); rotate_left 1; (focus (refine WP_skip ?_; refine then_n ?_; refine Wr ?_; refine Tl ?_; refine Lg m4 ?_; refine Tm ?_; refine S_c rfl rfl rfl (C_call0 (view_s ‹_›) rfl rfl ⟨_, _, rfl, ⟨_, _, rfl, rfl, rfl⟩, rfl⟩ (cal rfl) ?_); rintro _ ⟨cv0_8, rfl, cl0_8, co0_8, ⟨xi0_8, xa0_8, po0_8, qo0_8, ps0_8, qs0_8, pc0_8, qc0_8, pn0_8, qn0_8, pm0_8, qm0_8, xw0_8, xv0_8, pf0_8, qf0_8, pr0_8, qr0_8, xe0_8, xf0_8, rfl, vo0_8, vs0_8, vc0_8, vn0_8, vm0_8, vf0_8, vr0_8⟩⟩; refine Tm ?_; refine Tx ?_; refine Tx ?_; refine Tal ?_; intro b0_9; refine Tw u0 ?_; refine Tm ?_; refine On ?_; refine Wr ?_; refine Tf ?_; refine Tl ?_; refine Lo m0 ?_; refine S_q rfl rfl rfl (Q_makeFunc rfl rfl ⟨_, _, rfl, ⟨_, _, rfl, ⟨_, _, rfl, ⟨_, _, rfl, rfl, rfl⟩, rfl⟩, rfl⟩, rfl⟩) ?_)); rotate_left 1))
  · obtain ⟨e, he⟩ := Option.isSome_iff_exists.1 c0_7
    refine pret (.inl rfl) rfl ⟨_, _, _, rfl, Loads_agg (Rd.own m1) (ty rfl) rfl, rfl, rfl⟩ ?_
    rw [numberedOf, he]; rfl
  (focus (refine OPS_keepM [] [_] _ rfl ?_; rintro h1_k l1_k k1_k; have a1_k := at_of_keep k1_k; clear k1_k; replace hf := hf.up l1_k; replace vo0_8 := vo0_8.up l1_k; replace vs0_8 := vs0_8.up l1_k; replace vc0_8 := vc0_8.up l1_k; replace vn0_8 := vn0_8.up l1_k; replace vm0_8 := vm0_8.up l1_k; replace vf0_8 := vf0_8.up l1_k; replace vr0_8 := vr0_8.up l1_k))
  (focus (refine OPS_keepM [_, _] [_] _ rfl ?_; rintro h2_k l2_k k2_k; have a2_k := at_of_keep k2_k; clear k2_k; replace a1_k := a1_k.up l2_k; replace hf := hf.up l2_k; replace vo0_8 := vo0_8.up l2_k; replace vs0_8 := vs0_8.up l2_k; replace vc0_8 := vc0_8.up l2_k; replace vn0_8 := vn0_8.up l2_k; replace vm0_8 := vm0_8.up l2_k; replace vf0_8 := vf0_8.up l2_k; replace vr0_8 := vr0_8.up l2_k))
  (focus (refine OPS_keepM [_, _] [_] _ rfl ?_; rintro h3_k l3_k k3_k; have a3_k := at_of_keep k3_k; clear k3_k; replace a2_k := a2_k.up l3_k; replace a1_k := a1_k.up l3_k; replace hf := hf.up l3_k; replace vo0_8 := vo0_8.up l3_k; replace vs0_8 := vs0_8.up l3_k; replace vc0_8 := vc0_8.up l3_k; replace vn0_8 := vn0_8.up l3_k; replace vm0_8 := vm0_8.up l3_k; replace vf0_8 := vf0_8.up l3_k; replace vr0_8 := vr0_8.up l3_k))
  (focus (refine OPS_keepM [_, _] [_] _ rfl ?_; rintro h4_k l4_k k4_k; have a4_k := at_of_keep k4_k; clear k4_k; replace a3_k := a3_k.up l4_k; replace a2_k := a2_k.up l4_k; replace a1_k := a1_k.up l4_k; replace hf := hf.up l4_k; replace vo0_8 := vo0_8.up l4_k; replace vs0_8 := vs0_8.up l4_k; replace vc0_8 := vc0_8.up l4_k; replace vn0_8 := vn0_8.up l4_k; replace vm0_8 := vm0_8.up l4_k; replace vf0_8 := vf0_8.up l4_k; replace vr0_8 := vr0_8.up l4_k))
  refine S_c rfl rfl rfl (C_callv (idxFlight_s (cap := [ptr b0_2 0, ptr b0_3 0, ptr b0_1 0, ptr b0_9 0]) vf0_8 (cal rfl) (fun x ws _ hw hx => numbered1_s a3_k a2_k a4_k a1_k rfl rfl hf ⟨xi0_8, _, _, _, _, _, _, _, _, _, _, _, _, _, _, _, _, _, _, _, rfl, vo0_8, vs0_8, vc0_8, vn0_8, vm0_8, vf0_8, vr0_8⟩ hx hw)) rfl rfl ⟨_, _, rfl, ⟨_, _, rfl, rfl, rfl⟩, rfl⟩ (cal rfl) ?_)
  cases hi : (vwAt vs frm).flights.findIdx? (fun x => decide (x.to = to) && (decide (x.msg.kind = 1) && (decide (x.msg.parcel.number = nu) && flyB vs (vwAt vs frm) x))) with
  | none =>
    simp only [idxI]
    have hx' : moveOf vs frm to nu = none := by rw [moveOf]; exact findIdx_none hi
    (focus (refine Tm ?_; refine On ?_; refine WP_seq ?_; refine Wr ?_; refine Tm ?_; refine Tc ?_; refine On ?_; refine cond_t rfl ?_; refine Wr ?_; refine S_q rfl rfl rfl (Q_build rfl (by decide +kernel) (zer rfl) rfl rfl) ?_; refine Tw u1 ?_; refine On ?_; refine WP_ret ?_; refine then_r ?_))
    refine pret (.inl rfl) rfl ⟨_, _, _, rfl, Loads_agg (Rd.own m1) (ty rfl) rfl, rfl, rfl⟩ ?_
    rw [numberedOf, c0_7]; simp only [hx']; rfl
  | some k =>
    simp only [idxI]
    obtain ⟨x, ex, hx⟩ := findIdx_find hi
    have hx' : moveOf vs frm to nu = some x := by rw [moveOf]; exact hx
    (focus (refine Tm ?_; refine On ?_; refine WP_seq ?_; refine Wr ?_; refine Tm ?_; refine Tc ?_; refine On ?_; refine cond_f rfl ?_; refine WP_skip ?_; refine then_n ?_; refine Wr ?_; refine Tf ?_; refine Tl ?_; refine L_fld (Rd.pers ‹_›) (ty rfl) rfl ?_; refine Tm ?_; refine Ti ?_; refine Tf ?_; refine Tf ?_; refine Tf ?_; refine Tl ?_; refine L_elF3 ‹_› ‹_› ?_; rintro _ _ _ ⟨xa6_1, xb6_1, xc6_1, xd6_1, xe6_1, pa6_1, qa6_1, pf6_1, qf6_1, pm6_1, qm6_1, xw6_1, y16_1, y26_1, y36_1, y46_1, y56_1, y66_1, y76_1, y86_1, y96_1, y106_1, y116_1, y126_1, y136_1, y146_1, y156_1, rfl, ha6_1, hf6_1, hm6_1⟩; refine LV_a (ty rfl) rfl ?_; refine Tw u1 ?_; refine On ?_; refine WP_ret ?_))
    refine pret (.inl rfl) rfl ⟨_, _, _, rfl, Loads_agg (Rd.own m1) (ty rfl) rfl, rfl, rfl⟩ ?_
    rw [numberedOf, c0_7]; simp only [hx']; rfl
theorem id_s {h : Frag} {cs : List Value} {vs : List View} {frm to : Int} {r : Ref} (hf : FleetC h vs cs) : PSpec Tryz.prog 39 #[.agg cs.toArray, .int .i64 frm, .int .i64 to, .agg (rfc r).toArray] h (fun _ v => v = .agg (idc (idOf vs frm to r)).toArray) := by
  obtain ⟨p, c, mb, ps, rfl, fv, fm, fq⟩ := hf
  have hf : FleetC h vs [.slice p vs.length c, .map (some mb)] := ⟨p, c, mb, ps, rfl, fv, fm, fq⟩
  clear fq fm fv
  refine pspec_of (vs := [.agg [Value.slice p vs.length c, .map (some mb)].toArray, .int .i64 frm, .int .i64 to, .agg (rfc r).toArray]) Tryz.func39 Tryz.ntmps39 rfl rfl ?_
  (focus (refine Wr ?_; refine Tbx ?_; intro b0_1; refine Tbx ?_; intro b0_2; refine Tal ?_; intro b0_3; refine On ?_; refine WP_seq ?_; refine Wr ?_; refine Tf ?_; refine Tl ?_; refine Lo m1 ?_; refine On ?_; refine WP_block ?_; refine Wr ?_; refine Tc ?_; refine Tm ?_; refine On ?_; refine WP_cond rfl (fun c0_4 => ?_) (fun c0_4 => ?_) <;> (try simp at c0_4); (focus (refine Wr ?_; refine Tf ?_; refine Tl ?_; refine L_sub (Rd.own m1) (ty rfl) rfl ?_; refine Tw u0 ?_; refine On ?_; refine WP_ret ?_; refine block_r ?_; refine then_r ?_)); rotate_left 1; (focus (refine Wr ?_; refine Tc ?_; refine Tm ?_; refine On ?_; refine WP_cond rfl (fun c0_5 => ?_) (fun c0_5 => ?_) <;> (try simp at c0_5); (focus (refine Wr ?_; refine Tl ?_; refine Lg m2 ?_; refine Tm ?_; refine Tm ?_; refine Tf ?_; refine Tl ?_; refine Lo m1 ?_; refine S_c rfl rfl rfl (C_callv (numbered_s ‹_›) rfl rfl ⟨_, _, rfl, ⟨_, _, rfl, ⟨_, _, rfl, ⟨_, _, rfl, rfl, rfl⟩, rfl⟩, rfl⟩, rfl⟩ (cal rfl) ?_); refine Tw u0 ?_; refine On ?_; refine WP_ret ?_; refine block_r ?_; refine then_r ?_)); rotate_left 1; (focus (refine WP_skip ?_; refine block_n ?_; refine then_n ?_; refine Wr ?_; refine S_q rfl rfl rfl (Q_build rfl (by decide +kernel) (zer rfl) rfl rfl) ?_; refine Tw u0 ?_; refine On ?_; refine WP_ret ?_)); rotate_left 1)); rotate_left 2))
  all_goals refine pret (.inl rfl) rfl ⟨_, _, _, rfl, Loads_agg (Rd.own m0) (ty rfl) rfl, rfl, rfl⟩ ?_
  all_goals (simp [resOf, idOf, *]; try rfl)
theorem value_s {h : Frag} {cs : List Value} {vs : List View} {frm to : Int} {r : Ref} (hf : FleetC h vs cs) : PSpec Tryz.prog 35 #[.agg cs.toArray, .int .i64 frm, .int .i64 to, .agg (rfc r).toArray] h (fun _ v => v = .agg (vlc (valueOf vs frm to r)).toArray) := by
  obtain ⟨p, c, mb, ps, rfl, fv, fm, fq⟩ := hf
  have hf : FleetC h vs [.slice p vs.length c, .map (some mb)] := ⟨p, c, mb, ps, rfl, fv, fm, fq⟩
  clear fq fm fv
  refine pspec_of (vs := [.agg [Value.slice p vs.length c, .map (some mb)].toArray, .int .i64 frm, .int .i64 to, .agg (rfc r).toArray]) Tryz.func35 Tryz.ntmps35 rfl rfl ?_
  (focus (refine Wr ?_; refine Tbx ?_; intro b0_1; refine Tbx ?_; intro b0_2; refine Tal ?_; intro b0_3; refine On ?_; refine Wr ?_; refine Tl ?_; refine Lg m2 ?_; refine Tm ?_; refine Tm ?_; refine Tl ?_; refine Lg m1 ?_; refine S_c rfl rfl rfl (C_callv (id_s ‹_›) rfl rfl ⟨_, _, rfl, ⟨_, _, rfl, ⟨_, _, rfl, ⟨_, _, rfl, rfl, rfl⟩, rfl⟩, rfl⟩, rfl⟩ (cal rfl) ?_); refine Tal ?_; intro b0_4; refine Tw u0 ?_; refine On ?_; refine WP_seq ?_; refine WP_block ?_; refine Wr ?_; refine Tf ?_; refine Tl ?_; refine Lo m2 ?_; refine Tc ?_; refine Tm ?_; refine On ?_; refine WP_cond rfl (fun c0_5 => ?_) (fun c0_5 => ?_) <;> (try simp at c0_5); (focus (refine Wr ?_; refine Tf ?_; refine Tl ?_; refine Lo m2 ?_; refine S_q rfl rfl rfl (Q_build rfl (by decide +kernel) (zer rfl) ⟨_, _, _, _, _, _, _, rfl, fld rfl rfl, ty rfl, rfl, rfl, ⟨_, _, _, _, _, _, _, rfl, fld rfl rfl, ty rfl, rfl, rfl, rfl, rfl⟩, rfl⟩ rfl) ?_; refine Tw u1 ?_; refine On ?_; refine WP_ret ?_; refine block_r ?_; refine then_r ?_)); rotate_left 1; (focus (refine Wr ?_; refine Tl ?_; refine Lg m0 ?_; refine S_q rfl rfl rfl (Q_build rfl (by decide +kernel) (zer rfl) rfl rfl) ?_; refine S_q rfl rfl rfl (Q_neI eqID rfl rfl rfl rfl rfl) ?_; refine Tm ?_; refine On ?_; refine WP_cond rfl (fun c0_6 => ?_) (fun c0_6 => ?_) <;> (try simp at c0_6); (focus (refine Wr ?_; refine Tl ?_; refine Lg m0 ?_; refine S_q rfl rfl rfl (Q_build rfl (by decide +kernel) (zer rfl) ⟨_, _, _, _, _, _, _, rfl, fld rfl rfl, ty rfl, rfl, rfl, ⟨_, _, _, _, _, _, _, rfl, fld rfl rfl, ty rfl, rfl, rfl, rfl, rfl⟩, rfl⟩ rfl) ?_; refine Tw u1 ?_; refine On ?_; refine WP_ret ?_; refine block_r ?_; refine then_r ?_)); rotate_left 1; (focus (refine WP_skip ?_; refine block_n ?_; refine then_n ?_; refine Wr ?_; refine S_q rfl rfl rfl (Q_build rfl (by decide +kernel) (zer rfl) rfl rfl) ?_; refine Tw u1 ?_; refine On ?_; refine WP_ret ?_)); rotate_left 1)); rotate_left 2))
  all_goals refine pret (.inl rfl) rfl ⟨_, _, _, rfl, Loads_agg (Rd.own m1) (ty rfl) rfl, rfl, rfl⟩ ?_
  all_goals (rw [valueOf]; generalize idOf vs frm to r = i at *; obtain ⟨i1, i2⟩ := i)
  · rw [if_pos c0_5]; rfl
  · rw [if_neg c0_5, if_pos (by rintro e; cases e; simp at c0_6)]; rfl
  · obtain ⟨h1, h2⟩ := c0_6
    simp only at h1 h2
    subst h1; subst h2
    rw [if_neg c0_5, if_neg (by simp)]; rfl
end Go.Proofs.YtfhoecgiahpddaaGreat
/-
  CONTRACTS: local objects; flights that carry an object; the way to an object (Follow).
-/
set_option linter.all false
namespace Go.Proofs.YtfhoecgiahpddaaGreat
open Go.Mesh Go.RowKit
set_option maxRecDepth 100000
set_option linter.unusedVariables false
set_option maxHeartbeats 4000000
attribute [local irreducible] WP OPS ANY ANYo LG LV FSpec PSpec QOP OPc OPw thenQ blockQ roundQ roundF retQ retM Rd At SLB OS cmpI orI cmpID namedB valB nodeB kindB validG valAux idxI findG zeroV viewOf vwAt idxOf recv flyB scionOf moveOf numberedOf idOf valueOf mget mput
def localB (v : View) (id : ID) : Bool := match findG v.objects id with | some n => decide (n.kind ≠ 3) | none => false
attribute [local irreducible] localB
theorem local_s {h : Frag} {us : List Value} {v : View} {id : ID} (hv : ViewC 4398046511104 h v us) : PSpec Tryz.prog 56 #[.agg us.toArray, .agg (idc id).toArray] h (fun _ u => u = .bool (localB v id)) := by
  obtain ⟨hi, xa, po, qo, qs, qt, pc, qc, pn, qn, pm, qm, xw, xv, pf, qf, pr, qr, xe, xf, rfl, vo, -⟩ := hv
  refine pspec_of (vs := [.agg _, .agg (idc id).toArray]) Tryz.func56 Tryz.ntmps56 rfl rfl ?_
  (focus (refine Wr ?_; refine Tbx ?_; intro b0_1; refine Tbx ?_; intro b0_2; refine Tm ?_; refine On ?_; refine Wr ?_; refine Tf ?_; refine Tl ?_; refine L_sub (Rd.own m1) (ty rfl) rfl ?_; refine Tl ?_; refine Lg m0 ?_; refine S_c rfl rfl rfl (C_call (find_s ⟨_, _, rfl, by assumption⟩) rfl rfl ⟨_, _, rfl, ⟨_, _, rfl, rfl, rfl⟩, rfl⟩ (cal rfl) ?_); rintro h0_3 _ l0_3 ⟨vf0_3, rfl, pn0_3, qn0_3, rfl, fn0_3⟩; replace vo := vo.up l0_3; refine Tm ?_; refine Tx ?_; refine Tx ?_; refine Tal ?_; intro b0_4; refine Tw u0 ?_; refine Tm ?_; refine On ?_; refine Wr ?_; refine Tm ?_; refine Tm ?_; refine S_gsplit rfl rfl rfl rfl (fun c0_5 => ?_) (fun c0_5 => ?_) <;> (try simp at c0_5); (focus (refine Ugf ?_; refine Ugl ?_; refine Lo m0 ?_; refine Ugc ?_; refine Tp1 ?_; refine Tm ?_; refine On ?_; refine WP_ret ?_)); rotate_left 1; (focus (refine Tn ?_; refine Tn ?_; refine Tn ?_; refine Tp0 ?_; refine Tm ?_; refine On ?_; refine WP_ret ?_)); rotate_left 1))
  all_goals refine pret (.inl rfl) rfl ⟨_, _, rfl, rfl, rfl⟩ ?_
  all_goals (rw [localB]; cases hx : findG v.objects id <;> simp_all [resOf]; try rfl)
theorem carried1_s {h : Frag} {x : Flight} {ws cs us : List Value} {vs : List View} {v : View} {b1 b2 b3 b4 b5 : Nat} {to nu : Int} {id : ID} (h1 : At h b1 0 [.int .i64 to]) (h2 : At h b2 0 (idc id)) (h3 : At h b3 0 [.int .u64 nu]) (h4 : At h b4 0 cs) (h5 : At h b5 0 us) (lc : cs.length = 2) (lu : us.length = 13)
    (hf : FleetC h vs cs) (hv : ViewC 4398046511104 h v us) (hx : FlightC 4398046511104 h x ws) (hw : ones ws = true) : PSpec Tryz.prog 106 ([Value.agg ws.toArray] ++ [ptr b1 0, ptr b2 0, ptr b3 0, ptr b4 0, ptr b5 0]).toArray h
      (fun _ u => u = .bool (decide (x.to = to) && (decide (x.msg.kind = 1) && (decide (x.msg.parcel.id = id) && (decide (x.msg.parcel.number = nu) && flyB vs v x))))) := by
  have hx' := hx
  obtain ⟨ya, yb, yc, yd, ye, pa, qa, pg, qg, ph, qh, yw, y1, y2, y3, y4, y5, y6, y7, y8, y9, y10, y11, y12, y13, y14, y15, rfl, -⟩ := hx
  refine pspec_of (vs := [.agg _, ptr b1 0, ptr b2 0, ptr b3 0, ptr b4 0, ptr b5 0]) Tryz.func106 Tryz.ntmps106 rfl rfl ?_
  (focus (refine Wr ?_; refine Tbx ?_; intro b0_1; refine Tm ?_; refine On ?_; refine Wr ?_; refine Tf ?_; refine Tf ?_; refine Tl ?_; refine L_fld2 (Rd.own m0) ?_; refine LV_a (ty rfl) rfl ?_; refine Tal ?_; intro b0_2; refine Tw u0 ?_; refine On ?_; refine Wr ?_; refine Tf ?_; refine Tl ?_; refine Lo m1 ?_; refine Tl ?_; refine L_one (Rd.pers ‹_›) (ty rfl) ?_; refine Tc ?_; refine Tm ?_; refine S_gsplit rfl rfl rfl rfl (fun c0_3 => ?_) (fun c0_3 => ?_) <;> (try simp at c0_3); (focus (refine Ugf ?_; refine Ugf ?_; refine Ugl ?_; refine L_fld2 (Rd.own m1) ?_; refine LV_1 (ty rfl) rfl ?_; refine Ugc ?_; refine Tp1 ?_; refine Tm ?_; refine S_gsplit rfl rfl rfl rfl (fun c0_4 => ?_) (fun c0_4 => ?_) <;> (try simp at c0_4); (focus (refine Ugf ?_; refine Ugl ?_; refine L_sub (Rd.own m0) (ty rfl) rfl ?_; refine Ugl ?_; refine Lp ?_; refine S_gq rfl rfl rfl rfl rfl rfl (Q_eqI eqID rfl rfl rfl rfl rfl) ?_; refine Tp1 ?_; refine Tm ?_; refine S_gsplit rfl rfl rfl rfl (fun c0_5 => ?_) (fun c0_5 => ?_) <;> (try simp at c0_5); (focus (refine Ugf ?_; refine Ugl ?_; refine Lo m0 ?_; refine Ugl ?_; refine L_one (Rd.pers ‹_›) (ty rfl) ?_; refine Ugc ?_; refine Tp1 ?_; refine Tm ?_; refine S_gsplit rfl rfl rfl rfl (fun c0_6 => ?_) (fun c0_6 => ?_) <;> (try simp at c0_6); (focus (refine Ugl ?_; refine Lp ?_; refine Ugl ?_; refine Lp ?_; refine Ugl ?_; refine Lg m1 ?_; refine S_gc rfl rfl rfl rfl rfl rfl (C_callv (flying_s ‹_› ‹_› ‹_›) rfl rfl ⟨_, _, rfl, ⟨_, _, rfl, ⟨_, _, rfl, rfl, rfl⟩, rfl⟩, rfl⟩ (cal rfl) ?_); refine Tp1 ?_; refine Tm ?_; refine On ?_; refine WP_ret ?_)); rotate_left 1; (focus (refine Tn ?_; refine Tn ?_; refine Tn ?_; refine Tn ?_; refine Tp0 ?_; refine Tm ?_; refine On ?_; refine WP_ret ?_)); rotate_left 1)); rotate_left 2; (focus (refine Tn ?_; refine Tn ?_; refine Tn ?_; refine Tn ?_; refine Tp0 ?_; refine Tm ?_; refine Tn ?_; refine Tn ?_; refine Tn ?_; refine Tn ?_; refine Tp0 ?_; refine Tm ?_; refine On ?_; refine WP_ret ?_)); rotate_left 1)); rotate_left 3; (focus (refine Tn ?_; refine Tn ?_; refine Tn ?_; refine Tn ?_; refine Tp0 ?_; refine Tm ?_; refine Tn ?_; refine Tn ?_; refine Tn ?_; refine Tn ?_; refine Tp0 ?_; refine Tm ?_; refine Tn ?_; refine Tn ?_; refine Tn ?_; refine Tn ?_; refine Tp0 ?_; refine Tm ?_; refine On ?_; refine WP_ret ?_)); rotate_left 1)); rotate_left 4; (focus (refine Tn ?_; refine Tn ?_; refine Tn ?_; refine Tn ?_; refine Tp0 ?_; refine Tm ?_; refine Tn ?_; refine Tn ?_; refine Tn ?_; refine Tn ?_; refine Tp0 ?_; refine Tm ?_; refine Tn ?_; refine Tn ?_; refine Tn ?_; refine Tn ?_; refine Tp0 ?_; refine Tm ?_; refine Tn ?_; refine Tn ?_; refine Tn ?_; refine Tn ?_; refine Tp0 ?_; refine Tm ?_; refine On ?_; refine WP_ret ?_)); rotate_left 1))
  all_goals refine pret (.inl rfl) rfl ⟨_, _, rfl, rfl, rfl⟩ ?_
  all_goals (clear hx' hw; simp_all [resOf, Prod.ext_iff]; try rfl)
def carriedB (vs : List View) (frm to : Int) (id : ID) (nu : Int) : Bool := (vwAt vs frm).flights.any fun x => decide (x.to = to) && (decide (x.msg.kind = 1) && (decide (x.msg.parcel.id = id) && (decide (x.msg.parcel.number = nu) && flyB vs (vwAt vs frm) x)))
attribute [local irreducible] carriedB
theorem carried_s {h : Frag} {cs : List Value} {vs : List View} {frm to nu : Int} {id : ID} (hf : FleetC h vs cs) : PSpec Tryz.prog 61 #[.agg cs.toArray, .int .i64 frm, .int .i64 to, .agg (idc id).toArray, .int .u64 nu] h
    (fun _ v => v = .bool (carriedB vs frm to id nu)) := by
  obtain ⟨p, c, mb, ps, rfl, fv, fm, fq⟩ := hf
  have hf : FleetC h vs [.slice p vs.length c, .map (some mb)] := ⟨p, c, mb, ps, rfl, fv, fm, fq⟩
  clear fq fm fv
  refine pspec_of (vs := [.agg [Value.slice p vs.length c, .map (some mb)].toArray, .int .i64 frm, .int .i64 to, .agg (idc id).toArray, .int .u64 nu]) Tryz.func61 Tryz.ntmps61 rfl rfl ?_
  (focus (refine Wr ?_; refine Tbx ?_; intro b0_1; refine S_c rfl rfl rfl (C_box1 rfl rfl rfl ?_); intro b0_2; refine Tbx ?_; intro b0_3; refine S_c rfl rfl rfl (C_box1 rfl rfl rfl ?_); intro b0_4; refine Tm ?_; refine On ?_; refine Wr ?_; refine Tl ?_; refine Lg m3 ?_; refine Tm ?_; refine S_c rfl rfl rfl (C_call0 (view_s ‹_›) rfl rfl ⟨_, _, rfl, ⟨_, _, rfl, rfl, rfl⟩, rfl⟩ (cal rfl) ?_); rintro _ ⟨cv0_5, rfl, cl0_5, co0_5, ⟨xi0_5, xa0_5, po0_5, qo0_5, ps0_5, qs0_5, pc0_5, qc0_5, pn0_5, qn0_5, pm0_5, qm0_5, xw0_5, xv0_5, pf0_5, qf0_5, pr0_5, qr0_5, xe0_5, xf0_5, rfl, vo0_5, vs0_5, vc0_5, vn0_5, vm0_5, vf0_5, vr0_5⟩⟩; refine Tm ?_; refine Tx ?_; refine Tx ?_; refine Tal ?_; intro b0_6; refine Tw u0 ?_; refine Tm ?_; refine On ?_; refine Wr ?_; refine Tf ?_; refine Tl ?_; refine Lo m0 ?_; refine S_q rfl rfl rfl (Q_makeFunc rfl rfl ⟨_, _, rfl, ⟨_, _, rfl, ⟨_, _, rfl, ⟨_, _, rfl, ⟨_, _, rfl, rfl, rfl⟩, rfl⟩, rfl⟩, rfl⟩, rfl⟩) ?_))
  (focus (refine OPS_keepM [] [_] _ rfl ?_; rintro h1_k l1_k k1_k; have a1_k := at_of_keep k1_k; clear k1_k; replace hf := hf.up l1_k; replace vo0_5 := vo0_5.up l1_k; replace vs0_5 := vs0_5.up l1_k; replace vc0_5 := vc0_5.up l1_k; replace vn0_5 := vn0_5.up l1_k; replace vm0_5 := vm0_5.up l1_k; replace vf0_5 := vf0_5.up l1_k; replace vr0_5 := vr0_5.up l1_k))
  (focus (refine OPS_keepM [] [_] _ rfl ?_; rintro h2_k l2_k k2_k; have a2_k := at_of_keep k2_k; clear k2_k; replace a1_k := a1_k.up l2_k; replace hf := hf.up l2_k; replace vo0_5 := vo0_5.up l2_k; replace vs0_5 := vs0_5.up l2_k; replace vc0_5 := vc0_5.up l2_k; replace vn0_5 := vn0_5.up l2_k; replace vm0_5 := vm0_5.up l2_k; replace vf0_5 := vf0_5.up l2_k; replace vr0_5 := vr0_5.up l2_k))
  (focus (refine OPS_keepM [] [_] _ rfl ?_; rintro h3_k l3_k k3_k; have a3_k := at_of_keep k3_k; clear k3_k; replace a2_k := a2_k.up l3_k; replace a1_k := a1_k.up l3_k; replace hf := hf.up l3_k; replace vo0_5 := vo0_5.up l3_k; replace vs0_5 := vs0_5.up l3_k; replace vc0_5 := vc0_5.up l3_k; replace vn0_5 := vn0_5.up l3_k; replace vm0_5 := vm0_5.up l3_k; replace vf0_5 := vf0_5.up l3_k; replace vr0_5 := vr0_5.up l3_k))
  (focus (refine OPS_keepM [] [_] _ rfl ?_; rintro h4_k l4_k k4_k; have a4_k := at_of_keep k4_k; clear k4_k; replace a3_k := a3_k.up l4_k; replace a2_k := a2_k.up l4_k; replace a1_k := a1_k.up l4_k; replace hf := hf.up l4_k; replace vo0_5 := vo0_5.up l4_k; replace vs0_5 := vs0_5.up l4_k; replace vc0_5 := vc0_5.up l4_k; replace vn0_5 := vn0_5.up l4_k; replace vm0_5 := vm0_5.up l4_k; replace vf0_5 := vf0_5.up l4_k; replace vr0_5 := vr0_5.up l4_k))
  (focus (refine OPS_keepM [] [_] _ rfl ?_; rintro h5_k l5_k k5_k; have a5_k := at_of_keep k5_k; clear k5_k; replace a4_k := a4_k.up l5_k; replace a3_k := a3_k.up l5_k; replace a2_k := a2_k.up l5_k; replace a1_k := a1_k.up l5_k; replace hf := hf.up l5_k; replace vo0_5 := vo0_5.up l5_k; replace vs0_5 := vs0_5.up l5_k; replace vc0_5 := vc0_5.up l5_k; replace vn0_5 := vn0_5.up l5_k; replace vm0_5 := vm0_5.up l5_k; replace vf0_5 := vf0_5.up l5_k; replace vr0_5 := vr0_5.up l5_k))
  refine S_c rfl rfl rfl (C_callv (hasFlight_s (cap := [ptr b0_2 0, ptr b0_3 0, ptr b0_4 0, ptr b0_1 0, ptr b0_6 0]) vf0_5 (cal rfl) (fun x ws _ hw hx => carried1_s a4_k a3_k a2_k a5_k a1_k rfl rfl hf ⟨xi0_5, _, _, _, _, _, _, _, _, _, _, _, _, _, _, _, _, _, _, _, rfl, vo0_5, vs0_5, vc0_5, vn0_5, vm0_5, vf0_5, vr0_5⟩ hx hw)) rfl rfl ⟨_, _, rfl, ⟨_, _, rfl, rfl, rfl⟩, rfl⟩ (cal rfl) ?_)
  (focus (refine Tm ?_; refine On ?_; refine WP_ret ?_))
  refine pret (.inl rfl) rfl ⟨_, _, rfl, rfl, rfl⟩ ?_
  rw [carriedB]; rfl
theorem stub1_s {h : Frag} {e : StubE} {us : List Value} {b : Nat} {id : ID} (h1 : At h b 0 (idc id)) (he : StubC h e us) : PSpec Tryz.prog 58 ([Value.agg us.toArray] ++ [ptr b 0]).toArray h (fun _ v => v = .bool (decide (e.id = id) && !e.dead)) := by
  obtain ⟨xa, xb, xc, xd, xe, xf, rfl⟩ := he
  refine pspec_of (vs := [.agg _, ptr b 0]) Tryz.func58 Tryz.ntmps58 rfl rfl ?_
  (focus (refine Wr ?_; refine Tbx ?_; intro b0_1; refine Tm ?_; refine On ?_; refine Wr ?_; refine Tf ?_; refine Tl ?_; refine L_sub (Rd.own m0) (ty rfl) rfl ?_; refine Tl ?_; refine Lp ?_; refine S_q rfl rfl rfl (Q_eqI eqID rfl rfl rfl rfl rfl) ?_; refine Tm ?_; refine S_gsplit rfl rfl rfl rfl (fun c0_2 => ?_) (fun c0_2 => ?_) <;> (try simp at c0_2); (focus (refine Ugf ?_; refine Ugl ?_; refine Lo m0 ?_; refine S_gq rfl rfl rfl rfl rfl rfl (Q_not rfl rfl) ?_; refine Tp1 ?_; refine Tm ?_; refine On ?_; refine WP_ret ?_)); rotate_left 1; (focus (refine Tn ?_; refine Tn ?_; refine Tn ?_; refine Tp0 ?_; refine Tm ?_; refine On ?_; refine WP_ret ?_)); rotate_left 1))
  all_goals refine pret (.inl rfl) rfl ⟨_, _, rfl, rfl, rfl⟩ ?_
  all_goals (simp_all [resOf, Prod.ext_iff]; try rfl)
end Go.Proofs.YtfhoecgiahpddaaGreat
/-
  CONTRACT: refmeshref55.Few, at views of any size.
-/
set_option linter.all false
namespace Go.Proofs.YtfhoecgiahpddaaGreat
open Go.Mesh Go.RowKit
set_option maxRecDepth 100000
set_option linter.unusedVariables false
set_option maxHeartbeats 4000000
attribute [local irreducible] WP OPS ANY ANYo LG LV FSpec PSpec QOP OPc OPw thenQ blockQ roundQ roundF retQ retM Rd At SLB OS cmpI orI cmpID namedB valB nodeB kindB validG valAux idxI findG
def msgB (m : Msg) : Bool := decide (m.args.length ≤ 6) && (decide (m.parcel.fields.length ≤ 6) && (decide (m.parcel.mail.length ≤ 4) && m.parcel.mail.all fun l => decide (l.length ≤ 6)))
def sizesB (v : View) : Bool := decide (v.objects.length ≤ 12 ∧ v.stubs.length ≤ 12 ∧ v.scions.length ≤ 12 ∧ v.names.length ≤ 6 ∧ v.mail.length ≤ 6 ∧ v.flights.length ≤ 6 ∧ v.received.length ≤ 10)
def smallV (v : View) : Bool := sizesB v && (v.objects.all (fun n => decide (n.fields.length ≤ 6)) && (v.mail.all (fun m => decide (m.args.length ≤ 6)) && v.flights.all fun x => msgB x.msg))
def fewB (vs : List View) : Bool := vs.all smallV && decide (vs.length ≤ 5)
theorem few_false {vs : List View} {v : View} (hm : v ∈ vs) (hf : smallV v = false) : fewB vs = false := by
  rw [fewB, Bool.and_eq_false_iff]
  exact .inl (by rw [List.all_eq_false]; exact ⟨v, hm, by simp [hf]⟩)
theorem sizes_false {v : View} (h : ¬ (v.objects.length ≤ 12 ∧ v.stubs.length ≤ 12 ∧ v.scions.length ≤ 12 ∧ v.names.length ≤ 6 ∧ v.mail.length ≤ 6 ∧ v.flights.length ≤ 6 ∧ v.received.length ≤ 10)) : smallV v = false := by
  rw [smallV, sizesB, decide_eq_false h]; rfl
theorem objs_false {v : View} (h : (v.objects.all fun n => decide (n.fields.length ≤ 6)) = false) : smallV v = false := by rw [smallV, h]; simp
theorem mail_false {v : View} (h : (v.mail.all fun n => decide (n.args.length ≤ 6)) = false) : smallV v = false := by rw [smallV, h]; simp
theorem fl_false {v : View} (h : (v.flights.all fun x => msgB x.msg) = false) : smallV v = false := by rw [smallV, h]; simp
theorem msg_false {m : Msg} (h : ¬ (m.args.length ≤ 6 ∧ m.parcel.fields.length ≤ 6 ∧ m.parcel.mail.length ≤ 4)) : msgB m = false := by
  rw [msgB]
  by_cases h1 : m.args.length ≤ 6
  · by_cases h2 : m.parcel.fields.length ≤ 6
    · have h3 : ¬ m.parcel.mail.length ≤ 4 := fun h3 => h ⟨h1, h2, h3⟩
      simp [h3]
    · simp [h2]
  · simp [h1]
theorem msgm_false {m : Msg} (h : (m.parcel.mail.all fun l => decide (l.length ≤ 6)) = false) : msgB m = false := by rw [msgB, h]; simp
theorem msg_true {m : Msg} (h : m.args.length ≤ 6 ∧ m.parcel.fields.length ≤ 6 ∧ m.parcel.mail.length ≤ 4) (h2 : (m.parcel.mail.all fun l => decide (l.length ≤ 6)) = true) : msgB m = true := by
  rw [msgB, h2, decide_eq_true h.1, decide_eq_true h.2.1, decide_eq_true h.2.2]; rfl
theorem small_true {v : View} (h : v.objects.length ≤ 12 ∧ v.stubs.length ≤ 12 ∧ v.scions.length ≤ 12 ∧ v.names.length ≤ 6 ∧ v.mail.length ≤ 6 ∧ v.flights.length ≤ 6 ∧ v.received.length ≤ 10) (h1 : (v.objects.all fun n => decide (n.fields.length ≤ 6)) = true)
    (h2 : (v.mail.all fun n => decide (n.args.length ≤ 6)) = true) (h3 : (v.flights.all fun x => msgB x.msg) = true) : smallV v = true := by
  rw [smallV, sizesB, h1, h2, h3, decide_eq_true h]; rfl
attribute [local irreducible] msgB sizesB smallV fewB
theorem few_s {h : Frag} {a : Value} {vs : List View} (hs : SLB 9223372036854775807 h 13 (ViewC 9223372036854775807) a vs) : PSpec Tryz.prog 10 #[a] h (fun _ v => v = .bool (fewB vs)) := by
  have hl := hs.le
  obtain ⟨pv, cv, rfl⟩ := hs.slice
  refine pspec_of (vs := [.slice pv vs.length cv]) Tryz.func10 Tryz.ntmps10 rfl rfl ?_
  (focus (refine Wr ?_; refine Tm ?_; refine On ?_; refine WP_seq ?_; refine Wr ?_; refine Tm ?_; refine On ?_; refine WP_block ?_))
  (refine WP_loopC (α := Nat) [0] (fun (k : Nat) => vs.length - k) (fun (k : Nat) => [(3, .int .i64 k)]) (fun hh (k : Nat) => hh = h ∧ k ≤ vs.length ∧ (vs.drop k).all smallV = vs.all smallV) 0 ⟨_, _, rfl, rfl, rfl⟩ (by repeat' first | exact trivial | refine ⟨rfl, ?_⟩) ?_ ?_)
  · exact ⟨rfl, Nat.zero_le _, rfl⟩
  rintro h1 k _ ⟨rfl, hk, ht⟩
  by_cases hlt : k < vs.length
  · obtain ⟨v, ev⟩ := get_of hlt
    have hod := all_drop (p := smallV) ev
    rw [ht] at hod
    (focus (refine WP_seq ?_; refine Wr ?_; refine Tm ?_; refine Tm ?_; refine Tlen ?_; refine Tc ?_; refine On ?_; refine Wc ?_ ?_ <;> intro c2_1 <;> (first | simp [*] at c2_1; done | try simp at c2_1); refine WP_skip ?_; refine then_n ?_; refine WP_seq ?_; refine WP_block ?_; refine Wr ?_; refine Tm ?_; refine Tm ?_; refine Ti ?_; refine Tl ?_; refine Le ?_; rintro _ _ _ ⟨xi2_2, xa2_2, po2_2, qo2_2, ps2_2, qs2_2, pc2_2, qc2_2, pn2_2, qn2_2, pm2_2, qm2_2, xw2_2, xv2_2, pf2_2, qf2_2, pr2_2, qr2_2, xe2_2, xf2_2, rfl, vo2_2, vs2_2, vc2_2, vn2_2, vm2_2, vf2_2, vr2_2⟩; refine Tal ?_; intro b2_3; refine Tw u0 ?_; refine On ?_; refine WP_seq ?_; refine Wr ?_; refine Tf ?_; refine Tf ?_; refine Tl ?_; refine L_fld2 (Rd.own m0) ?_; refine LV_1 (ty rfl) rfl ?_; refine Tlen ?_; refine Tc ?_; refine Tm ?_; refine Ugs ?_ ?_ <;> intro c2_4 <;> (first | simp [*] at c2_4; done | try simp at c2_4); (focus (refine Tn ?_; refine Tn ?_; refine Tn ?_; refine Tn ?_; refine Tp1 ?_; refine Tm ?_; refine Tn ?_; refine Tn ?_; refine Tn ?_; refine Tn ?_; refine Tp1 ?_; refine Tm ?_; refine Tn ?_; refine Tn ?_; refine Tn ?_; refine Tn ?_; refine Tp1 ?_; refine Tm ?_; refine Tn ?_; refine Tn ?_; refine Tn ?_; refine Tn ?_; refine Tp1 ?_; refine Tm ?_; refine Tn ?_; refine Tn ?_; refine Tn ?_; refine Tn ?_; refine Tp1 ?_; refine Tm ?_; refine Tn ?_; refine Tn ?_; refine Tn ?_; refine Tn ?_; refine Tp1 ?_; refine On ?_; refine cond_t rfl ?_; refine Wr ?_; refine Tm ?_; refine On ?_; refine WP_ret ?_; refine then_r ?_; refine block_r ?_; refine then_r ?_; refine roundF_r ?_; refine block_r ?_; refine then_r ?_)); rotate_left 1; (focus (refine Ugf ?_; refine Ugl ?_; refine Lo m0 ?_; refine S_gq rfl rfl rfl rfl rfl rfl (Q_len rfl rfl rfl rfl rfl rfl) ?_; refine Ugc ?_; refine Tp0 ?_; refine Tm ?_; refine Ugs ?_ ?_ <;> intro c2_5 <;> (first | simp [*] at c2_5; done | try simp at c2_5); (focus (refine Tn ?_; refine Tn ?_; refine Tn ?_; refine Tn ?_; refine Tp1 ?_; refine Tm ?_; refine Tn ?_; refine Tn ?_; refine Tn ?_; refine Tn ?_; refine Tp1 ?_; refine Tm ?_; refine Tn ?_; refine Tn ?_; refine Tn ?_; refine Tn ?_; refine Tp1 ?_; refine Tm ?_; refine Tn ?_; refine Tn ?_; refine Tn ?_; refine Tn ?_; refine Tp1 ?_; refine Tm ?_; refine Tn ?_; refine Tn ?_; refine Tn ?_; refine Tn ?_; refine Tp1 ?_; refine On ?_; refine cond_t rfl ?_; refine Wr ?_; refine Tm ?_; refine On ?_; refine WP_ret ?_; refine then_r ?_; refine block_r ?_; refine then_r ?_; refine roundF_r ?_; refine block_r ?_; refine then_r ?_)); rotate_left 1; (focus (refine Ugf ?_; refine Ugl ?_; refine Lo m0 ?_; refine S_gq rfl rfl rfl rfl rfl rfl (Q_len rfl rfl rfl rfl rfl rfl) ?_; refine Ugc ?_; refine Tp0 ?_; refine Tm ?_; refine Ugs ?_ ?_ <;> intro c2_6 <;> (first | simp [*] at c2_6; done | try simp at c2_6); (focus (refine Tn ?_; refine Tn ?_; refine Tn ?_; refine Tn ?_; refine Tp1 ?_; refine Tm ?_; refine Tn ?_; refine Tn ?_; refine Tn ?_; refine Tn ?_; refine Tp1 ?_; refine Tm ?_; refine Tn ?_; refine Tn ?_; refine Tn ?_; refine Tn ?_; refine Tp1 ?_; refine Tm ?_; refine Tn ?_; refine Tn ?_; refine Tn ?_; refine Tn ?_; refine Tp1 ?_; refine On ?_; refine cond_t rfl ?_; refine Wr ?_; refine Tm ?_; refine On ?_; refine WP_ret ?_; refine then_r ?_; refine block_r ?_; refine then_r ?_; refine roundF_r ?_; refine block_r ?_; refine then_r ?_)); rotate_left 1; (focus (refine Ugf ?_; refine Ugl ?_; refine Lo m0 ?_; refine S_gq rfl rfl rfl rfl rfl rfl (Q_len rfl rfl rfl rfl rfl rfl) ?_; refine Ugc ?_; refine Tp0 ?_; refine Tm ?_; refine Ugs ?_ ?_ <;> intro c2_7 <;> (first | simp [*] at c2_7; done | try simp at c2_7); (focus (refine Tn ?_; refine Tn ?_; refine Tn ?_; refine Tn ?_; refine Tp1 ?_; refine Tm ?_; refine Tn ?_; refine Tn ?_; refine Tn ?_; refine Tn ?_; refine Tp1 ?_; refine Tm ?_; refine Tn ?_; refine Tn ?_; refine Tn ?_; refine Tn ?_; refine Tp1 ?_; refine On ?_; refine cond_t rfl ?_; refine Wr ?_; refine Tm ?_; refine On ?_; refine WP_ret ?_; refine then_r ?_; refine block_r ?_; refine then_r ?_; refine roundF_r ?_; refine block_r ?_; refine then_r ?_)); rotate_left 1; (focus (refine Ugf ?_; refine Ugl ?_; refine Lo m0 ?_; refine S_gq rfl rfl rfl rfl rfl rfl (Q_len rfl rfl rfl rfl rfl rfl) ?_; refine Ugc ?_; refine Tp0 ?_; refine Tm ?_; refine Ugs ?_ ?_ <;> intro c2_8 <;> (first | simp [*] at c2_8; done | try simp at c2_8); (focus (refine Tn ?_; refine Tn ?_; refine Tn ?_; refine Tn ?_; refine Tp1 ?_; refine Tm ?_; refine Tn ?_; refine Tn ?_; refine Tn ?_; refine Tn ?_; refine Tp1 ?_; refine On ?_; refine cond_t rfl ?_; refine Wr ?_; refine Tm ?_; refine On ?_; refine WP_ret ?_; refine then_r ?_; refine block_r ?_; refine then_r ?_; refine roundF_r ?_; refine block_r ?_; refine then_r ?_)); rotate_left 1; (focus (refine Ugf ?_; refine Ugl ?_; refine Lo m0 ?_; refine S_gq rfl rfl rfl rfl rfl rfl (Q_len rfl rfl rfl rfl rfl rfl) ?_; refine Ugc ?_; refine Tp0 ?_; refine Tm ?_; refine Ugs ?_ ?_ <;> intro c2_9 <;> (first | simp [*] at c2_9; done | try simp at c2_9); (focus (refine Tn ?_; refine Tn ?_; refine Tn ?_; refine Tn ?_; refine Tp1 ?_; refine On ?_; refine cond_t rfl ?_; refine Wr ?_; refine Tm ?_; refine On ?_; refine WP_ret ?_; refine then_r ?_; refine block_r ?_; refine then_r ?_; refine roundF_r ?_; refine block_r ?_; refine then_r ?_)); rotate_left 1; (focus (refine Ugf ?_; refine Ugl ?_; refine Lo m0 ?_; refine S_gq rfl rfl rfl rfl rfl rfl (Q_len rfl rfl rfl rfl rfl rfl) ?_; refine Ugc ?_; refine Tp0 ?_; refine On ?_; refine Wc ?_ ?_ <;> intro c2_10 <;> (first | simp [*] at c2_10; done | try simp at c2_10); (focus (refine Wr ?_; refine Tm ?_; refine On ?_; refine WP_ret ?_; refine then_r ?_; refine block_r ?_; refine then_r ?_; refine roundF_r ?_; refine block_r ?_; refine then_r ?_)); rotate_left 1; (focus (refine WP_skip ?_; refine then_n ?_; refine WP_seq ?_; refine Wr ?_; refine Tm ?_; refine On ?_; refine WP_block ?_)); rotate_left 1)); rotate_left 2)); rotate_left 3)); rotate_left 4)); rotate_left 5)); rotate_left 6)); rotate_left 7))
    iterate 7
      · refine pret (.inl rfl) rfl ⟨_, _, rfl, rfl, rfl⟩ ?_
        refine congrArg Value.bool (few_false (List.mem_of_getElem? ev) (sizes_false ?_)).symm
        omega
    (refine WP_loopC (α := Nat) [4, 3, 0] (fun (j : Nat) => v.objects.length - j) (fun (j : Nat) => [(5, .int .i64 j)]) (fun hh (j : Nat) => hh = h1 ∧ j ≤ v.objects.length ∧ (v.objects.drop j).all (fun n => decide (n.fields.length ≤ 6)) = v.objects.all (fun n => decide (n.fields.length ≤ 6))) 0 ⟨_, _, rfl, ⟨_, _, rfl, ⟨_, _, rfl, rfl, rfl⟩, rfl⟩, rfl⟩ (by repeat' first | exact trivial | refine ⟨rfl, ?_⟩) ?_ ?_)
    · exact ⟨rfl, Nat.zero_le _, rfl⟩
    rintro h2 j _ ⟨rfl, hj, ht2⟩
    by_cases hlt2 : j < v.objects.length
    · obtain ⟨n, en⟩ := get_of hlt2
      have hod2 := all_drop (p := fun n : Nd => decide (n.fields.length ≤ 6)) en
      rw [ht2] at hod2
      (focus (refine WP_seq ?_; refine Wr ?_; refine Tm ?_; refine Tf ?_; refine Tf ?_; refine Tl ?_; refine L_fld2 (Rd.own m0) ?_; refine LV_1 (ty rfl) rfl ?_; refine Tlen ?_; refine Tc ?_; refine On ?_; refine Wc ?_ ?_ <;> intro c4_1 <;> (first | simp [*] at c4_1; done | try simp at c4_1); refine WP_skip ?_; refine then_n ?_; refine WP_seq ?_; refine WP_block ?_; refine Wr ?_; refine Tf ?_; refine Tf ?_; refine Tl ?_; refine L_fld2 (Rd.own m0) ?_; refine LV_1 (ty rfl) rfl ?_; refine Tm ?_; refine Ti ?_; refine Tf ?_; refine Tl ?_; refine L_elF ‹_› ‹_› ?_; rintro _ _ _ ⟨pn4_2, qn4_2, rfl, fn4_2⟩; refine LV_1 (ty rfl) rfl ?_; refine Tlen ?_; refine Tc ?_; refine On ?_; refine Wc ?_ ?_ <;> intro c4_3 <;> (first | simp [*] at c4_3; done | try simp at c4_3); (focus (refine Wr ?_; refine Tm ?_; refine On ?_; refine WP_ret ?_; refine block_r ?_; refine then_r ?_; refine roundF_r ?_; refine block_r ?_; refine then_r ?_; refine block_r ?_; refine then_r ?_; refine roundF_r ?_; refine block_r ?_; refine then_r ?_)); rotate_left 1; (focus (refine WP_skip ?_; refine block_n ?_; refine then_n ?_; refine R_region ?_; refine Tm ?_; refine Ta ?_; refine Tm ?_; refine OPS_nil ?_)); rotate_left 1))
      · refine pret (.inl rfl) rfl ⟨_, _, rfl, rfl, rfl⟩ ?_
        refine congrArg Value.bool (few_false (List.mem_of_getElem? ev) (objs_false ?_)).symm
        rw [hod2, decide_eq_false (by omega)]; rfl
      · refine roundF_n (j + 1) (by omega) ⟨rfl, by omega, ?_⟩ (by repeat' first | exact sR _ | exact sA _ _ | exact sN _ | apply s2 | apply s1) (by repeat' first | exact trivial | refine ⟨rfl, ?_⟩)
        rw [hod2, decide_eq_true (by omega)]; rfl
    have hge : j = v.objects.length := by omega
    subst hge
    rw [List.drop_length] at ht2
    (focus (refine WP_seq ?_; refine Wr ?_; refine Tm ?_; refine Tf ?_; refine Tf ?_; refine Tl ?_; refine L_fld2 (Rd.own m0) ?_; refine LV_1 (ty rfl) rfl ?_; refine Tlen ?_; refine Tc ?_; refine On ?_; refine Wc ?_ ?_ <;> intro c5_1 <;> (first | simp [*] at c5_1; done | try simp at c5_1); refine WP_exit ?_; refine then_e ?_; refine roundF_e ?_; refine block_e ?_; refine then_n ?_; refine WP_seq ?_; refine Wr ?_; refine Tm ?_; refine On ?_; refine WP_block ?_))
    (refine WP_loopC (α := Nat) [4, 3, 0] (fun (j : Nat) => v.mail.length - j) (fun (j : Nat) => [(6, .int .i64 j)]) (fun hh (j : Nat) => hh = h2 ∧ j ≤ v.mail.length ∧ (v.mail.drop j).all (fun m => decide (m.args.length ≤ 6)) = v.mail.all (fun m => decide (m.args.length ≤ 6))) 0 ⟨_, _, rfl, ⟨_, _, rfl, ⟨_, _, rfl, rfl, rfl⟩, rfl⟩, rfl⟩ (by repeat' first | exact trivial | refine ⟨rfl, ?_⟩) ?_ ?_)
    · exact ⟨rfl, Nat.zero_le _, rfl⟩
    rintro h3 j _ ⟨rfl, hj, ht3⟩
    by_cases hlt3 : j < v.mail.length
    · obtain ⟨n, en⟩ := get_of hlt3
      have hod3 := all_drop (p := fun n : MailE => decide (n.args.length ≤ 6)) en
      rw [ht3] at hod3
      (focus (refine WP_seq ?_; refine Wr ?_; refine Tm ?_; refine Tf ?_; refine Tl ?_; refine Lo m0 ?_; refine Tlen ?_; refine Tc ?_; refine On ?_; refine Wc ?_ ?_ <;> intro c7_1 <;> (first | simp [*] at c7_1; done | try simp at c7_1); refine WP_skip ?_; refine then_n ?_; refine WP_seq ?_; refine WP_block ?_; refine Wr ?_; refine Tf ?_; refine Tl ?_; refine Lo m0 ?_; refine Tm ?_; refine Ti ?_; refine Tf ?_; refine Tl ?_; refine L_elF ‹_› ‹_› ?_; rintro _ _ _ ⟨xa7_2, xb7_2, xm7_2, pl7_2, ql7_2, rfl, fl7_2⟩; refine LV_1 (ty rfl) rfl ?_; refine Tlen ?_; refine Tc ?_; refine On ?_; refine Wc ?_ ?_ <;> intro c7_3 <;> (first | simp [*] at c7_3; done | try simp at c7_3); (focus (refine Wr ?_; refine Tm ?_; refine On ?_; refine WP_ret ?_; refine block_r ?_; refine then_r ?_; refine roundF_r ?_; refine block_r ?_; refine then_r ?_; refine block_r ?_; refine then_r ?_; refine roundF_r ?_; refine block_r ?_; refine then_r ?_)); rotate_left 1; (focus (refine WP_skip ?_; refine block_n ?_; refine then_n ?_; refine R_region ?_; refine Tm ?_; refine Ta ?_; refine Tm ?_; refine OPS_nil ?_)); rotate_left 1))
      · refine pret (.inl rfl) rfl ⟨_, _, rfl, rfl, rfl⟩ ?_
        refine congrArg Value.bool (few_false (List.mem_of_getElem? ev) (mail_false ?_)).symm
        rw [hod3, decide_eq_false (by omega)]; rfl
      · refine roundF_n (j + 1) (by omega) ⟨rfl, by omega, ?_⟩ (by repeat' first | exact sR _ | exact sA _ _ | exact sN _ | apply s2 | apply s1) (by repeat' first | exact trivial | refine ⟨rfl, ?_⟩)
        rw [hod3, decide_eq_true (by omega)]; rfl
    have hge : j = v.mail.length := by omega
    subst hge
    rw [List.drop_length] at ht3
    (focus (refine WP_seq ?_; refine Wr ?_; refine Tm ?_; refine Tf ?_; refine Tl ?_; refine Lo m0 ?_; refine Tlen ?_; refine Tc ?_; refine On ?_; refine Wc ?_ ?_ <;> intro c8_1 <;> (first | simp [*] at c8_1; done | try simp at c8_1); refine WP_exit ?_; refine then_e ?_; refine roundF_e ?_; refine block_e ?_; refine then_n ?_; refine Wr ?_; refine Tm ?_; refine On ?_; refine WP_block ?_))
    (refine WP_loopC (α := Nat) [4, 3, 0] (fun (j : Nat) => v.flights.length - j) (fun (j : Nat) => [(7, .int .i64 j)]) (fun hh (j : Nat) => hh = h3 ∧ j ≤ v.flights.length ∧ (v.flights.drop j).all (fun x => msgB x.msg) = v.flights.all (fun x => msgB x.msg)) 0 ⟨_, _, rfl, ⟨_, _, rfl, ⟨_, _, rfl, rfl, rfl⟩, rfl⟩, rfl⟩ (by repeat' first | exact trivial | refine ⟨rfl, ?_⟩) ?_ ?_)
    · exact ⟨rfl, Nat.zero_le _, rfl⟩
    rintro h4 j _ ⟨rfl, hj, ht4⟩
    by_cases hlt4 : j < v.flights.length
    · obtain ⟨x, ex⟩ := get_of hlt4
      have hod4 := all_drop (p := fun x : Flight => msgB x.msg) ex
      rw [ht4] at hod4
      (focus (refine WP_seq ?_; refine Wr ?_; refine Tm ?_; refine Tf ?_; refine Tl ?_; refine Lo m0 ?_; refine Tlen ?_; refine Tc ?_; refine On ?_; refine Wc ?_ ?_ <;> intro c10_1 <;> (first | simp [*] at c10_1; done | try simp at c10_1); refine WP_skip ?_; refine then_n ?_; refine WP_seq ?_; refine WP_block ?_; refine Wr ?_; refine Tf ?_; refine Tl ?_; refine Lo m0 ?_; refine Tm ?_; refine Ti ?_; refine Tf ?_; refine Tl ?_; refine L_elF ‹_› ‹_› ?_; rintro _ _ _ ⟨xa10_2, xb10_2, xc10_2, xd10_2, xe10_2, pa10_2, qa10_2, pf10_2, qf10_2, pm10_2, qm10_2, xw10_2, y110_2, y210_2, y310_2, y410_2, y510_2, y610_2, y710_2, y810_2, y910_2, y1010_2, y1110_2, y1210_2, y1310_2, y1410_2, y1510_2, rfl, ha10_2, hf10_2, hm10_2⟩; refine LV_a (ty rfl) rfl ?_; refine Tal ?_; intro b10_3; refine Tw u0 ?_; refine On ?_; refine WP_seq ?_; refine Wr ?_; refine Tf ?_; refine Tf ?_; refine Tl ?_; refine L_fld2 (Rd.own m0) ?_; refine LV_1 (ty rfl) rfl ?_; refine Tlen ?_; refine Tc ?_; refine Tm ?_; refine Ugs ?_ ?_ <;> intro c10_4 <;> (first | simp [*] at c10_4; done | try simp at c10_4); (focus (refine Tn ?_; refine Tn ?_; refine Tn ?_; refine Tn ?_; refine Tn ?_; refine Tp1 ?_; refine Tm ?_; refine Tn ?_; refine Tn ?_; refine Tn ?_; refine Tn ?_; refine Tn ?_; refine Tp1 ?_; refine On ?_; refine cond_t rfl ?_; refine Wr ?_; refine Tm ?_; refine On ?_; refine WP_ret ?_; refine then_r ?_; refine block_r ?_; refine then_r ?_; refine roundF_r ?_; refine block_r ?_; refine block_r ?_; refine then_r ?_; refine roundF_r ?_; refine block_r ?_; refine then_r ?_)); rotate_left 1; (focus (refine Ugf ?_; refine Ugf ?_; refine Ugl ?_; refine L_fld2 (Rd.own m0) ?_; refine LV_1 (ty rfl) rfl ?_; refine S_gq rfl rfl rfl rfl rfl rfl (Q_len rfl rfl rfl rfl rfl rfl) ?_; refine Ugc ?_; refine Tp0 ?_; refine Tm ?_; refine Ugs ?_ ?_ <;> intro c10_5 <;> (first | simp [*] at c10_5; done | try simp at c10_5); (focus (refine Tn ?_; refine Tn ?_; refine Tn ?_; refine Tn ?_; refine Tn ?_; refine Tp1 ?_; refine On ?_; refine cond_t rfl ?_; refine Wr ?_; refine Tm ?_; refine On ?_; refine WP_ret ?_; refine then_r ?_; refine block_r ?_; refine then_r ?_; refine roundF_r ?_; refine block_r ?_; refine block_r ?_; refine then_r ?_; refine roundF_r ?_; refine block_r ?_; refine then_r ?_)); rotate_left 1; (focus (refine Ugf ?_; refine Ugf ?_; refine Ugl ?_; refine L_fld2 (Rd.own m0) ?_; refine LV_1 (ty rfl) rfl ?_; refine S_gq rfl rfl rfl rfl rfl rfl (Q_len rfl rfl rfl rfl rfl rfl) ?_; refine Ugc ?_; refine Tp0 ?_; refine On ?_; refine Wc ?_ ?_ <;> intro c10_6 <;> (first | simp [*] at c10_6; done | try simp at c10_6); (focus (refine Wr ?_; refine Tm ?_; refine On ?_; refine WP_ret ?_; refine then_r ?_; refine block_r ?_; refine then_r ?_; refine roundF_r ?_; refine block_r ?_; refine block_r ?_; refine then_r ?_; refine roundF_r ?_; refine block_r ?_; refine then_r ?_)); rotate_left 1; (focus (refine WP_skip ?_; refine then_n ?_; refine Wr ?_; refine Tm ?_; refine On ?_; refine WP_block ?_)); rotate_left 1)); rotate_left 2)); rotate_left 3))
      iterate 3
        · refine pret (.inl rfl) rfl ⟨_, _, rfl, rfl, rfl⟩ ?_
          refine congrArg Value.bool (few_false (List.mem_of_getElem? ev) (fl_false ?_)).symm
          rw [hod4, msg_false (by omega)]; rfl
      (refine WP_loopC (α := Nat) [8, 7, 4, 3, 0] (fun (i : Nat) => x.msg.parcel.mail.length - i) (fun (i : Nat) => [(9, .int .i64 i)]) (fun hh (i : Nat) => hh = h4 ∧ i ≤ x.msg.parcel.mail.length ∧ (x.msg.parcel.mail.drop i).all (fun l => decide (l.length ≤ 6)) = x.msg.parcel.mail.all (fun l => decide (l.length ≤ 6))) 0 ⟨_, _, rfl, ⟨_, _, rfl, ⟨_, _, rfl, ⟨_, _, rfl, ⟨_, _, rfl, rfl, rfl⟩, rfl⟩, rfl⟩, rfl⟩, rfl⟩ (by repeat' first | exact trivial | refine ⟨rfl, ?_⟩) ?_ ?_)
      · exact ⟨rfl, Nat.zero_le _, rfl⟩
      rintro h5 i _ ⟨rfl, hi, ht5⟩
      by_cases hlt5 : i < x.msg.parcel.mail.length
      · obtain ⟨l, el⟩ := get_of hlt5
        have hod5 := all_drop (p := fun l : List Ref => decide (l.length ≤ 6)) el
        rw [ht5] at hod5
        (focus (refine WP_seq ?_; refine Wr ?_; refine Tm ?_; refine Tf ?_; refine Tf ?_; refine Tl ?_; refine L_fld2 (Rd.own m0) ?_; refine LV_1 (ty rfl) rfl ?_; refine Tlen ?_; refine Tc ?_; refine On ?_; refine Wc ?_ ?_ <;> intro c12_1 <;> (first | simp [*] at c12_1; done | try simp at c12_1); refine WP_skip ?_; refine then_n ?_; refine WP_seq ?_; refine WP_block ?_; refine Wr ?_; refine Tf ?_; refine Tf ?_; refine Tl ?_; refine L_fld2 (Rd.own m0) ?_; refine LV_1 (ty rfl) rfl ?_; refine Tm ?_; refine Ti ?_; refine Tf ?_; refine Tl ?_; refine L_elF ‹_› ‹_› ?_; rintro _ _ _ ⟨xa12_2, xb12_2, xm12_2, pl12_2, ql12_2, rfl, fl12_2⟩; refine LV_1 (ty rfl) rfl ?_; refine Tlen ?_; refine Tc ?_; refine On ?_; refine Wc ?_ ?_ <;> intro c12_3 <;> (first | simp [*] at c12_3; done | try simp at c12_3); (focus (refine Wr ?_; refine Tm ?_; refine On ?_; refine WP_ret ?_; refine block_r ?_; refine then_r ?_; refine roundF_r ?_; refine block_r ?_; refine block_r ?_; refine then_r ?_; refine roundF_r ?_; refine block_r ?_; refine block_r ?_; refine then_r ?_; refine roundF_r ?_; refine block_r ?_; refine then_r ?_)); rotate_left 1; (focus (refine WP_skip ?_; refine block_n ?_; refine then_n ?_; refine R_region ?_; refine Tm ?_; refine Ta ?_; refine Tm ?_; refine OPS_nil ?_)); rotate_left 1))
        · refine pret (.inl rfl) rfl ⟨_, _, rfl, rfl, rfl⟩ ?_
          refine congrArg Value.bool (few_false (List.mem_of_getElem? ev) (fl_false ?_)).symm
          rw [hod4, msgm_false (by rw [hod5, decide_eq_false (by omega)]; rfl)]; rfl
        · refine roundF_n (i + 1) (by omega) ⟨rfl, by omega, ?_⟩ (by repeat' first | exact sR _ | exact sA _ _ | exact sN _ | apply s2 | apply s1) (by repeat' first | exact trivial | refine ⟨rfl, ?_⟩)
          rw [hod5, decide_eq_true (by omega)]; rfl
      · have hge : i = x.msg.parcel.mail.length := by omega
        subst hge
        rw [List.drop_length] at ht5
        (focus (refine WP_seq ?_; refine Wr ?_; refine Tm ?_; refine Tf ?_; refine Tf ?_; refine Tl ?_; refine L_fld2 (Rd.own m0) ?_; refine LV_1 (ty rfl) rfl ?_; refine Tlen ?_; refine Tc ?_; refine On ?_; refine Wc ?_ ?_ <;> intro c13_1 <;> (first | simp [*] at c13_1; done | try simp at c13_1); refine WP_exit ?_; refine then_e ?_; refine roundF_e ?_; refine block_e ?_; refine block_n ?_; refine then_n ?_; refine R_region ?_; refine Tm ?_; refine Ta ?_; refine Tm ?_; refine OPS_nil ?_))
        refine roundF_n (j + 1) (by omega) ⟨rfl, by omega, ?_⟩ (by repeat' first | exact sR _ | exact sA _ _ | exact sN _ | apply s2 | apply s1) (by repeat' first | exact trivial | refine ⟨rfl, ?_⟩)
        rw [hod4, msg_true (by omega) ht5.symm]; rfl
    have hge : j = v.flights.length := by omega
    subst hge
    rw [List.drop_length] at ht4
    (focus (refine WP_seq ?_; refine Wr ?_; refine Tm ?_; refine Tf ?_; refine Tl ?_; refine Lo m0 ?_; refine Tlen ?_; refine Tc ?_; refine On ?_; refine Wc ?_ ?_ <;> intro c14_1 <;> (first | simp [*] at c14_1; done | try simp at c14_1); refine WP_exit ?_; refine then_e ?_; refine roundF_e ?_; refine block_e ?_; refine block_n ?_; refine then_n ?_; refine R_region ?_; refine Tm ?_; refine Ta ?_; refine Tm ?_; refine OPS_nil ?_))
    refine roundF_n (k + 1) (by omega) ⟨rfl, by omega, ?_⟩ (by repeat' first | exact sR _ | exact sA _ _ | exact sN _ | apply s2 | apply s1) (by repeat' first | exact trivial | refine ⟨rfl, ?_⟩)
    rw [hod, small_true (by omega) ht2.symm ht3.symm ht4.symm]; rfl
  · have hge : k = vs.length := by omega
    subst hge
    rw [List.drop_length] at ht
    (focus (refine WP_seq ?_; refine Wr ?_; refine Tm ?_; refine Tm ?_; refine Tlen ?_; refine Tc ?_; refine On ?_; refine Wc ?_ ?_ <;> intro c15_1 <;> (first | simp [*] at c15_1; done | try simp at c15_1); refine WP_exit ?_; refine then_e ?_; refine roundF_e ?_; refine block_e ?_; refine then_n ?_; refine Wr ?_; refine Tm ?_; refine Tlen ?_; refine Tc ?_; refine Tm ?_; refine On ?_; refine WP_ret ?_))
    refine pret (.inl rfl) rfl ⟨_, _, rfl, rfl, rfl⟩ ?_
    simp only [resOf, fewB, ← ht, List.all_nil, Bool.true_and]
    exact congrArg Value.bool (decide_eq_decide.2 (by omega))
end Go.Proofs.YtfhoecgiahpddaaGreat
/-
  CONTRACTS: the reference's comparisons and searches (refmeshref16, 21, 55).
-/
set_option linter.all false
namespace Go.Proofs.YtfhoecgiahpddaaGreat
open Go.Mesh Go.RowKit
set_option maxRecDepth 100000
set_option linter.unusedVariables false
set_option maxHeartbeats 4000000
attribute [local irreducible] WP OPS ANY ANYo LG LV FSpec PSpec QOP OPc OPw thenQ blockQ roundQ roundF retQ retM Rd At SLB OS cmpI orI cmpID namedB valB nodeB kindB validG valAux idxI findG zeroV viewOf vwAt idxOf recv flyB scionOf moveOf numberedOf idOf valueOf mget mput localB carriedB msgB sizesB smallV fewB
theorem ints_s {h : Frag} {a b : Value} {xs ys : List Int} (hx : SL h 1 IntC a xs) (hy : SL h 1 IntC b ys) : PSpec Tryz.prog 32 #[a, b] h (fun _ v => v = .bool (decide (xs = ys))) := by
  have hxl := hx.le
  have hyl := hy.le
  refine pspec_of (vs := [a, b]) Tryz.func32 Tryz.ntmps32 rfl rfl ?_
  (focus (refine Wr ?_; refine Tm ?_; refine On ?_; refine WP_seq ?_; refine Wr ?_; refine Tm ?_; refine S_q rfl rfl rfl (Q_lenS rfl rfl rfl rfl rfl rfl ‹_›) ?_; refine Tm ?_; refine S_q rfl rfl rfl (Q_lenS rfl rfl rfl rfl rfl rfl ‹_›) ?_; refine Tc ?_; refine On ?_; refine Wc ?_ ?_ <;> intro c0_1 <;> (first | simp [*] at c0_1; done | try simp at c0_1); (focus (refine Wr ?_; refine Tm ?_; refine On ?_; refine WP_ret ?_; refine then_r ?_)); rotate_left 1; (focus (refine WP_skip ?_; refine then_n ?_; refine WP_seq ?_; refine Wr ?_; refine Tm ?_; refine On ?_; refine WP_block ?_)); rotate_left 1))
  · have : xs ≠ ys := fun e => by rw [e] at c0_1; simp at c0_1
    refine pret (.inl rfl) rfl ⟨_, _, rfl, rfl, rfl⟩ ?_
    simp [resOf, this]
  have hlen : xs.length = ys.length := by omega
  (refine WP_loopC (α := Nat) [0, 1] (fun (k : Nat) => xs.length - k) (fun (k : Nat) => [(5, .int .i64 k)]) (fun hh (k : Nat) => hh = h ∧ k ≤ xs.length ∧ xs.take k = ys.take k) 0 ⟨_, _, rfl, ⟨_, _, rfl, rfl, rfl⟩, rfl⟩ (by repeat' first | exact trivial | refine ⟨rfl, ?_⟩) ?_ ?_)
  · exact ⟨rfl, Nat.zero_le _, rfl⟩
  rintro h1 k _ ⟨rfl, hk, ht⟩
  by_cases hlt : k < xs.length
  · obtain ⟨x, ex⟩ := get_of hlt
    obtain ⟨y, ey⟩ := get_of (xs := ys) (k := k) (by omega)
    (focus (refine WP_seq ?_; refine Wr ?_; refine Tm ?_; refine Tm ?_; refine S_q rfl rfl rfl (Q_lenS rfl rfl rfl rfl rfl rfl ‹_›) ?_; refine Tc ?_; refine On ?_; refine Wc ?_ ?_ <;> intro c2_1 <;> (first | simp [*] at c2_1; done | try simp at c2_1); (focus (refine WP_skip ?_; refine then_n ?_; refine WP_seq ?_; refine WP_block ?_; refine WP_seq ?_; refine R_draw (n := 9) mixed rfl ?_; refine Va 0 ?_; refine Vm 1 ?_; refine Va 1 ?_; refine Vm 3 ?_; refine Va 2 ?_; refine A_q (m' := 7) rfl rfl rfl (Q_indexS ‹_› ‹_› rfl rfl rfl (elm rfl) rfl) rfl (by decide +kernel) ?_; refine Va 3 ?_; refine Vl 15 ?_; refine L_el1 ‹_› ‹_› (ty rfl) ?_; rintro _ ⟨⟩; refine Va 4 ?_; refine Vm 31 ?_; refine Va 5 ?_; refine Vm 63 ?_; refine Va 6 ?_; refine A_q (m' := 127) rfl rfl rfl (Q_indexS ‹_› ‹_› rfl rfl rfl (elm rfl) rfl) rfl (by decide +kernel) ?_; refine Va 7 ?_; refine Vl 255 ?_; refine L_el1 ‹_› ‹_› (ty rfl) ?_; rintro _ ⟨⟩; refine Va 8 ?_; refine A_q (m' := 511) rfl rfl rfl (Q_cmp rfl rfl rfl rfl) rfl (by decide +kernel) ?_; refine A_done (by decide +kernel) ?_; refine then_n ?_; refine Wc ?_ ?_ <;> intro c2_4 <;> (first | simp [*] at c2_4; done | try simp at c2_4); (focus (refine Wr ?_; refine Tm ?_; refine On ?_; refine WP_ret ?_; refine block_r ?_; refine then_r ?_; refine roundF_r ?_; refine block_r ?_; refine then_r ?_)); rotate_left 1; (focus (refine WP_skip ?_; refine block_n ?_; refine then_n ?_; refine R_region ?_; refine Tm ?_; refine Ta ?_; refine Tm ?_; refine OPS_nil ?_)); rotate_left 1)); rotate_left 2; (focus (exfalso; omega))))
    · refine pret (.inl rfl) rfl ⟨_, _, rfl, rfl, rfl⟩ ?_
      have : xs ≠ ys := fun e => by subst e; rw [ex] at ey; cases ey; simp_all
      simp [resOf, this]
    · refine roundF_n (k + 1) (by omega) ⟨rfl, by omega, take_eq (x := x) ht ex ?_⟩ (List.Sublist.refl _) (by repeat' first | exact trivial | refine ⟨rfl, ?_⟩)
      rw [ey]; simp_all
  · have hge : k = xs.length := by omega
    subst hge
    (focus (refine WP_seq ?_; refine Wr ?_; refine Tm ?_; refine Tm ?_; refine S_q rfl rfl rfl (Q_lenS rfl rfl rfl rfl rfl rfl ‹_›) ?_; refine Tc ?_; refine On ?_; refine Wc ?_ ?_ <;> intro c3_1 <;> (first | simp [*] at c3_1; done | try simp at c3_1); refine WP_exit ?_; refine then_e ?_; refine roundF_e ?_; refine block_e ?_; refine then_n ?_; refine Wr ?_; refine Tm ?_; refine On ?_; refine WP_ret ?_))
    · refine pret (.inl rfl) rfl ⟨_, _, rfl, rfl, rfl⟩ ?_
      have : xs = ys := by rw [List.take_of_length_le (Nat.le_refl _), List.take_of_length_le (by omega)] at ht; exact ht
      simp [resOf, this]
theorem sameIDs_s {h : Frag} {a b : Value} {xs ys : List ID} (hx : SL h 2 IDC a xs) (hy : SL h 2 IDC b ys) : PSpec Tryz.prog 18 #[a, b] h (fun _ v => v = .bool (decide (xs = ys))) := by
  have hxl := hx.le
  have hyl := hy.le
  refine pspec_of (vs := [a, b]) Tryz.func18 Tryz.ntmps18 rfl rfl ?_
  (focus (refine Wr ?_; refine Tm ?_; refine On ?_; refine WP_seq ?_; refine Wr ?_; refine Tm ?_; refine S_q rfl rfl rfl (Q_lenS rfl rfl rfl rfl rfl rfl ‹_›) ?_; refine Tm ?_; refine S_q rfl rfl rfl (Q_lenS rfl rfl rfl rfl rfl rfl ‹_›) ?_; refine Tc ?_; refine On ?_; refine Wc ?_ ?_ <;> intro c0_1 <;> (first | simp [*] at c0_1; done | try simp at c0_1); (focus (refine Wr ?_; refine Tm ?_; refine On ?_; refine WP_ret ?_; refine then_r ?_)); rotate_left 1; (focus (refine WP_skip ?_; refine then_n ?_; refine WP_seq ?_; refine Wr ?_; refine Tm ?_; refine On ?_; refine WP_block ?_)); rotate_left 1))
  · have : xs ≠ ys := fun e => by rw [e] at c0_1; simp at c0_1
    refine pret (.inl rfl) rfl ⟨_, _, rfl, rfl, rfl⟩ ?_
    simp [resOf, this]
  have hlen : xs.length = ys.length := by omega
  (refine WP_loopC (α := Nat) [0, 1] (fun (k : Nat) => xs.length - k) (fun (k : Nat) => [(5, .int .i64 k)]) (fun hh (k : Nat) => hh = h ∧ k ≤ xs.length ∧ xs.take k = ys.take k) 0 ⟨_, _, rfl, ⟨_, _, rfl, rfl, rfl⟩, rfl⟩ (by repeat' first | exact trivial | refine ⟨rfl, ?_⟩) ?_ ?_)
  · exact ⟨rfl, Nat.zero_le _, rfl⟩
  rintro h1 k _ ⟨rfl, hk, ht⟩
  by_cases hlt : k < xs.length
  · obtain ⟨⟨x1, x2⟩, ex⟩ := get_of hlt
    obtain ⟨⟨y1, y2⟩, ey⟩ := get_of (xs := ys) (k := k) (by omega)
    (focus (refine WP_seq ?_; refine Wr ?_; refine Tm ?_; refine Tm ?_; refine S_q rfl rfl rfl (Q_lenS rfl rfl rfl rfl rfl rfl ‹_›) ?_; refine Tc ?_; refine On ?_; refine Wc ?_ ?_ <;> intro c2_1 <;> (first | simp [*] at c2_1; done | try simp at c2_1); (focus (refine WP_skip ?_; refine then_n ?_; refine WP_seq ?_; refine WP_block ?_; refine WP_seq ?_; refine R_draw (n := 9) mixed rfl ?_; refine Va 0 ?_; refine Vm 1 ?_; refine Va 1 ?_; refine Vm 3 ?_; refine Va 2 ?_; refine A_q (m' := 7) rfl rfl rfl (Q_indexS ‹_› ‹_› rfl rfl rfl (elm rfl) rfl) rfl (by decide +kernel) ?_; refine Va 3 ?_; refine Vl 15 ?_; refine Le ?_; rintro _ _ _ rfl; refine Va 4 ?_; refine Vm 31 ?_; refine Va 5 ?_; refine Vm 63 ?_; refine Va 6 ?_; refine A_q (m' := 127) rfl rfl rfl (Q_indexS ‹_› ‹_› rfl rfl rfl (elm rfl) rfl) rfl (by decide +kernel) ?_; refine Va 7 ?_; refine Vl 255 ?_; refine Le ?_; rintro _ _ _ rfl; refine Va 8 ?_; refine A_q (m' := 511) rfl rfl rfl (Q_neI eqID rfl rfl rfl rfl rfl) rfl (by decide +kernel) ?_; refine A_done (by decide +kernel) ?_; refine then_n ?_; refine Wc ?_ ?_ <;> intro c2_4 <;> (first | simp [*] at c2_4; done | try simp at c2_4); (focus (refine Wr ?_; refine Tm ?_; refine On ?_; refine WP_ret ?_; refine block_r ?_; refine then_r ?_; refine roundF_r ?_; refine block_r ?_; refine then_r ?_)); rotate_left 1; (focus (refine WP_skip ?_; refine block_n ?_; refine then_n ?_; refine R_region ?_; refine Tm ?_; refine Ta ?_; refine Tm ?_; refine OPS_nil ?_)); rotate_left 1)); rotate_left 2; (focus (exfalso; omega))))
    · refine pret (.inl rfl) rfl ⟨_, _, rfl, rfl, rfl⟩ ?_
      have : xs ≠ ys := fun e => by subst e; rw [ex] at ey; cases ey; simp_all
      simp [resOf, this]
    · refine roundF_n (k + 1) (by omega) ⟨rfl, by omega, take_eq (x := (x1, x2)) ht ex ?_⟩ (List.Sublist.refl _) (by repeat' first | exact trivial | refine ⟨rfl, ?_⟩)
      rw [ey]; simp_all
  · have hge : k = xs.length := by omega
    subst hge
    (focus (refine WP_seq ?_; refine Wr ?_; refine Tm ?_; refine Tm ?_; refine S_q rfl rfl rfl (Q_lenS rfl rfl rfl rfl rfl rfl ‹_›) ?_; refine Tc ?_; refine On ?_; refine Wc ?_ ?_ <;> intro c3_1 <;> (first | simp [*] at c3_1; done | try simp at c3_1); refine WP_exit ?_; refine then_e ?_; refine roundF_e ?_; refine block_e ?_; refine then_n ?_; refine Wr ?_; refine Tm ?_; refine On ?_; refine WP_ret ?_))
    · refine pret (.inl rfl) rfl ⟨_, _, rfl, rfl, rfl⟩ ?_
      have : xs = ys := by rw [List.take_of_length_le (Nat.le_refl _), List.take_of_length_le (by omega)] at ht; exact ht
      simp [resOf, this]
theorem eqIDs_s {h : Frag} {a b : Value} {xs ys : List ID} (hx : SL h 2 IDC a xs) (hy : SL h 2 IDC b ys) : PSpec Tryz.prog 71 #[a, b] h (fun _ v => v = .bool (decide (xs = ys))) := by
  have hxl := hx.le
  have hyl := hy.le
  refine pspec_of (vs := [a, b]) Tryz.func71 Tryz.ntmps71 rfl rfl ?_
  (focus (refine Wr ?_; refine Tm ?_; refine On ?_; refine WP_seq ?_; refine Wr ?_; refine Tm ?_; refine S_q rfl rfl rfl (Q_lenS rfl rfl rfl rfl rfl rfl ‹_›) ?_; refine Tm ?_; refine S_q rfl rfl rfl (Q_lenS rfl rfl rfl rfl rfl rfl ‹_›) ?_; refine Tc ?_; refine On ?_; refine Wc ?_ ?_ <;> intro c0_1 <;> (first | simp [*] at c0_1; done | try simp at c0_1); (focus (refine Wr ?_; refine Tm ?_; refine On ?_; refine WP_ret ?_; refine then_r ?_)); rotate_left 1; (focus (refine WP_skip ?_; refine then_n ?_; refine WP_seq ?_; refine Wr ?_; refine Tm ?_; refine S_q rfl rfl rfl (Q_lenS rfl rfl rfl rfl rfl rfl ‹_›) ?_; refine Tm ?_; refine On ?_; refine WP_block ?_)); rotate_left 1))
  · have : xs ≠ ys := fun e => by rw [e] at c0_1; simp at c0_1
    refine pret (.inl rfl) rfl ⟨_, _, rfl, rfl, rfl⟩ ?_
    simp [resOf, this]
  have hlen : xs.length = ys.length := by omega
  (refine WP_loopC (α := Nat) [12, 0, 1] (fun (k : Nat) => xs.length - k) (fun (k : Nat) => [(13, .int .i64 k)]) (fun hh (k : Nat) => hh = h ∧ k ≤ xs.length ∧ xs.take k = ys.take k) 0 ⟨_, _, rfl, ⟨_, _, rfl, ⟨_, _, rfl, rfl, rfl⟩, rfl⟩, rfl⟩ (by repeat' first | exact trivial | refine ⟨rfl, ?_⟩) ?_ ?_)
  · exact ⟨rfl, Nat.zero_le _, rfl⟩
  rintro h1 k _ ⟨rfl, hk, ht⟩
  by_cases hlt : k < xs.length
  · obtain ⟨⟨x1, x2⟩, ex⟩ := get_of hlt
    obtain ⟨⟨y1, y2⟩, ey⟩ := get_of (xs := ys) (k := k) (by omega)
    (focus (refine Wr ?_; refine Tc ?_; refine On ?_; refine WP_seq ?_; refine Wc ?_ ?_ <;> intro c2_1 <;> (first | simp [*] at c2_1; done | try simp at c2_1); (focus (refine WP_skip ?_; refine then_n ?_; refine WP_seq ?_; refine WP_block ?_; refine Wr ?_; refine Tm ?_; refine Tm ?_; refine On ?_; refine WP_seq ?_; refine R_draw (n := 9) mixed rfl ?_; refine Va 0 ?_; refine Vm 1 ?_; refine Va 1 ?_; refine Vm 3 ?_; refine Va 2 ?_; refine A_q (m' := 7) rfl rfl rfl (Q_indexS ‹_› ‹_› rfl rfl rfl (elm rfl) rfl) rfl (by decide +kernel) ?_; refine Va 3 ?_; refine Vl 15 ?_; refine Le ?_; rintro _ _ _ rfl; refine Va 4 ?_; refine Vm 31 ?_; refine Va 5 ?_; refine Vm 63 ?_; refine Va 6 ?_; refine A_q (m' := 127) rfl rfl rfl (Q_indexS ‹_› ‹_› rfl rfl rfl (elm rfl) rfl) rfl (by decide +kernel) ?_; refine Va 7 ?_; refine Vl 255 ?_; refine Le ?_; rintro _ _ _ rfl; refine Va 8 ?_; refine A_q (m' := 511) rfl rfl rfl (Q_neI eqID rfl rfl rfl rfl rfl) rfl (by decide +kernel) ?_; refine A_done (by decide +kernel) ?_; refine then_n ?_; refine Wc ?_ ?_ <;> intro c2_4 <;> (first | simp [*] at c2_4; done | try simp at c2_4); (focus (refine Wr ?_; refine Tm ?_; refine On ?_; refine WP_ret ?_; refine block_r ?_; refine then_r ?_; refine roundF_r ?_; refine block_r ?_; refine then_r ?_)); rotate_left 1; (focus (refine WP_skip ?_; refine block_n ?_; refine then_n ?_; refine R_region ?_; refine Ta ?_; refine Tm ?_; refine OPS_nil ?_)); rotate_left 1)); rotate_left 2; (focus (exfalso; omega))))
    · refine pret (.inl rfl) rfl ⟨_, _, rfl, rfl, rfl⟩ ?_
      have : xs ≠ ys := fun e => by subst e; rw [ex] at ey; cases ey; simp_all
      simp [resOf, this]
    · refine roundF_n (k + 1) (by omega) ⟨rfl, by omega, take_eq (x := (x1, x2)) ht ex ?_⟩ (List.Sublist.refl _) (by repeat' first | exact trivial | refine ⟨rfl, ?_⟩)
      rw [ey]; simp_all
  · have hge : k = xs.length := by omega
    subst hge
    (focus (refine Wr ?_; refine Tc ?_; refine On ?_; refine WP_seq ?_; refine Wc ?_ ?_ <;> intro c3_1 <;> (first | simp [*] at c3_1; done | try simp at c3_1); refine WP_exit ?_; refine then_e ?_; refine roundF_e ?_; refine block_e ?_; refine then_n ?_; refine Wr ?_; refine Tm ?_; refine On ?_; refine WP_ret ?_))
    · refine pret (.inl rfl) rfl ⟨_, _, rfl, rfl, rfl⟩ ?_
      have : xs = ys := by rw [List.take_of_length_le (Nat.le_refl _), List.take_of_length_le (by omega)] at ht; exact ht
      simp [resOf, this]
theorem find_drop {α : Type} {p : α → Bool} {xs : List α} {k : Nat} {x : α} (hx : xs[k]? = some x) : (xs.drop k).find? p = if p x then some x else (xs.drop (k + 1)).find? p := by
  rw [drop_get hx, List.find?_cons]; cases p x <;> rfl
theorem viewOf_def (vs : List View) (m : Int) : viewOf vs m = vs.find? fun v => decide (v.machine = m) := by rw [viewOf]
theorem refView_s {h : Frag} {a : Value} {vs : List View} {m : Int} (hs : SL h 13 (ViewC 4398046511104) a vs) : PSpec Tryz.prog 23 #[a, .int .i64 m] h (fun _ v => ∃ us, v = .tuple #[.agg us.toArray, .bool (viewOf vs m).isSome] ∧ us.length = 13 ∧ ones us = true ∧ ViewC 4398046511104 h (vwAt vs m) us) := by
  have hl := hs.le
  refine pspec_of (vs := [a, .int .i64 m]) Tryz.func23 Tryz.ntmps23 rfl rfl ?_
  (focus (refine Wr ?_; refine Tal ?_; intro b0_1; refine Tm ?_; refine On ?_; refine WP_seq ?_; refine Wr ?_; refine Tm ?_; refine On ?_; refine WP_block ?_))
  (refine WP_loopC (α := Nat) [4, 0, 1] (fun (k : Nat) => vs.length - k) (fun (k : Nat) => [(6, .int .i64 k)]) (fun hh (k : Nat) => hh = h ∧ k ≤ vs.length ∧ (vs.drop k).find? (fun v => decide (v.machine = m)) = viewOf vs m) 0 ⟨_, _, rfl, ⟨_, _, rfl, ⟨_, _, rfl, rfl, rfl⟩, rfl⟩, rfl⟩ (by repeat' first | exact trivial | refine ⟨rfl, ?_⟩) ?_ ?_)
  · exact ⟨rfl, Nat.zero_le _, by rw [viewOf_def]; rfl⟩
  rintro h1 k _ ⟨rfl, hk, ht⟩
  by_cases hlt : k < vs.length
  · obtain ⟨v, ev⟩ := get_of hlt
    rw [find_drop ev] at ht
    (focus (refine WP_seq ?_; refine Wr ?_; refine Tm ?_; refine Tm ?_; refine S_q rfl rfl rfl (Q_lenS rfl rfl rfl rfl rfl rfl ‹_›) ?_; refine Tc ?_; refine On ?_; refine Wc ?_ ?_ <;> intro c2_1 <;> (first | simp [*] at c2_1; done | try simp at c2_1); refine WP_skip ?_; refine then_n ?_; refine WP_seq ?_; refine WP_block ?_; refine Wr ?_; refine Tm ?_; refine Tm ?_; refine Ti ?_; refine Tf ?_; refine Tl ?_; refine L_elF ‹_› ‹_› ?_; rintro _ _ _ ⟨xi2_2, xa2_2, po2_2, qo2_2, ps2_2, qs2_2, pc2_2, qc2_2, pn2_2, qn2_2, pm2_2, qm2_2, xw2_2, xv2_2, pf2_2, qf2_2, pr2_2, qr2_2, xe2_2, xf2_2, rfl, vo2_2, vs2_2, vc2_2, vn2_2, vm2_2, vf2_2, vr2_2⟩; refine LV_1 (ty rfl) rfl ?_; refine Tm ?_; refine Tc ?_; refine On ?_; refine Wc ?_ ?_ <;> intro c2_3 <;> (first | simp [*] at c2_3; done | try simp at c2_3); (focus (refine Wr ?_; refine Tm ?_; refine Tm ?_; refine Ti ?_; refine Tl ?_; refine Le ?_; rintro _ _ _ ⟨xi2_4, xa2_4, po2_4, qo2_4, ps2_4, qs2_4, pc2_4, qc2_4, pn2_4, qn2_4, pm2_4, qm2_4, xw2_4, xv2_4, pf2_4, qf2_4, pr2_4, qr2_4, xe2_4, xf2_4, rfl, vo2_4, vs2_4, vc2_4, vn2_4, vm2_4, vf2_4, vr2_4⟩; refine Tw u0 ?_; refine Tm ?_; refine On ?_; refine WP_ret ?_; refine block_r ?_; refine then_r ?_; refine roundF_r ?_; refine block_r ?_; refine then_r ?_)); rotate_left 1; (focus (refine WP_skip ?_; refine block_n ?_; refine then_n ?_; refine R_region ?_; refine Tm ?_; refine Ta ?_; refine Tm ?_; refine OPS_nil ?_)); rotate_left 1))
    · have hv : viewOf vs m = some v := by rw [← ht, if_pos (by simpa using c2_3)]
      refine pret (.inl rfl) rfl ⟨_, _, _, rfl, Loads_agg (Rd.own m0) (ty rfl) rfl, ⟨_, _, rfl, rfl, rfl⟩, rfl⟩ ?_
      have hz : vwAt vs m = v := by rw [vwAt, hv]; rfl
      rw [hz, hv]
      exact ⟨_, rfl, rfl, by assumption, xi2_4, _, _, _, _, _, _, _, _, _, _, _, _, _, _, _, _, _, _, _, rfl, vo2_4, vs2_4, vc2_4, vn2_4, vm2_4, vf2_4, vr2_4⟩
    · refine roundF_n (k + 1) (by omega) ⟨rfl, by omega, ?_⟩ (by repeat' first | exact sR _ | exact sA _ _ | exact sN _ | apply s2 | apply s1) (by repeat' first | exact trivial | refine ⟨rfl, ?_⟩)
      rw [← ht, if_neg (by simpa using c2_3)]
  · have hge : k = vs.length := by omega
    subst hge
    rw [List.drop_length] at ht
    (focus (refine WP_seq ?_; refine Wr ?_; refine Tm ?_; refine Tm ?_; refine S_q rfl rfl rfl (Q_lenS rfl rfl rfl rfl rfl rfl ‹_›) ?_; refine Tc ?_; refine On ?_; refine Wc ?_ ?_ <;> intro c3_1 <;> (first | simp [*] at c3_1; done | try simp at c3_1); refine WP_exit ?_; refine then_e ?_; refine roundF_e ?_; refine block_e ?_; refine then_n ?_; refine Wr ?_; refine S_q rfl rfl rfl (Q_build rfl (by decide +kernel) (zer rfl) rfl rfl) ?_; refine Tw u0 ?_; refine Tm ?_; refine On ?_; refine WP_ret ?_))
    have hv : viewOf vs m = none := ht.symm
    refine pret (.inl rfl) rfl ⟨_, _, _, rfl, Loads_agg (Rd.own m0) (ty rfl) rfl, ⟨_, _, rfl, rfl, rfl⟩, rfl⟩ ?_
    have hz : vwAt vs m = zeroV := by rw [vwAt, hv]; rfl
    rw [hz, hv, zeroV]
    refine ⟨_, rfl, rfl, rfl, by unfold inI64; decide, _, _, _, _, _, _, _, _, _, _, _, _, _, _, _, _, _, _, _, rfl, ?_⟩
    exact ⟨SLB.nil _ _ _ _ _ _, SLB.nil _ _ _ _ _ _, SLB.nil _ _ _ _ _ _, SLB.nil _ _ _ _ _ _, SLB.nil _ _ _ _ _ _, SLB.nil _ _ _ _ _ _, SLB.nil _ _ _ _ _ _⟩
theorem findG_def (g : List Nd) (id : ID) : findG g id = g.find? fun n => decide (n.id = id) := by rw [findG]
theorem refFind_s {h : Frag} {g : List Nd} {vs : List Value} {id : ID} (hg : GraphC 4398046511104 h g vs) : PSpec Tryz.prog 62 #[.agg vs.toArray, .agg (idc id).toArray] h
    (fun _ v => ∃ us, v = .tuple #[.agg us.toArray, .bool (findG g id).isSome] ∧ us.length = 5 ∧ ones us = true ∧ NodeC 4398046511104 h ((findG g id).getD zeroN) us) := by
  obtain ⟨p, c, rfl, hf⟩ := hg
  have hl := hf.le
  obtain ⟨i1, i2⟩ := id
  refine pspec_of (vs := [.agg [Value.slice p g.length c].toArray, .agg (idc (i1, i2)).toArray]) Tryz.func62 Tryz.ntmps62 rfl rfl ?_
  (focus (refine Wr ?_; refine Tbx ?_; intro b0_1; refine Tbx ?_; intro b0_2; refine Tal ?_; intro b0_3; refine Tm ?_; refine On ?_; refine WP_seq ?_; refine Wr ?_; refine Tm ?_; refine On ?_; refine WP_block ?_))
  (refine WP_loopC (α := Nat) [4, 3, 2] (fun (k : Nat) => g.length - k) (fun (k : Nat) => [(6, .int .i64 k)]) (fun hh (k : Nat) => hh = h ∧ k ≤ g.length ∧ (g.drop k).find? (fun n => decide (n.id = (i1, i2))) = findG g (i1, i2)) 0 ⟨_, _, rfl, ⟨_, _, rfl, ⟨_, _, rfl, rfl, rfl⟩, rfl⟩, rfl⟩ (by repeat' first | exact trivial | refine ⟨rfl, ?_⟩) ?_ ?_)
  · exact ⟨rfl, Nat.zero_le _, by rw [findG_def]; rfl⟩
  rintro h1 k _ ⟨rfl, hk, ht⟩
  by_cases hlt : k < g.length
  · obtain ⟨⟨⟨n1, n2⟩, kd, cl, fs⟩, en⟩ := get_of hlt
    rw [find_drop en] at ht
    (focus (refine WP_seq ?_; refine Wr ?_; refine Tm ?_; refine Tf ?_; refine Tl ?_; refine L_one (Rd.own m2) (ty rfl) ?_; refine Tlen ?_; refine Tc ?_; refine On ?_; refine Wc ?_ ?_ <;> intro c2_1 <;> (first | simp [*] at c2_1; done | try simp at c2_1); refine WP_skip ?_; refine then_n ?_; refine WP_seq ?_; refine WP_block ?_; refine WP_seq ?_; refine R_draw (n := 8) mixed rfl ?_; refine Va 0 ?_; refine Vf 1 ?_; refine Va 1 ?_; refine Vl 3 ?_; refine L_one (Rd.own m2) (ty rfl) ?_; refine Va 2 ?_; refine Vm 7 ?_; refine Va 3 ?_; refine A_q (m' := 15) rfl rfl rfl (Q_indexS ‹_› ‹_› rfl rfl rfl (elm rfl) rfl) rfl (by decide +kernel) ?_; refine Va 4 ?_; refine Vf 31 ?_; refine Va 5 ?_; refine Vl 63 ?_; refine L_elF ‹_› ‹_› ?_; rintro _ _ _ ⟨pn2_2, qn2_2, rfl, fn2_2⟩; refine LV_a (ty rfl) rfl ?_; refine Va 6 ?_; refine Vl 127 ?_; refine Lg m1 ?_; refine Va 7 ?_; refine A_q (m' := 255) rfl rfl rfl (Q_eqI eqID rfl rfl rfl rfl rfl) rfl (by decide +kernel) ?_; refine A_done (by decide +kernel) ?_; refine then_n ?_; refine Wc ?_ ?_ <;> intro c2_3 <;> (first | simp [*] at c2_3; done | try simp at c2_3); (focus (refine Wr ?_; refine Tf ?_; refine Tl ?_; refine L_one (Rd.own m2) (ty rfl) ?_; refine Tm ?_; refine Ti ?_; refine Tl ?_; refine Le ?_; rintro _ _ _ ⟨pn2_4, qn2_4, rfl, fn2_4⟩; refine Tw u0 ?_; refine Tm ?_; refine On ?_; refine WP_ret ?_; refine block_r ?_; refine then_r ?_; refine roundF_r ?_; refine block_r ?_; refine then_r ?_)); rotate_left 1; (focus (refine WP_skip ?_; refine block_n ?_; refine then_n ?_; refine R_region ?_; refine Tm ?_; refine Ta ?_; refine Tm ?_; refine OPS_nil ?_)); rotate_left 1))
    · have hv : findG g (i1, i2) = some ⟨(n1, n2), kd, cl, fs⟩ := by rw [← ht, if_pos (by simpa using c2_3)]
      refine pret (.inl rfl) rfl ⟨_, _, _, rfl, Loads_agg (Rd.own m0) (ty rfl) rfl, ⟨_, _, rfl, rfl, rfl⟩, rfl⟩ ?_
      rw [hv]
      exact ⟨_, rfl, rfl, by assumption, _, _, rfl, by assumption⟩
    · refine roundF_n (k + 1) (by omega) ⟨rfl, by omega, ?_⟩ (by repeat' first | exact sR _ | exact sA _ _ | exact sN _ | apply s2 | apply s1) (by repeat' first | exact trivial | refine ⟨rfl, ?_⟩)
      rw [← ht, if_neg (by simpa using c2_3)]
  · have hge : k = g.length := by omega
    subst hge
    rw [List.drop_length] at ht
    (focus (refine WP_seq ?_; refine Wr ?_; refine Tm ?_; refine Tf ?_; refine Tl ?_; refine L_one (Rd.own m2) (ty rfl) ?_; refine Tlen ?_; refine Tc ?_; refine On ?_; refine Wc ?_ ?_ <;> intro c3_1 <;> (first | simp [*] at c3_1; done | try simp at c3_1); refine WP_exit ?_; refine then_e ?_; refine roundF_e ?_; refine block_e ?_; refine then_n ?_; refine Wr ?_; refine S_q rfl rfl rfl (Q_build rfl (by decide +kernel) (zer rfl) rfl rfl) ?_; refine Tw u0 ?_; refine Tm ?_; refine On ?_; refine WP_ret ?_))
    have hv : findG g (i1, i2) = none := ht.symm
    refine pret (.inl rfl) rfl ⟨_, _, _, rfl, Loads_agg (Rd.own m0) (ty rfl) rfl, ⟨_, _, rfl, rfl, rfl⟩, rfl⟩ ?_
    rw [hv]
    exact ⟨_, rfl, rfl, rfl, none, 0, rfl, SLB.nil _ _ _ _ _ _⟩
theorem refLocal_s {h : Frag} {us : List Value} {v : View} {id : ID} (hv : ViewC 4398046511104 h v us) : PSpec Tryz.prog 22 #[.agg us.toArray, .agg (idc id).toArray] h (fun _ u => u = .bool (localB v id)) := by
  obtain ⟨hi, xa, po, qo, qs, qt, pc, qc, pn, qn, pm, qm, xw, xv, pf, qf, pr, qr, xe, xf, rfl, vo, -⟩ := hv
  obtain ⟨i1, i2⟩ := id
  refine pspec_of (vs := [.agg _, .agg (idc (i1, i2)).toArray]) Tryz.func22 Tryz.ntmps22 rfl rfl ?_
  (focus (refine Wr ?_; refine Tbx ?_; intro b0_1; refine Tbx ?_; intro b0_2; refine Tm ?_; refine On ?_; refine Wr ?_; refine Tf ?_; refine Tl ?_; refine L_sub (Rd.own m1) (ty rfl) rfl ?_; refine Tl ?_; refine Lg m0 ?_; refine S_c rfl rfl rfl (C_call0 (refFind_s ⟨_, _, rfl, by assumption⟩) rfl rfl ⟨_, _, rfl, ⟨_, _, rfl, rfl, rfl⟩, rfl⟩ (cal rfl) ?_); rintro _ ⟨cv0_3, rfl, cl0_3, co0_3, ⟨pn0_3, qn0_3, rfl, fn0_3⟩⟩; refine Tm ?_; refine Tx ?_; refine Tx ?_; refine Tal ?_; intro b0_4; refine Tw u0 ?_; refine Tm ?_; refine On ?_; refine Wr ?_; refine Tm ?_; refine Tm ?_; refine Ugs ?_ ?_ <;> intro c0_5 <;> (first | simp [*] at c0_5; done | try simp at c0_5); (focus (refine Ugf ?_; refine Ugl ?_; refine Lo m0 ?_; refine Ugc ?_; refine Tp1 ?_; refine Tm ?_; refine On ?_; refine WP_ret ?_)); rotate_left 1; (focus (refine Tn ?_; refine Tn ?_; refine Tn ?_; refine Tp0 ?_; refine Tm ?_; refine On ?_; refine WP_ret ?_)); rotate_left 1))
  all_goals refine pret (.inl rfl) rfl ⟨_, _, rfl, rfl, rfl⟩ ?_
  all_goals (rw [localB]; cases hx : findG v.objects (i1, i2) <;> simp_all [resOf]; try rfl)
theorem refSameNode_s {h : Frag} {n m : Nd} {vs us : List Value} (hn : NodeC 4398046511104 h n vs) (hm : NodeC 4398046511104 h m us) : PSpec Tryz.prog 116 #[.agg vs.toArray, .agg us.toArray] h (fun _ v => v = .bool (decide (n = m))) := by
  obtain ⟨p, c, rfl, hf⟩ := hn
  obtain ⟨p', c', rfl, hg⟩ := hm
  obtain ⟨⟨i1, i2⟩, kd, cl, fs⟩ := n
  obtain ⟨⟨j1, j2⟩, kd', cl', fs'⟩ := m
  simp only at hf hg
  have hnl := hf.le
  have hml := hg.le
  refine pspec_of (vs := [.agg [Value.int .i64 i1, .int .i64 i2, .int .i64 kd, .int .i64 cl, .slice p fs.length c].toArray, .agg [Value.int .i64 j1, .int .i64 j2, .int .i64 kd', .int .i64 cl', .slice p' fs'.length c'].toArray]) Tryz.func116 Tryz.ntmps116 rfl rfl ?_
  (focus (refine Wr ?_; refine Tbx ?_; intro b0_1; refine Tbx ?_; intro b0_2; refine Tm ?_; refine On ?_; refine WP_seq ?_; refine Wr ?_; refine Tf ?_; refine Tl ?_; refine L_sub (Rd.own m1) (ty rfl) rfl ?_; refine Tf ?_; refine Tl ?_; refine L_sub (Rd.own m0) (ty rfl) rfl ?_; refine S_q rfl rfl rfl (Q_neI eqID rfl rfl rfl rfl rfl) ?_; refine Tm ?_; refine Ugs ?_ ?_ <;> intro c0_3 <;> (first | simp [*] at c0_3; done | try simp at c0_3); (focus (refine Tn ?_; refine Tn ?_; refine Tn ?_; refine Tn ?_; refine Tn ?_; refine Tp1 ?_; refine Tm ?_; refine Tn ?_; refine Tn ?_; refine Tn ?_; refine Tn ?_; refine Tn ?_; refine Tp1 ?_; refine Tm ?_; refine Tn ?_; refine Tn ?_; refine Tn ?_; refine Tn ?_; refine Tn ?_; refine Tn ?_; refine Tn ?_; refine Tp1 ?_; refine On ?_; refine cond_t rfl ?_; refine Wr ?_; refine Tm ?_; refine On ?_; refine WP_ret ?_; refine then_r ?_)); rotate_left 1; (focus (refine Ugf ?_; refine Ugl ?_; refine Lo m1 ?_; refine Ugf ?_; refine Ugl ?_; refine Lo m0 ?_; refine Ugc ?_; refine Tp0 ?_; refine Tm ?_; refine Ugs ?_ ?_ <;> intro c0_4 <;> (first | simp [*] at c0_4; done | try simp at c0_4); (focus (refine Tn ?_; refine Tn ?_; refine Tn ?_; refine Tn ?_; refine Tn ?_; refine Tp1 ?_; refine Tm ?_; refine Tn ?_; refine Tn ?_; refine Tn ?_; refine Tn ?_; refine Tn ?_; refine Tn ?_; refine Tn ?_; refine Tp1 ?_; refine On ?_; refine cond_t rfl ?_; refine Wr ?_; refine Tm ?_; refine On ?_; refine WP_ret ?_; refine then_r ?_)); rotate_left 1; (focus (refine Ugf ?_; refine Ugl ?_; refine Lo m1 ?_; refine Ugf ?_; refine Ugl ?_; refine Lo m0 ?_; refine Ugc ?_; refine Tp0 ?_; refine Tm ?_; refine Ugs ?_ ?_ <;> intro c0_5 <;> (first | simp [*] at c0_5; done | try simp at c0_5); (focus (refine Tn ?_; refine Tn ?_; refine Tn ?_; refine Tn ?_; refine Tn ?_; refine Tn ?_; refine Tn ?_; refine Tp1 ?_; refine On ?_; refine cond_t rfl ?_; refine Wr ?_; refine Tm ?_; refine On ?_; refine WP_ret ?_; refine then_r ?_)); rotate_left 1; (focus (refine Ugf ?_; refine Ugl ?_; refine Lo m1 ?_; refine S_gq rfl rfl rfl rfl rfl rfl (Q_len rfl rfl rfl rfl rfl rfl) ?_; refine Ugf ?_; refine Ugl ?_; refine Lo m0 ?_; refine S_gq rfl rfl rfl rfl rfl rfl (Q_len rfl rfl rfl rfl rfl rfl) ?_; refine Ugc ?_; refine Tp0 ?_; refine On ?_; refine Wc ?_ ?_ <;> intro c0_6 <;> (first | simp [*] at c0_6; done | try simp at c0_6); (focus (refine Wr ?_; refine Tm ?_; refine On ?_; refine WP_ret ?_; refine then_r ?_)); rotate_left 1; (focus (refine WP_skip ?_; refine then_n ?_; refine WP_seq ?_; refine Wr ?_; refine Tm ?_; refine On ?_; refine WP_block ?_)); rotate_left 1)); rotate_left 2)); rotate_left 3)); rotate_left 4))
  iterate 3
    · refine pret (.inl rfl) rfl ⟨_, _, rfl, rfl, rfl⟩ ?_
      simp only [resOf]; refine congrArg Value.bool (decide_eq_false fun e => ?_).symm
      simp only [Nd.mk.injEq, Prod.mk.injEq] at e; omega
  · refine pret (.inl rfl) rfl ⟨_, _, rfl, rfl, rfl⟩ ?_
    simp only [resOf]; refine congrArg Value.bool (decide_eq_false fun e => ?_).symm
    simp only [Nd.mk.injEq, Prod.mk.injEq] at e; rw [e.2.2.2] at c0_6; exact c0_6 rfl
  obtain ⟨rfl, rfl⟩ := c0_3
  subst c0_4
  subst c0_5
  have hlen : fs.length = fs'.length := by omega
  (refine WP_loopC (α := Nat) [3, 2] (fun (k : Nat) => fs.length - k) (fun (k : Nat) => [(5, .int .i64 k)]) (fun hh (k : Nat) => hh = h ∧ k ≤ fs.length ∧ fs.take k = fs'.take k) 0 ⟨_, _, rfl, ⟨_, _, rfl, rfl, rfl⟩, rfl⟩ (by repeat' first | exact trivial | refine ⟨rfl, ?_⟩) ?_ ?_)
  · exact ⟨rfl, Nat.zero_le _, rfl⟩
  rintro h1 k _ ⟨rfl, hk, ht⟩
  by_cases hlt : k < fs.length
  · obtain ⟨⟨x1, x2, x3, x4⟩, ex⟩ := get_of hlt
    obtain ⟨⟨y1, y2, y3, y4⟩, ey⟩ := get_of (xs := fs') (k := k) (by omega)
    (focus (refine WP_seq ?_; refine Wr ?_; refine Tm ?_; refine Tf ?_; refine Tl ?_; refine Lo m1 ?_; refine Tlen ?_; refine Tc ?_; refine On ?_; refine Wc ?_ ?_ <;> intro c2_1 <;> (first | simp [*] at c2_1; done | try simp at c2_1); (focus (refine WP_skip ?_; refine then_n ?_; refine WP_seq ?_; refine WP_block ?_; refine WP_seq ?_; refine R_draw (n := 11) mixed rfl ?_; refine Va 0 ?_; refine Vf 1 ?_; refine Va 1 ?_; refine Vl 3 ?_; refine Lo m1 ?_; refine Va 2 ?_; refine Vm 7 ?_; refine Va 3 ?_; refine A_q (m' := 15) rfl rfl rfl (Q_indexS ‹_› ‹_› rfl rfl rfl (elm rfl) rfl) rfl (by decide +kernel) ?_; refine Va 4 ?_; refine Vl 31 ?_; refine Le ?_; rintro _ _ _ rfl; refine Va 5 ?_; refine Vf 63 ?_; refine Va 6 ?_; refine Vl 127 ?_; refine Lo m0 ?_; refine Va 7 ?_; refine Vm 255 ?_; refine Va 8 ?_; refine A_q (m' := 511) rfl rfl rfl (Q_indexS ‹_› ‹_› rfl rfl rfl (elm rfl) rfl) rfl (by decide +kernel) ?_; refine Va 9 ?_; refine Vl 1023 ?_; refine Le ?_; rintro _ _ _ rfl; refine Va 10 ?_; refine A_q (m' := 2047) rfl rfl rfl (Q_neV eqVal rfl rfl rfl rfl rfl) rfl (by decide +kernel) ?_; refine A_done (by decide +kernel) ?_; refine then_n ?_; refine Wc ?_ ?_ <;> intro c2_4 <;> (first | simp [*] at c2_4; done | try simp at c2_4); (focus (refine Wr ?_; refine Tm ?_; refine On ?_; refine WP_ret ?_; refine block_r ?_; refine then_r ?_; refine roundF_r ?_; refine block_r ?_; refine then_r ?_)); rotate_left 1; (focus (refine WP_skip ?_; refine block_n ?_; refine then_n ?_; refine R_region ?_; refine Tm ?_; refine Ta ?_; refine Tm ?_; refine OPS_nil ?_)); rotate_left 1)); rotate_left 2; (focus (exfalso; omega))))
    · refine pret (.inl rfl) rfl ⟨_, _, rfl, rfl, rfl⟩ ?_
      have : fs ≠ fs' := fun e => by subst e; rw [ex] at ey; cases ey; simp_all
      simp [resOf, this]
    · refine roundF_n (k + 1) (by omega) ⟨rfl, by omega, take_eq (x := (x1, x2, x3, x4)) ht ex ?_⟩ (by repeat' first | exact sR _ | exact sA _ _ | exact sN _ | apply s2 | apply s1) (by repeat' first | exact trivial | refine ⟨rfl, ?_⟩)
      rw [ey]; simp_all
  · have hge : k = fs.length := by omega
    subst hge
    (focus (refine WP_seq ?_; refine Wr ?_; refine Tm ?_; refine Tf ?_; refine Tl ?_; refine Lo m1 ?_; refine Tlen ?_; refine Tc ?_; refine On ?_; refine Wc ?_ ?_ <;> intro c3_1 <;> (first | simp [*] at c3_1; done | try simp at c3_1); refine WP_exit ?_; refine then_e ?_; refine roundF_e ?_; refine block_e ?_; refine then_n ?_; refine Wr ?_; refine Tm ?_; refine On ?_; refine WP_ret ?_))
    · refine pret (.inl rfl) rfl ⟨_, _, rfl, rfl, rfl⟩ ?_
      have : fs = fs' := by rw [List.take_of_length_le (Nat.le_refl _), List.take_of_length_le (by omega)] at ht; exact ht
      simp [resOf, this]
theorem refEqual_s {h : Frag} {g k : List Nd} {vs us : List Value} (hg : GraphC 4398046511104 h g vs) (hk : GraphC 4398046511104 h k us) : PSpec Tryz.prog 76 #[.agg vs.toArray, .agg us.toArray] h (fun _ v => v = .bool (decide (g = k))) := by
  obtain ⟨p, c, rfl, hf⟩ := hg
  obtain ⟨p', c', rfl, hg⟩ := hk
  have hnl := hf.le
  have hml := hg.le
  refine pspec_of (vs := [.agg [Value.slice p g.length c].toArray, .agg [Value.slice p' k.length c'].toArray]) Tryz.func76 Tryz.ntmps76 rfl rfl ?_
  (focus (refine Wr ?_; refine Tbx ?_; intro b0_1; refine Tbx ?_; intro b0_2; refine Tm ?_; refine On ?_; refine WP_seq ?_; refine Wr ?_; refine Tf ?_; refine Tl ?_; refine L_one (Rd.own m1) (ty rfl) ?_; refine Tlen ?_; refine Tf ?_; refine Tl ?_; refine L_one (Rd.own m0) (ty rfl) ?_; refine Tlen ?_; refine Tc ?_; refine On ?_; refine Wc ?_ ?_ <;> intro c0_3 <;> (first | simp [*] at c0_3; done | try simp at c0_3); (focus (refine Wr ?_; refine Tm ?_; refine On ?_; refine WP_ret ?_; refine then_r ?_)); rotate_left 1; (focus (refine WP_skip ?_; refine then_n ?_; refine WP_seq ?_; refine Wr ?_; refine Tm ?_; refine On ?_; refine WP_block ?_)); rotate_left 1))
  · refine pret (.inl rfl) rfl ⟨_, _, rfl, rfl, rfl⟩ ?_
    simp only [resOf]; refine congrArg Value.bool (decide_eq_false fun e => ?_).symm
    rw [e] at c0_3; exact c0_3 rfl
  have hlen : g.length = k.length := by omega
  (refine WP_loopC (α := Nat) [3, 2] (fun (i : Nat) => g.length - i) (fun (i : Nat) => [(5, .int .i64 i)]) (fun hh (i : Nat) => hh = h ∧ i ≤ g.length ∧ g.take i = k.take i) 0 ⟨_, _, rfl, ⟨_, _, rfl, rfl, rfl⟩, rfl⟩ (by repeat' first | exact trivial | refine ⟨rfl, ?_⟩) ?_ ?_)
  · exact ⟨rfl, Nat.zero_le _, rfl⟩
  rintro h1 i _ ⟨rfl, hi, ht⟩
  by_cases hlt : i < g.length
  · obtain ⟨x, ex⟩ := get_of hlt
    obtain ⟨y, ey⟩ := get_of (xs := k) (k := i) (by omega)
    (focus (refine WP_seq ?_; refine Wr ?_; refine Tm ?_; refine Tf ?_; refine Tl ?_; refine L_one (Rd.own m1) (ty rfl) ?_; refine Tlen ?_; refine Tc ?_; refine On ?_; refine Wc ?_ ?_ <;> intro c2_1 <;> (first | simp [*] at c2_1; done | try simp at c2_1); (focus (refine WP_skip ?_; refine then_n ?_; refine WP_seq ?_; refine WP_block ?_; refine WP_seq ?_; refine R_draw (n := 12) mixed rfl ?_; refine Va 0 ?_; refine Vf 1 ?_; refine Va 1 ?_; refine Vl 3 ?_; refine L_one (Rd.own m1) (ty rfl) ?_; refine Va 2 ?_; refine Vm 7 ?_; refine Va 3 ?_; refine A_q (m' := 15) rfl rfl rfl (Q_indexS ‹_› ‹_› rfl rfl rfl (elm rfl) rfl) rfl (by decide +kernel) ?_; refine Va 4 ?_; refine Vl 31 ?_; refine Le ?_; rintro _ _ _ ⟨pn2_2, qn2_2, rfl, fn2_2⟩; refine Va 5 ?_; refine Vf 63 ?_; refine Va 6 ?_; refine Vl 127 ?_; refine L_one (Rd.own m0) (ty rfl) ?_; refine Va 7 ?_; refine Vm 255 ?_; refine Va 8 ?_; refine A_q (m' := 511) rfl rfl rfl (Q_indexS ‹_› ‹_› rfl rfl rfl (elm rfl) rfl) rfl (by decide +kernel) ?_; refine Va 9 ?_; refine Vl 1023 ?_; refine Le ?_; rintro _ _ _ ⟨pn2_3, qn2_3, rfl, fn2_3⟩; refine Va 10 ?_; refine A_c (m' := 2047) rfl rfl rfl rfl (by decide +kernel) (C_callv (refSameNode_s ⟨_, _, rfl, by assumption⟩ ⟨_, _, rfl, by assumption⟩) rfl rfl ⟨_, _, rfl, ⟨_, _, rfl, rfl, rfl⟩, rfl⟩ (cal rfl) ?_); refine Va 11 ?_; refine A_q (m' := 4095) rfl rfl rfl (Q_not rfl rfl) rfl (by decide +kernel) ?_; refine A_done (by decide +kernel) ?_; refine then_n ?_; refine Wc ?_ ?_ <;> intro c2_4 <;> (first | simp [*] at c2_4; done | try simp at c2_4); (focus (refine Wr ?_; refine Tm ?_; refine On ?_; refine WP_ret ?_; refine block_r ?_; refine then_r ?_; refine roundF_r ?_; refine block_r ?_; refine then_r ?_)); rotate_left 1; (focus (refine WP_skip ?_; refine block_n ?_; refine then_n ?_; refine R_region ?_; refine Tm ?_; refine Ta ?_; refine Tm ?_; refine OPS_nil ?_)); rotate_left 1)); rotate_left 2; (focus (exfalso; omega))))
    · refine pret (.inl rfl) rfl ⟨_, _, rfl, rfl, rfl⟩ ?_
      have : g ≠ k := fun e => by subst e; rw [ex] at ey; cases ey; simp_all
      simp [resOf, this]
    · refine roundF_n (i + 1) (by omega) ⟨rfl, by omega, take_eq (x := x) ht ex ?_⟩ (by repeat' first | exact sR _ | exact sA _ _ | exact sN _ | apply s2 | apply s1) (by repeat' first | exact trivial | refine ⟨rfl, ?_⟩)
      rw [ey]; simp_all
  · have hge : i = g.length := by omega
    subst hge
    (focus (refine WP_seq ?_; refine Wr ?_; refine Tm ?_; refine Tf ?_; refine Tl ?_; refine L_one (Rd.own m1) (ty rfl) ?_; refine Tlen ?_; refine Tc ?_; refine On ?_; refine Wc ?_ ?_ <;> intro c3_1 <;> (first | simp [*] at c3_1; done | try simp at c3_1); refine WP_exit ?_; refine then_e ?_; refine roundF_e ?_; refine block_e ?_; refine then_n ?_; refine Wr ?_; refine Tm ?_; refine On ?_; refine WP_ret ?_))
    · refine pret (.inl rfl) rfl ⟨_, _, rfl, rfl, rfl⟩ ?_
      have : g = k := by rw [List.take_of_length_le (Nat.le_refl _), List.take_of_length_le (by omega)] at ht; exact ht
      simp [resOf, this]
theorem refCmp16_s (h : Frag) (a b : ID) : PSpec Tryz.prog 125 #[.agg (idc a).toArray, .agg (idc b).toArray] h (fun _ v => v = .int .i64 (cmpID a b)) := by
  obtain ⟨a1, a2⟩ := a
  obtain ⟨b1, b2⟩ := b
  refine pspec_of (vs := [.agg (idc (a1, a2)).toArray, .agg (idc (b1, b2)).toArray]) Tryz.func125 Tryz.ntmps125 rfl rfl ?_
  (focus (refine Wr ?_; refine Tbx ?_; intro b0_1; refine Tbx ?_; intro b0_2; refine Tm ?_; refine On ?_; refine WP_seq ?_; refine Wr ?_; refine Tl ?_; refine Lg m1 ?_; refine Tl ?_; refine Lg m0 ?_; refine S_q rfl rfl rfl (Q_eqI eqID rfl rfl rfl rfl rfl) ?_; refine On ?_; refine Wc ?_ ?_ <;> intro c0_3 <;> (first | simp [*] at c0_3; done | try simp at c0_3); (focus (refine Wr ?_; refine Tm ?_; refine On ?_; refine WP_ret ?_; refine then_r ?_)); rotate_left 1; (focus (refine WP_skip ?_; refine then_n ?_; refine WP_seq ?_; refine Wr ?_; refine Tf ?_; refine Tl ?_; refine Lo m1 ?_; refine Tf ?_; refine Tl ?_; refine Lo m0 ?_; refine Tc ?_; refine Tm ?_; refine Ugs ?_ ?_ <;> intro c0_4 <;> (first | simp [*] at c0_4; done | try simp at c0_4); (focus (refine Tn ?_; refine Tn ?_; refine Tn ?_; refine Tn ?_; refine Tn ?_; refine Tn ?_; refine S_gu rfl rfl rfl rfl rfl rfl ?_; refine S_gu rfl rfl rfl rfl rfl rfl ?_; refine S_gu rfl rfl rfl rfl rfl rfl ?_; refine S_gu rfl rfl rfl rfl rfl rfl ?_; refine S_gu rfl rfl rfl rfl rfl rfl ?_; refine Tn ?_; refine Tp1 ?_; refine On ?_; refine cond_t rfl ?_; refine Wr ?_; refine Tm ?_; refine On ?_; refine WP_ret ?_; refine then_r ?_)); rotate_left 1; (focus (refine Ugf ?_; refine Ugl ?_; refine Lo m1 ?_; refine Ugf ?_; refine Ugl ?_; refine Lo m0 ?_; refine Ugc ?_; refine Ugm ?_; refine Ugs ?_ ?_ <;> intro c0_5 <;> (first | simp [*] at c0_5; done | try simp at c0_5); (focus (refine Ugf ?_; refine Ugl ?_; refine Lo m1 ?_; refine Ugf ?_; refine Ugl ?_; refine Lo m0 ?_; refine Ugc ?_; refine S_gq rfl rfl rfl rfl rfl rfl (Q_pick_t rfl rfl rfl) ?_; refine Tp0 ?_; refine On ?_; refine Wc ?_ ?_ <;> intro c0_6 <;> (first | simp [*] at c0_6; done | try simp at c0_6); (focus (refine Wr ?_; refine Tm ?_; refine On ?_; refine WP_ret ?_; refine then_r ?_)); rotate_left 1; (focus (refine WP_skip ?_; refine then_n ?_; refine Wr ?_; refine Tm ?_; refine On ?_; refine WP_ret ?_)); rotate_left 1)); rotate_left 2; (focus (refine Tn ?_; refine Tn ?_; refine Tn ?_; refine Tn ?_; refine Tn ?_; refine S_gq rfl rfl rfl rfl rfl rfl (Q_pick_f rfl rfl rfl) ?_; refine Tp0 ?_; refine On ?_; refine cond_f rfl ?_; refine WP_skip ?_; refine then_n ?_; refine Wr ?_; refine Tm ?_; refine On ?_; refine WP_ret ?_)); rotate_left 1)); rotate_left 3)); rotate_left 4))
  all_goals refine pret (.inl rfl) rfl ⟨_, _, rfl, rfl, rfl⟩ ?_
  all_goals (refine congrArg (Value.int .i64) ?_; simp only [cmpID, orI, cmpI]; grind)
theorem refCmp21_s (h : Frag) (a b : ID) : PSpec Tryz.prog 127 #[.agg (idc a).toArray, .agg (idc b).toArray] h (fun _ v => v = .int .i64 (cmpID a b)) := by
  obtain ⟨a1, a2⟩ := a
  obtain ⟨b1, b2⟩ := b
  refine pspec_of (vs := [.agg (idc (a1, a2)).toArray, .agg (idc (b1, b2)).toArray]) Tryz.func127 Tryz.ntmps127 rfl rfl ?_
  (focus (refine Wr ?_; refine Tbx ?_; intro b0_1; refine Tbx ?_; intro b0_2; refine Tm ?_; refine On ?_; refine WP_seq ?_; refine Wr ?_; refine Tl ?_; refine Lg m1 ?_; refine Tl ?_; refine Lg m0 ?_; refine S_q rfl rfl rfl (Q_eqI eqID rfl rfl rfl rfl rfl) ?_; refine On ?_; refine Wc ?_ ?_ <;> intro c0_3 <;> (first | simp [*] at c0_3; done | try simp at c0_3); (focus (refine Wr ?_; refine Tm ?_; refine On ?_; refine WP_ret ?_; refine then_r ?_)); rotate_left 1; (focus (refine WP_skip ?_; refine then_n ?_; refine WP_seq ?_; refine Wr ?_; refine Tf ?_; refine Tl ?_; refine Lo m1 ?_; refine Tf ?_; refine Tl ?_; refine Lo m0 ?_; refine Tc ?_; refine Tm ?_; refine Ugs ?_ ?_ <;> intro c0_4 <;> (first | simp [*] at c0_4; done | try simp at c0_4); (focus (refine Tn ?_; refine Tn ?_; refine Tn ?_; refine Tn ?_; refine Tn ?_; refine Tn ?_; refine S_gu rfl rfl rfl rfl rfl rfl ?_; refine S_gu rfl rfl rfl rfl rfl rfl ?_; refine S_gu rfl rfl rfl rfl rfl rfl ?_; refine S_gu rfl rfl rfl rfl rfl rfl ?_; refine S_gu rfl rfl rfl rfl rfl rfl ?_; refine Tn ?_; refine Tp1 ?_; refine On ?_; refine cond_t rfl ?_; refine Wr ?_; refine Tm ?_; refine On ?_; refine WP_ret ?_; refine then_r ?_)); rotate_left 1; (focus (refine Ugf ?_; refine Ugl ?_; refine Lo m1 ?_; refine Ugf ?_; refine Ugl ?_; refine Lo m0 ?_; refine Ugc ?_; refine Ugm ?_; refine Ugs ?_ ?_ <;> intro c0_5 <;> (first | simp [*] at c0_5; done | try simp at c0_5); (focus (refine Ugf ?_; refine Ugl ?_; refine Lo m1 ?_; refine Ugf ?_; refine Ugl ?_; refine Lo m0 ?_; refine Ugc ?_; refine S_gq rfl rfl rfl rfl rfl rfl (Q_pick_t rfl rfl rfl) ?_; refine Tp0 ?_; refine On ?_; refine Wc ?_ ?_ <;> intro c0_6 <;> (first | simp [*] at c0_6; done | try simp at c0_6); (focus (refine Wr ?_; refine Tm ?_; refine On ?_; refine WP_ret ?_; refine then_r ?_)); rotate_left 1; (focus (refine WP_skip ?_; refine then_n ?_; refine Wr ?_; refine Tm ?_; refine On ?_; refine WP_ret ?_)); rotate_left 1)); rotate_left 2; (focus (refine Tn ?_; refine Tn ?_; refine Tn ?_; refine Tn ?_; refine Tn ?_; refine S_gq rfl rfl rfl rfl rfl rfl (Q_pick_f rfl rfl rfl) ?_; refine Tp0 ?_; refine On ?_; refine cond_f rfl ?_; refine WP_skip ?_; refine then_n ?_; refine Wr ?_; refine Tm ?_; refine On ?_; refine WP_ret ?_)); rotate_left 1)); rotate_left 3)); rotate_left 4))
  all_goals refine pret (.inl rfl) rfl ⟨_, _, rfl, rfl, rfl⟩ ?_
  all_goals (refine congrArg (Value.int .i64) ?_; simp only [cmpID, orI, cmpI]; grind)
end Go.Proofs.YtfhoecgiahpddaaGreat
/-
  CONTRACTS: the way to an object (Follow).
-/
set_option linter.all false
namespace Go.Proofs.YtfhoecgiahpddaaGreat
open Go.Mesh Go.RowKit
set_option maxRecDepth 100000
set_option linter.unusedVariables false
set_option maxHeartbeats 4000000
attribute [local irreducible] WP OPS ANY ANYo LG LV FSpec PSpec QOP OPc OPw thenQ blockQ roundQ roundF retQ retM Rd At SLB OS cmpI orI cmpID namedB valB nodeB kindB validG valAux idxI findG zeroV viewOf vwAt idxOf recv flyB scionOf moveOf numberedOf idOf valueOf mget mput localB carriedB
theorem nodup_sub : ∀ (l r : List Int), l.Nodup → (∀ x, x ∈ l → x ∈ r) → l.length ≤ r.length
  | [], _, _, _ => by simp
  | x :: l, r, hn, hs => by
    rw [List.nodup_cons] at hn
    have hx := hs x (by simp)
    have := nodup_sub l (r.erase x) hn.2 (fun y hy => (List.mem_erase_of_ne (fun e : y = x => hn.1 (by rw [← e]; exact hy))).2 (hs y (by simp [hy])))
    have hl := List.length_erase_of_mem hx
    have : 0 < r.length := List.length_pos_of_mem hx
    simp; omega
theorem viewOf_mem {vs : List View} {m : Int} (h : (viewOf vs m).isSome = true) : m ∈ vs.map (·.machine) := by
  obtain ⟨v, hv⟩ := Option.isSome_iff_exists.1 h
  unfold viewOf at hv
  have h1 := List.mem_of_find?_eq_some hv
  have h2 := List.find?_some hv
  simp only [decide_eq_true_eq] at h2
  exact List.mem_map.2 ⟨v, h1, h2⟩
def stubOf (v : View) (id : ID) : Option StubE := v.stubs.find? fun e => decide (e.id = id) && !e.dead
def followF (vs : List View) (id : ID) : Nat → Int → List Int → List Int × Int
  | 0, _, _ => ([], 11)
  | n + 1, m, out =>
    if (viewOf vs m).isSome = false ∨ (localB (vwAt vs m) id = false ∧ (stubOf (vwAt vs m) id).isSome = false) then (if out = [] then ([], 6) else ([], 11))
    else if m ∈ out then ([], 11)
    else if localB (vwAt vs m) id then (out ++ [m], 0)
    else match stubOf (vwAt vs m) id with
      | none => ([], 11)
      | some s => match scionOf vs s.owner m s.number with
        | some e => if e.id = id then followF vs id n s.owner (out ++ [m]) else ([], 11)
        | none => if carriedB vs m s.owner id s.number then ((out ++ [m]) ++ [s.owner], 0) else ([], 11)
def followOf (vs : List View) (m : Int) (id : ID) : List Int × Int := followF vs id (vs.length + 1) m []
attribute [local irreducible] stubOf followF followOf
theorem follow_s {h : Frag} {a : Value} {vs : List View} {mm : Int} {id : ID} (hs : SL h 13 (ViewC 4398046511104) a vs) (hsm : vs.length ≤ 1000) : PSpec Tryz.prog 21 #[a, .int .i64 mm, .agg (idc id).toArray] h
    (fun h' v => ∃ p c, v = .tuple #[.slice p (followOf vs mm id).1.length c, .int .i64 (followOf vs mm id).2] ∧ SL h' 1 IntC (.slice p (followOf vs mm id).1.length c) (followOf vs mm id).1) := by
  have hl := hs.le
  refine pspec_of (vs := [a, .int .i64 mm, .agg (idc id).toArray]) Tryz.func21 Tryz.ntmps21 rfl rfl ?_
  (focus (refine Wr ?_; refine Tbx ?_; intro b0_1; refine Tm ?_; refine Tm ?_; refine On ?_; refine Wr ?_; refine Tm ?_; refine S_c rfl rfl rfl (C_call (of_s ‹_›) rfl rfl ⟨_, _, rfl, rfl, rfl⟩ (cal rfl) ?_); rintro h0_2 _ l0_2 ⟨pf0_2, qf0_2, mb0_2, rfl, ff0_2⟩; replace hs := hs.up l0_2; refine Tal ?_; intro b0_3; refine Tw u0 ?_; refine On ?_; refine Wr ?_; refine Tm ?_; refine On ?_; refine WP_block ?_))
  (focus (refine WP_keepM [] [_] _ rfl ?_; rintro h1_k l1_k k1_k; have a1_k := at_of_keep k1_k; clear k1_k; replace ff0_2 := ff0_2.up l1_k; replace hs := hs.up l1_k))
  (focus (refine WP_keepM [] [_] _ rfl ?_; rintro h2_k l2_k k2_k; have a2_k := at_of_keep k2_k; clear k2_k; replace a1_k := a1_k.up l2_k; replace ff0_2 := ff0_2.up l2_k; replace hs := hs.up l2_k))
  (refine WP_loopM (α := Int × List Int × Value × Hp) []  _ [8, 5] (fun (s : Int × List Int × Value × Hp) => vs.length + 1 - s.2.1.length) (fun (s : Int × List Int × Value × Hp) =>  s.2.2.2) (fun (s : Int × List Int × Value × Hp) => [(1, .int .i64 s.1), (9, s.2.2.1)]) (fun hh (s : Int × List Int × Value × Hp) => hh = h2_k ∧ OS hh 3 1 IntC s.2.2.1 s.2.1 s.2.2.2 ∧ s.2.1.Nodup ∧ (∀ x, x ∈ s.2.1 → (viewOf vs x).isSome = true) ∧ followF vs id (vs.length + 1 - s.2.1.length) s.1 s.2.1 = followOf vs mm id) (mm, [], .slice none 0 0, []) rfl ⟨_, _, rfl, ⟨_, _, rfl, rfl, rfl⟩, rfl⟩ (by repeat' first | exact trivial | refine ⟨rfl, ?_⟩) ?_ ?_)
  · exact ⟨rfl, OS.nil _ _ _ _, List.nodup_nil, fun x hx => by simp at hx, by rw [followOf]; rfl⟩
  rintro h1 ⟨m, out, sv, M⟩ _ ⟨rfl, hos, hnd, hvw, hfo⟩
  simp only at hos hnd hvw hfo
  have hol : out.length ≤ vs.length := by
    have := nodup_sub out (vs.map (·.machine)) hnd (fun x hx => viewOf_mem (hvw x hx))
    simpa using this
  obtain ⟨n, hn⟩ : ∃ n, vs.length + 1 - out.length = n + 1 := ⟨vs.length - out.length, by omega⟩
  rw [hn, followF] at hfo
  dsimp only
  (focus (refine WP_block ?_; refine Wr ?_; refine Tl ?_; refine Lp ?_; refine Tm ?_; refine S_c rfl rfl rfl (C_call0 (view_s ‹_›) rfl rfl ⟨_, _, rfl, ⟨_, _, rfl, rfl, rfl⟩, rfl⟩ (cal rfl) ?_); rintro _ ⟨cv4_1, rfl, cl4_1, co4_1, ⟨xi4_1, xa4_1, po4_1, qo4_1, ps4_1, qs4_1, pc4_1, qc4_1, pn4_1, qn4_1, pm4_1, qm4_1, xw4_1, xv4_1, pf4_1, qf4_1, pr4_1, qr4_1, xe4_1, xf4_1, rfl, vo4_1, vs4_1, vc4_1, vn4_1, vm4_1, vf4_1, vr4_1⟩⟩; refine Tm ?_; refine Tx ?_; refine Tx ?_; refine Tal ?_; intro b4_2; refine Tw u0 ?_; refine Tm ?_; refine On ?_; refine Wr ?_; refine Tl ?_; refine Lg m0 ?_; refine Tl ?_; refine Lp ?_; refine S_c rfl rfl rfl (C_callv (local_s ⟨by assumption, _, _, _, _, _, _, _, _, _, _, _, _, _, _, _, _, _, _, _, rfl, by assumption, by assumption, by assumption, by assumption, by assumption, by assumption, by assumption⟩) rfl rfl ⟨_, _, rfl, ⟨_, _, rfl, rfl, rfl⟩, rfl⟩ (cal rfl) ?_); refine Tm ?_; refine On ?_; refine Wr ?_; refine Tf ?_; refine Tl ?_; refine Lo m0 ?_; refine S_q rfl rfl rfl (Q_makeFunc rfl rfl ⟨_, _, rfl, rfl, rfl⟩) ?_))
  refine S_c rfl rfl rfl (C_callv (idxStub_s (cap := [ptr b0_1 0]) vs4_1 (cal rfl) (fun x us _ _ hx => stub1_s a2_k hx)) rfl rfl ⟨_, _, rfl, ⟨_, _, rfl, rfl, rfl⟩, rfl⟩ (cal rfl) ?_)
  cases hi : (vwAt vs m).stubs.findIdx? (fun e => decide (e.id = id) && !e.dead) with
  | none =>
    have hst : stubOf (vwAt vs m) id = none := by rw [stubOf]; exact findIdx_none hi
    simp only [idxI]
    (focus (refine Tm ?_; refine On ?_; refine WP_seq ?_; refine WP_block ?_; refine Wr ?_; refine Tm ?_; refine S_q rfl rfl rfl (Q_not rfl rfl) ?_; refine Tm ?_; refine Ugs ?_ ?_ <;> intro c5_1 <;> (first | simp [*] at c5_1; done | try simp at c5_1); (focus (refine Tn ?_; refine Tn ?_; refine Tn ?_; refine S_gu rfl rfl rfl rfl rfl rfl ?_; refine S_gu rfl rfl rfl rfl rfl rfl ?_; refine Tn ?_; refine Tp1 ?_; refine Tm ?_; refine Ugm ?_; refine S_gq rfl rfl rfl rfl rfl rfl (Q_lenO rfl rfl rfl rfl rfl rfl ‹_›) ?_; refine Ugc ?_; refine Tp1 ?_; refine Tm ?_; refine On ?_; refine Wc ?_ ?_ <;> intro c5_2 <;> (first | simp [*] at c5_2; done | try simp at c5_2); (focus (refine Wr ?_; refine Tm ?_; refine Tm ?_; refine On ?_; refine WP_ret ?_; refine block_r ?_; refine then_r ?_; refine block_r ?_; refine roundF_r ?_; refine block_r ?_)); rotate_left 1; (focus (refine WP_seq ?_; refine Wr ?_; refine Tm ?_; refine S_q rfl rfl rfl (Q_not rfl rfl) ?_; refine Tm ?_; refine On ?_; refine Wc ?_ ?_ <;> intro c5_3 <;> (first | simp [*] at c5_3; done | try simp at c5_3); refine WP_skip ?_; refine then_n ?_; refine Wc ?_ ?_ <;> intro c5_4 <;> (first | simp [*] at c5_4; done | try simp at c5_4); refine Wr ?_; refine Tm ?_; refine Tm ?_; refine On ?_; refine WP_ret ?_; refine block_r ?_; refine then_r ?_; refine block_r ?_; refine roundF_r ?_; refine block_r ?_)); rotate_left 1)); rotate_left 2; (focus (refine Ugm ?_; refine S_gq rfl rfl rfl rfl rfl rfl (Q_not rfl rfl) ?_; refine Ugm ?_; refine Ugs ?_ ?_ <;> intro c5_5 <;> (first | simp [*] at c5_5; done | try simp at c5_5); (focus (refine Ugm ?_; refine Ugc ?_; refine S_gq rfl rfl rfl rfl rfl rfl (Q_pick_t rfl rfl rfl) ?_; refine Tp0 ?_; refine Tm ?_; refine Ugs ?_ ?_ <;> intro c5_6 <;> (first | simp [*] at c5_6; done | try simp at c5_6); refine Ugm ?_; refine S_gq rfl rfl rfl rfl rfl rfl (Q_lenO rfl rfl rfl rfl rfl rfl ‹_›) ?_; refine Ugc ?_; refine Tp1 ?_; refine Tm ?_; refine On ?_; refine Wc ?_ ?_ <;> intro c5_7 <;> (first | simp [*] at c5_7; done | try simp at c5_7); (focus (refine Wr ?_; refine Tm ?_; refine Tm ?_; refine On ?_; refine WP_ret ?_; refine block_r ?_; refine then_r ?_; refine block_r ?_; refine roundF_r ?_; refine block_r ?_)); rotate_left 1; (focus (refine WP_seq ?_; refine Wr ?_; refine Tm ?_; refine S_q rfl rfl rfl (Q_not rfl rfl) ?_; refine Tm ?_; refine On ?_; refine Wc ?_ ?_ <;> intro c5_8 <;> (first | simp [*] at c5_8; done | try simp at c5_8); refine Wr ?_; refine Tm ?_; refine S_q rfl rfl rfl (Q_not rfl rfl) ?_; refine Tm ?_; refine Ugs ?_ ?_ <;> intro c5_9 <;> (first | simp [*] at c5_9; done | try simp at c5_9); refine Ugm ?_; refine Ugc ?_; refine Tp1 ?_; refine Tm ?_; refine On ?_; refine cond_t rfl ?_; refine WP_skip ?_; refine then_n ?_; refine cond_t rfl ?_; refine Wr ?_; refine Tm ?_; refine Tm ?_; refine On ?_; refine WP_ret ?_; refine block_r ?_; refine then_r ?_; refine block_r ?_; refine roundF_r ?_; refine block_r ?_)); rotate_left 1)); rotate_left 2; (focus (refine Tn ?_; refine Tn ?_; refine S_gq rfl rfl rfl rfl rfl rfl (Q_pick_f rfl rfl rfl) ?_; refine Tp0 ?_; refine Tm ?_; refine Tn ?_; refine Tn ?_; refine Tn ?_; refine Tp0 ?_; refine Tm ?_; refine On ?_; refine cond_f rfl ?_; refine WP_seq ?_; refine Wr ?_; refine Tm ?_; refine S_q rfl rfl rfl (Q_not rfl rfl) ?_; refine Tm ?_; refine On ?_; refine Wc ?_ ?_ <;> intro c5_10 <;> (first | simp [*] at c5_10; done | try simp at c5_10); refine Wr ?_; refine Tm ?_; refine S_q rfl rfl rfl (Q_not rfl rfl) ?_; refine Tm ?_; refine Ugs ?_ ?_ <;> intro c5_11 <;> (first | simp [*] at c5_11; done | try simp at c5_11); refine Tn ?_; refine Tn ?_; refine Tp0 ?_; refine Tm ?_; refine On ?_; refine cond_f rfl ?_; refine R_region ?_; refine Tm ?_; refine Tm ?_)); rotate_left 1)); rotate_left 3))
    iterate 4
      · refine pret (.inl rfl) rfl ⟨_, _, rfl, ⟨_, _, rfl, rfl, rfl⟩, rfl⟩ ?_
        first
          | (have hres : followOf vs mm id = ([], 6) := by rw [← hfo]; simp [*]
             rw [hres]; exact ⟨_, _, rfl, SLB.nil _ _ _ _ _ _⟩)
          | (have hres : followOf vs mm id = ([], 11) := by rw [← hfo]; simp [*]
             rw [hres]; exact ⟨_, _, rfl, SLB.nil _ _ _ _ _ _⟩)
    refine S_w rfl rfl rfl (W_callBv (M := M) [_] _ (fun h' hl' hm => containsInt_s (x := m) (hos.sl hl' IntC_mono hm (by omega))) rfl rfl ⟨_, _, rfl, ⟨_, _, rfl, rfl, rfl⟩, rfl⟩ (cal rfl) rfl ?_)
    (focus (refine Tm ?_; refine On ?_; refine Wc ?_ ?_ <;> intro c6_1 <;> (first | simp [*] at c6_1; done | try simp at c6_1); (focus (refine Wr ?_; refine Tm ?_; refine Tm ?_; refine On ?_; refine WP_ret ?_; refine block_r ?_; refine then_r ?_; refine block_r ?_; refine roundF_r ?_; refine block_r ?_)); rotate_left 1; (focus (refine WP_skip ?_; refine block_n ?_; refine then_n ?_; refine Wr ?_; refine Tm ?_; refine Tm ?_; refine S_c rfl rfl rfl (C_buildSlice rfl (elm rfl) (zer rfl) rfl ⟨_, _, _, rfl, rfl, rfl, rfl, rfl, rfl⟩ rfl rfl ?_); intro b6_2; refine S_w rfl rfl rfl (W_app1 [_] _ ‹_› rfl rfl rfl rfl rfl rfl (elm rfl) (zer rfl) rfl rfl rfl rfl rfl (by (try simp only [lA]); omega) (by (try simp only [lA]); omega) ?_); rintro p6_3 q6_3 m6_3 o6_3; refine Tm ?_; refine On ?_; refine WP_seq ?_; refine Wr ?_; refine Tm ?_; refine On ?_; refine Wc ?_ ?_ <;> intro c6_4 <;> (first | simp [*] at c6_4; done | try simp at c6_4); refine Wr ?_; refine Tm ?_; refine Tm ?_; refine Tm ?_; refine On ?_; refine WP_ret ?_; refine then_r ?_; refine block_r ?_; refine roundF_r ?_; refine block_r ?_)); rotate_left 1))
    · refine pret (.inl rfl) rfl ⟨_, _, rfl, ⟨_, _, rfl, rfl, rfl⟩, rfl⟩ ?_
      have hres : followOf vs mm id = ([], 11) := by rw [← hfo]; simp [*]
      rw [hres]; exact ⟨_, _, rfl, SLB.nil _ _ _ _ _ _⟩
    · have hres : followOf vs mm id = (out ++ [m], 0) := by rw [← hfo]; simp [*]
      refine pretKM [_] m6_3 _ rfl (.inl rfl) rfl ⟨_, _, rfl, ⟨_, _, rfl, rfl, rfl⟩, rfl⟩ fun h' hl' hm => ?_
      rw [hres]; exact ⟨_, _, rfl, o6_3.sl hl' IntC_mono hm (by simp; omega)⟩
  | some k =>
    obtain ⟨st, est, hst⟩ := findIdx_find hi
    have hst : stubOf (vwAt vs m) id = some st := by rw [stubOf]; exact hst
    simp only [idxI]
    (focus (refine Tm ?_; refine On ?_; refine WP_seq ?_; refine WP_block ?_; refine Wr ?_; refine Tm ?_; refine S_q rfl rfl rfl (Q_not rfl rfl) ?_; refine Tm ?_; refine Ugs ?_ ?_ <;> intro c7_1 <;> (first | simp [*] at c7_1; done | try simp at c7_1); (focus (refine Tn ?_; refine Tn ?_; refine Tn ?_; refine S_gu rfl rfl rfl rfl rfl rfl ?_; refine S_gu rfl rfl rfl rfl rfl rfl ?_; refine Tn ?_; refine Tp1 ?_; refine Tm ?_; refine Ugm ?_; refine S_gq rfl rfl rfl rfl rfl rfl (Q_lenO rfl rfl rfl rfl rfl rfl ‹_›) ?_; refine Ugc ?_; refine Tp1 ?_; refine Tm ?_; refine On ?_; refine Wc ?_ ?_ <;> intro c7_2 <;> (first | simp [*] at c7_2; done | try simp at c7_2); (focus (refine Wr ?_; refine Tm ?_; refine Tm ?_; refine On ?_; refine WP_ret ?_; refine block_r ?_; refine then_r ?_; refine block_r ?_; refine roundF_r ?_; refine block_r ?_)); rotate_left 1; (focus (refine WP_seq ?_; refine Wr ?_; refine Tm ?_; refine S_q rfl rfl rfl (Q_not rfl rfl) ?_; refine Tm ?_; refine On ?_; refine Wc ?_ ?_ <;> intro c7_3 <;> (first | simp [*] at c7_3; done | try simp at c7_3); refine WP_skip ?_; refine then_n ?_; refine Wc ?_ ?_ <;> intro c7_4 <;> (first | simp [*] at c7_4; done | try simp at c7_4); refine Wr ?_; refine Tm ?_; refine Tm ?_; refine On ?_; refine WP_ret ?_; refine block_r ?_; refine then_r ?_; refine block_r ?_; refine roundF_r ?_; refine block_r ?_)); rotate_left 1)); rotate_left 2; (focus (refine Ugm ?_; refine S_gq rfl rfl rfl rfl rfl rfl (Q_not rfl rfl) ?_; refine Ugm ?_; refine Ugs ?_ ?_ <;> intro c7_5 <;> (first | simp [*] at c7_5; done | try simp at c7_5); (focus (refine Ugm ?_; refine Ugc ?_; refine S_gq rfl rfl rfl rfl rfl rfl (Q_pick_t rfl rfl rfl) ?_; refine Tp0 ?_; refine Tm ?_; refine Ugs ?_ ?_ <;> intro c7_6 <;> (first | simp [*] at c7_6; done | try simp at c7_6); (focus (exfalso; omega)); (focus (refine Tn ?_; refine Tn ?_; refine Tn ?_; refine Tp0 ?_; refine Tm ?_; refine On ?_; refine cond_f rfl ?_; refine WP_seq ?_; refine Wr ?_; refine Tm ?_; refine S_q rfl rfl rfl (Q_not rfl rfl) ?_; refine Tm ?_; refine On ?_; refine Wc ?_ ?_ <;> intro c7_7 <;> (first | simp [*] at c7_7; done | try simp at c7_7); refine Wr ?_; refine Tm ?_; refine S_q rfl rfl rfl (Q_not rfl rfl) ?_; refine Tm ?_; refine Ugs ?_ ?_ <;> intro c7_8 <;> (first | simp [*] at c7_8; done | try simp at c7_8); refine Ugm ?_; refine Ugc ?_; refine Tp1 ?_; refine Tm ?_; refine On ?_; refine cond_f rfl ?_; refine R_region ?_; refine Tm ?_; refine Tm ?_)); rotate_left 1)); rotate_left 1; (focus (refine Tn ?_; refine Tn ?_; refine S_gq rfl rfl rfl rfl rfl rfl (Q_pick_f rfl rfl rfl) ?_; refine Tp0 ?_; refine Tm ?_; refine Tn ?_; refine Tn ?_; refine Tn ?_; refine Tp0 ?_; refine Tm ?_; refine On ?_; refine cond_f rfl ?_; refine WP_seq ?_; refine Wr ?_; refine Tm ?_; refine S_q rfl rfl rfl (Q_not rfl rfl) ?_; refine Tm ?_; refine On ?_; refine Wc ?_ ?_ <;> intro c7_9 <;> (first | simp [*] at c7_9; done | try simp at c7_9); refine Wr ?_; refine Tm ?_; refine S_q rfl rfl rfl (Q_not rfl rfl) ?_; refine Tm ?_; refine Ugs ?_ ?_ <;> intro c7_10 <;> (first | simp [*] at c7_10; done | try simp at c7_10); refine Tn ?_; refine Tn ?_; refine Tp0 ?_; refine Tm ?_; refine On ?_; refine cond_f rfl ?_; refine R_region ?_; refine Tm ?_; refine Tm ?_)); rotate_left 1)); rotate_left 2))
    iterate 2
      · refine pret (.inl rfl) rfl ⟨_, _, rfl, ⟨_, _, rfl, rfl, rfl⟩, rfl⟩ ?_
        first
          | (have hres : followOf vs mm id = ([], 6) := by rw [← hfo]; simp [*]
             rw [hres]; exact ⟨_, _, rfl, SLB.nil _ _ _ _ _ _⟩)
          | (have hres : followOf vs mm id = ([], 11) := by rw [← hfo]; simp [*]
             rw [hres]; exact ⟨_, _, rfl, SLB.nil _ _ _ _ _ _⟩)
    · refine S_w rfl rfl rfl (W_callBv (M := M) [_] _ (fun h' hl' hm => containsInt_s (x := m) (hos.sl hl' IntC_mono hm (by omega))) rfl rfl ⟨_, _, rfl, ⟨_, _, rfl, rfl, rfl⟩, rfl⟩ (cal rfl) rfl ?_)
      (focus (refine Tm ?_; refine On ?_; refine Wc ?_ ?_ <;> intro c8_1 <;> (first | simp [*] at c8_1; done | try simp at c8_1); (focus (refine Wr ?_; refine Tm ?_; refine Tm ?_; refine On ?_; refine WP_ret ?_; refine block_r ?_; refine then_r ?_; refine block_r ?_; refine roundF_r ?_; refine block_r ?_)); rotate_left 1; (focus (refine WP_skip ?_; refine block_n ?_; refine then_n ?_; refine Wr ?_; refine Tm ?_; refine Tm ?_; refine S_c rfl rfl rfl (C_buildSlice rfl (elm rfl) (zer rfl) rfl ⟨_, _, _, rfl, rfl, rfl, rfl, rfl, rfl⟩ rfl rfl ?_); intro b8_2; refine S_w rfl rfl rfl (W_app1 [_] _ ‹_› rfl rfl rfl rfl rfl rfl (elm rfl) (zer rfl) rfl rfl rfl rfl rfl (by (try simp only [lA]); omega) (by (try simp only [lA]); omega) ?_); rintro p8_3 q8_3 m8_3 o8_3; refine Tm ?_; refine On ?_; refine WP_seq ?_; refine Wr ?_; refine Tm ?_; refine On ?_; refine Wc ?_ ?_ <;> intro c8_4 <;> (first | simp [*] at c8_4; done | try simp at c8_4); refine WP_skip ?_; refine then_n ?_; refine Wr ?_; refine Tf ?_; refine Tl ?_; refine Lo m0 ?_; refine Tm ?_; refine Ti ?_; refine Tl ?_; refine Le ?_; rintro _ _ _ ⟨xa8_5, xb8_5, xc8_5, xd8_5, xe8_5, xf8_5, rfl⟩; refine Tal ?_; intro b8_6; refine Tw u0 ?_; refine On ?_; refine Wr ?_; refine Tl ?_; refine Lp ?_; refine Tf ?_; refine Tl ?_; refine Lo m0 ?_; refine Tm ?_; refine Tf ?_; refine Tl ?_; refine Lo m0 ?_; refine S_c rfl rfl rfl (C_call0 (scion_s ‹_›) rfl rfl ⟨_, _, rfl, ⟨_, _, rfl, ⟨_, _, rfl, ⟨_, _, rfl, rfl, rfl⟩, rfl⟩, rfl⟩, rfl⟩ (cal rfl) ?_); rintro _ ⟨cv8_7, rfl, cl8_7, co8_7, ⟨xa8_7, xb8_7, xc8_7, xd8_7, xe8_7, xf8_7, xg8_7, xh8_7, rfl⟩⟩; refine Tm ?_; refine Tx ?_; refine Tx ?_; refine Tal ?_; intro b8_8; refine Tw u0 ?_; refine Tm ?_; refine On ?_; refine WP_block ?_; refine Wr ?_; refine Tm ?_; refine Tm ?_; refine Ugs ?_ ?_ <;> intro c8_9 <;> (first | simp [*] at c8_9; done | try simp at c8_9); (focus (refine Ugf ?_; refine Ugl ?_; refine L_sub (Rd.own m0) (ty rfl) rfl ?_; refine Ugl ?_; refine Lp ?_; refine S_gq rfl rfl rfl rfl rfl rfl (Q_eqI eqID rfl rfl rfl rfl rfl) ?_; refine Tp1 ?_; refine Tm ?_; refine On ?_; refine Wc ?_ ?_ <;> intro c8_10 <;> (first | simp [*] at c8_10; done | try simp at c8_10); (focus (refine R_region ?_; refine Tf ?_; refine Tl ?_; refine Lo m1 ?_; refine Tm ?_; refine OPS_nil ?_; refine block_n ?_; refine block_n ?_)); rotate_left 1; (focus (refine Wr ?_; refine Tm ?_; refine S_q rfl rfl rfl (Q_not rfl rfl) ?_; refine Tm ?_; refine Ugs ?_ ?_ <;> intro c8_11 <;> (first | simp [*] at c8_11; done | try simp at c8_11); refine Tn ?_; refine Tn ?_; refine Tn ?_; refine Tn ?_; refine Tn ?_; refine Tn ?_; refine Tn ?_; refine Tn ?_; refine Tp0 ?_; refine Tm ?_; refine On ?_; refine cond_f rfl ?_; refine Wr ?_; refine Tm ?_; refine Tm ?_; refine On ?_; refine WP_ret ?_; refine block_r ?_; refine block_r ?_; refine roundF_r ?_; refine block_r ?_)); rotate_left 1)); rotate_left 2; (focus (refine Tn ?_; refine Tn ?_; refine Tn ?_; refine Tn ?_; refine Tp0 ?_; refine Tm ?_; refine On ?_; refine cond_f rfl ?_; refine Wr ?_; refine Tm ?_; refine S_q rfl rfl rfl (Q_not rfl rfl) ?_; refine Tm ?_; refine Ugs ?_ ?_ <;> intro c8_12 <;> (first | simp [*] at c8_12; done | try simp at c8_12); refine Ugl ?_; refine Lp ?_; refine Ugm ?_; refine Ugf ?_; refine Ugl ?_; refine Lo m1 ?_; refine Ugl ?_; refine Lp ?_; refine Ugf ?_; refine Ugl ?_; refine Lo m1 ?_; refine S_gc rfl rfl rfl rfl rfl rfl (C_callv (carried_s ‹_›) rfl rfl ⟨_, _, rfl, ⟨_, _, rfl, ⟨_, _, rfl, ⟨_, _, rfl, ⟨_, _, rfl, rfl, rfl⟩, rfl⟩, rfl⟩, rfl⟩, rfl⟩ (cal rfl) ?_); refine Tp1 ?_; refine Tm ?_; refine On ?_; refine Wc ?_ ?_ <;> intro c8_13 <;> (first | simp [*] at c8_13; done | try simp at c8_13); (focus (refine Wr ?_; refine Tm ?_; refine Tf ?_; refine Tl ?_; refine Lo m1 ?_; refine S_c rfl rfl rfl (C_buildSlice rfl (elm rfl) (zer rfl) rfl ⟨_, _, _, rfl, rfl, rfl, rfl, rfl, rfl⟩ rfl rfl ?_); intro b8_14; refine S_w rfl rfl rfl (W_app1 [_, _, _] _ ‹_› rfl rfl rfl rfl rfl rfl (elm rfl) (zer rfl) rfl rfl rfl rfl rfl (by (try simp only [lA]); omega) (by (try simp only [lA]); omega) ?_); rintro p8_15 q8_15 m8_15 o8_15; refine Tm ?_; refine Tm ?_; refine On ?_; refine WP_ret ?_; refine block_r ?_; refine block_r ?_; refine roundF_r ?_; refine block_r ?_)); rotate_left 1; (focus (refine Wr ?_; refine Tm ?_; refine Tm ?_; refine On ?_; refine WP_ret ?_; refine block_r ?_; refine block_r ?_; refine roundF_r ?_; refine block_r ?_)); rotate_left 1)); rotate_left 2)); rotate_left 4))
      · refine pret (.inl rfl) rfl ⟨_, _, rfl, ⟨_, _, rfl, rfl, rfl⟩, rfl⟩ ?_
        have hres : followOf vs mm id = ([], 11) := by rw [← hfo]; simp [*]
        rw [hres]; exact ⟨_, _, rfl, SLB.nil _ _ _ _ _ _⟩
      · obtain ⟨e, he⟩ := Option.isSome_iff_exists.1 c8_9
        have hid : e.id = id := by rw [he] at c8_10; exact Prod.ext c8_10.1 c8_10.2
        have hres : followOf vs mm id = followF vs id n st.owner (out ++ [m]) := by rw [← hfo]; simp [*]
        refine roundF_n (st.owner, out ++ [m], .slice p8_3 (out ++ [m]).length q8_3, m8_3) (by simp; omega) ⟨rfl, o8_3, ?_, ?_, ?_⟩ (by repeat' first | exact sR _ | exact sA _ _ | exact sN _ | apply s2 | apply s1) (by repeat' first | exact trivial | refine ⟨rfl, ?_⟩)
        · simp only; rw [List.nodup_append]; exact ⟨hnd, by simp, fun a ha b hb e => by simp at hb; subst hb; subst e; exact c8_1 ha⟩
        · simp only; intro x hx; rcases List.mem_append.1 hx with hx | hx
          · exact hvw x hx
          · simp at hx; subst hx; exact c7_1
        · simp only; rw [hres]; congr 1; simp; omega
      · obtain ⟨e, he⟩ := Option.isSome_iff_exists.1 c8_9
        have hid : ¬ e.id = id := fun e' => by rw [he] at c8_10; exact c8_10 (by rw [← e']; rfl) (by rw [← e']; rfl)
        have hres : followOf vs mm id = ([], 11) := by rw [← hfo]; simp [*]
        refine pret (.inl rfl) rfl ⟨_, _, rfl, ⟨_, _, rfl, rfl, rfl⟩, rfl⟩ ?_
        rw [hres]; exact ⟨_, _, rfl, SLB.nil _ _ _ _ _ _⟩
      · have hres : followOf vs mm id = (out ++ [m] ++ [st.owner], 0) := by rw [← hfo]; simp [*]
        refine pretKM [_, _, _] m8_15 _ rfl (.inl rfl) rfl ⟨_, _, rfl, ⟨_, _, rfl, rfl, rfl⟩, rfl⟩ fun h' hl' hm => ?_
        rw [hres]; exact ⟨_, _, rfl, o8_15.sl hl' IntC_mono hm (by simp; omega)⟩
      · refine pret (.inl rfl) rfl ⟨_, _, rfl, ⟨_, _, rfl, rfl, rfl⟩, rfl⟩ ?_
        have hres : followOf vs mm id = ([], 11) := by rw [← hfo]; simp [*]
        rw [hres]; exact ⟨_, _, rfl, SLB.nil _ _ _ _ _ _⟩
    · refine S_w rfl rfl rfl (W_callBv (M := M) [_] _ (fun h' hl' hm => containsInt_s (x := m) (hos.sl hl' IntC_mono hm (by omega))) rfl rfl ⟨_, _, rfl, ⟨_, _, rfl, rfl, rfl⟩, rfl⟩ (cal rfl) rfl ?_)
      (focus (refine Tm ?_; refine On ?_; refine Wc ?_ ?_ <;> intro c9_1 <;> (first | simp [*] at c9_1; done | try simp at c9_1); (focus (refine Wr ?_; refine Tm ?_; refine Tm ?_; refine On ?_; refine WP_ret ?_; refine block_r ?_; refine then_r ?_; refine block_r ?_; refine roundF_r ?_; refine block_r ?_)); rotate_left 1; (focus (refine WP_skip ?_; refine block_n ?_; refine then_n ?_; refine Wr ?_; refine Tm ?_; refine Tm ?_; refine S_c rfl rfl rfl (C_buildSlice rfl (elm rfl) (zer rfl) rfl ⟨_, _, _, rfl, rfl, rfl, rfl, rfl, rfl⟩ rfl rfl ?_); intro b9_2; refine S_w rfl rfl rfl (W_app1 [_] _ ‹_› rfl rfl rfl rfl rfl rfl (elm rfl) (zer rfl) rfl rfl rfl rfl rfl (by (try simp only [lA]); omega) (by (try simp only [lA]); omega) ?_); rintro p9_3 q9_3 m9_3 o9_3; refine Tm ?_; refine On ?_; refine WP_seq ?_; refine Wr ?_; refine Tm ?_; refine On ?_; refine Wc ?_ ?_ <;> intro c9_4 <;> (first | simp [*] at c9_4; done | try simp at c9_4); refine Wr ?_; refine Tm ?_; refine Tm ?_; refine Tm ?_; refine On ?_; refine WP_ret ?_; refine then_r ?_; refine block_r ?_; refine roundF_r ?_; refine block_r ?_)); rotate_left 1))
      · refine pret (.inl rfl) rfl ⟨_, _, rfl, ⟨_, _, rfl, rfl, rfl⟩, rfl⟩ ?_
        have hres : followOf vs mm id = ([], 11) := by rw [← hfo]; simp [*]
        rw [hres]; exact ⟨_, _, rfl, SLB.nil _ _ _ _ _ _⟩
      · have hres : followOf vs mm id = (out ++ [m], 0) := by rw [← hfo]; simp [*]
        refine pretKM [_] m9_3 _ rfl (.inl rfl) rfl ⟨_, _, rfl, ⟨_, _, rfl, rfl, rfl⟩, rfl⟩ fun h' hl' hm => ?_
        rw [hres]; exact ⟨_, _, rfl, o9_3.sl hl' IntC_mono hm (by simp; omega)⟩
end Go.Proofs.YtfhoecgiahpddaaGreat
