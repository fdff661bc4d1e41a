/-
  Part MAB of the proof's ground: Ops, Rules, Data.
-/
import Derived.IntWalk
import Derived.Laws.StructEq
import Derived.Test.YtcfedojmmfbbeaaGreatDoorMAA
/-
  THE OPERATIONS, one law each, in the logic of the first texts.
-/
set_option linter.all false
namespace Go.Mesh
open Go.RowKit

abbrev cells (l : List Value) (t : TypeId) : Obj := .cells l.toArray t (0, 0)
abbrev ptr (b off : Nat) : Value := .pointer (some ⟨b, off, none⟩)

/-- Is the type an aggregate, and how many cells has it? -/
def tyOf (P : Program) (t : TypeId) : Option (Bool × Nat) :=
  match P.underlying t, P.info? t with
  | some d, some i => some (match d with | .struct _ | .array _ _ => true | _ => false, i.size)
  | _, _ => none
/-- A struct's field: its type, its offset, and that it has cells. -/
def fieldOf (P : Program) (s : TypeId) (f : Nat) : Option (TypeId × Nat) :=
  match P.underlying s with
  | some (.struct fs) => match fs[f]? with
    | some x => match P.info? x.type with
      | some i => if i.size = 0 then none else some (x.type, x.offset)
      | none => none
    | none => none
  | _ => none
/-- A slice type's element: its cells and its bytes. -/
def elemOf? (P : Program) (t : TypeId) : Option (TypeId × Nat × Nat) :=
  match P.underlying t with
  | some (.slice e) => match P.info? e with
    | some i => some (e, i.size, i.bytes)
    | none => none
  | _ => none

section
variable {P : Program} {r : Option Nat} {h : Frag} {L : Hp} {fr : Fr} {o : Oper} {K : OCont} {w : World}

theorem run_isAgg {t : TypeId} {g : Bool} {k : Nat} (ht : tyOf P t = some (g, k)) : (isAgg t).run P w = .ok g w := by
  unfold tyOf at ht
  unfold isAgg underlying
  cases hu : P.underlying t with
  | none => simp [hu] at ht
  | some d =>
    cases hi : P.info? t with
    | none => simp [hu, hi] at ht
    | some i =>
      simp only [hu, hi, Option.some.injEq, Prod.mk.injEq] at ht
      obtain ⟨hg, _⟩ := ht
      subst hg
      cases d <;> simp [hu]
theorem run_sizeOf {t : TypeId} {g : Bool} {k : Nat} (ht : tyOf P t = some (g, k)) : (sizeOf t).run P w = .ok k w := by
  unfold tyOf at ht
  unfold sizeOf typeInfo
  cases hu : P.underlying t with
  | none => simp [hu] at ht
  | some d =>
    cases hi : P.info? t with
    | none => simp [hu, hi] at ht
    | some i =>
      simp only [hu, hi, Option.some.injEq, Prod.mk.injEq] at ht
      obtain ⟨_, hk⟩ := ht
      subst hk
      simp [hi]
theorem run_underlying' {t : TypeId} {d : TypeDesc} (ht : P.underlying t = some d) : (underlying t).run P w = .ok d w := by
  unfold underlying; simp [ht]

theorem Q_move {x : Operand} {v : Value} (hop : o.op = .move x) (hx : ev fr x = some v) : QOP P o fr h L v :=
  ⟨fun c => by rw [hop]; simp, fun a ha w _ => by unfold execOp; rw [hop]; simp [ha x v hx]⟩
theorem Q_assign {x : Operand} {v : Value} (hop : o.op = .assign x) (hx : ev fr x = some v) : QOP P o fr h L v :=
  ⟨fun c => by rw [hop]; simp, fun a ha w _ => by unfold execOp; rw [hop]; simp [ha x v hx]⟩
theorem Q_pick_t {c x y : Operand} {v : Value} (hop : o.op = .pick c x y) (hc : ev fr c = some (.bool true)) (hx : ev fr x = some v) : QOP P o fr h L v :=
  ⟨fun c => by rw [hop]; simp, fun a ha w _ => by unfold execOp; rw [hop]; simp [ha x v hx, ha c _ hc, asBool]⟩
theorem Q_pick_f {c x y : Operand} {v : Value} (hop : o.op = .pick c x y) (hc : ev fr c = some (.bool false)) (hx : ev fr y = some v) : QOP P o fr h L v :=
  ⟨fun c => by rw [hop]; simp, fun a ha w _ => by unfold execOp; rw [hop]; simp [ha y v hx, ha c _ hc, asBool]⟩
theorem Q_not {t : TypeId} {x : Operand} {b : Bool} (hop : o.op = .unOp .not t x) (hx : ev fr x = some (.bool b)) : QOP P o fr h L (.bool (!b)) :=
  ⟨fun c => by rw [hop]; simp, fun a ha w _ => by unfold execOp; rw [hop]; simp [ha x _ hx, Op.unary]⟩
theorem Q_extract {x : Operand} {i : Nat} {vs : Array Value} {v : Value} (hop : o.op = .extract x i) (hx : ev fr x = some (.tuple vs)) (hv : vs[i]? = some v) : QOP P o fr h L v :=
  ⟨fun c => by rw [hop]; simp, fun a ha w _ => by unfold execOp; rw [hop]; simp [ha x _ hx, Instr.extract, hv]⟩
theorem evs_map' {a : Act} (ha : ∀ x u, ev fr x = some u → a.eval x = u) {xs : Array Operand} {vs : List Value} (e : evs fr xs.toList vs) : xs.map a.eval = vs.toArray := by
  rw [← evs_map ha e]
  exact Array.toList_inj.1 (by simp)
theorem Q_makeFunc {fn : Fn} {xs ys : Array Operand} {us vs : List Value} (hop : o.op = .makeFunc fn xs ys) (hx : evs fr xs.toList us) (hy : evs fr ys.toList vs) : QOP P o fr h L (.func fn us.toArray vs.toArray) :=
  ⟨fun c => by rw [hop]; simp, fun a ha w _ => by unfold execOp; rw [hop]; simp only [evs_map' ha hx, evs_map' ha hy, Instr.makeFunc]; simp⟩

/-! ### Whole numbers -/
def cmpV : BinOp → Int → Int → Option Value
  | .lss, m, n => some (.bool (decide (m < n)))
  | .leq, m, n => some (.bool (decide (m ≤ n)))
  | .gtr, m, n => some (.bool (decide (m > n)))
  | .geq, m, n => some (.bool (decide (m ≥ n)))
  | .eql, m, n => some (.bool (m == n))
  | .neq, m, n => some (.bool (m != n))
  | _, _, _ => none
def arV (k : IntKind) : BinOp → Int → Int → Option Int
  | .add, m, n => some (k.wrap (m + n))
  | .sub, m, n => some (k.wrap (m - n))
  | .mul, m, n => some (k.wrap (m * n))
  | _, _, _ => none
theorem Q_cmp {op : BinOp} {t u : TypeId} {x y : Operand} {k : IntKind} {m n : Int} {v : Value} (hop : o.op = .binOp op t x y u) (hx : ev fr x = some (.int k m)) (hy : ev fr y = some (.int k n))
    (hv : cmpV op m n = some v) : QOP P o fr h L v :=
  ⟨fun c => by rw [hop]; simp, fun a ha w _ => by
    unfold execOp; rw [hop]
    simp only [ha x _ hx, ha y _ hy, eqGuard, binOp]
    cases op <;> simp [cmpV] at hv <;> subst hv <;> simp [Op.intCmp]⟩
theorem Q_arith {op : BinOp} {t u : TypeId} {x y : Operand} {k : IntKind} {m n q : Int} (hop : o.op = .binOp op t x y u) (hx : ev fr x = some (.int k m)) (hy : ev fr y = some (.int k n))
    (hv : arV k op m n = some q) : QOP P o fr h L (.int k q) :=
  ⟨fun c => by rw [hop]; simp, fun a ha w _ => by
    unfold execOp; rw [hop]
    simp only [ha x _ hx, ha y _ hy, eqGuard, binOp]
    cases op <;> simp [arV] at hv <;> subst hv <;> simp [Op.intArith]⟩
theorem Q_add {t u : TypeId} {x y : Operand} {m n : Int} (hop : o.op = .binOp .add t x y u) (hx : ev fr x = some (.int .i64 m)) (hy : ev fr y = some (.int .i64 n))
    (hv : -9223372036854775808 ≤ m + n ∧ m + n ≤ 9223372036854775807) : QOP P o fr h L (.int .i64 (m + n)) :=
  Q_arith (op := .add) hop hx hy (by simp only [arV]; rw [IntWalk.i64_in _ hv])
theorem Q_sub {t u : TypeId} {x y : Operand} {m n : Int} (hop : o.op = .binOp .sub t x y u) (hx : ev fr x = some (.int .i64 m)) (hy : ev fr y = some (.int .i64 n))
    (hv : -9223372036854775808 ≤ m - n ∧ m - n ≤ 9223372036854775807) : QOP P o fr h L (.int .i64 (m - n)) :=
  Q_arith (op := .sub) hop hx hy (by simp only [arV]; rw [IntWalk.i64_in _ hv])
theorem run_equal_bool {t : TypeId} (m n : Bool) (ht : P.underlying t = some .bool) : (Op.equal t (.bool m) (.bool n)).run P w = .ok (m == n) w := by
  unfold Op.equal
  rw [show Op.maxDepth = 9999 + 1 from rfl]
  rw [Op.equalIn]
  simp [run_underlying' ht]
theorem Q_beq {t u : TypeId} {x y : Operand} {m n : Bool} (hop : o.op = .binOp .eql t x y u) (hx : ev fr x = some (.bool m)) (hy : ev fr y = some (.bool n)) (ht : P.underlying t = some .bool) : QOP P o fr h L (.bool (m == n)) :=
  ⟨fun c => by rw [hop]; simp, fun a ha w _ => by
    unfold execOp; rw [hop]
    simp only [ha x _ hx, ha y _ hy, eqGuard, binOp, Sem.run_bind, run_equal_bool m n ht]
    simp⟩
theorem Q_bne {t u : TypeId} {x y : Operand} {m n : Bool} (hop : o.op = .binOp .neq t x y u) (hx : ev fr x = some (.bool m)) (hy : ev fr y = some (.bool n)) (ht : P.underlying t = some .bool) : QOP P o fr h L (.bool (!(m == n))) :=
  ⟨fun c => by rw [hop]; simp, fun a ha w _ => by
    unfold execOp; rw [hop]
    simp only [ha x _ hx, ha y _ hy, eqGuard, binOp, Sem.run_bind, run_equal_bool m n ht]
    simp⟩

/-! ### Memory -/
/-- The cells vs lie from (b, off) on: in a block that nobody writes, or in an owned one. -/
def Rd (h : Frag) (L : Hp) (b off : Nat) (vs : List Value) : Prop :=
  ∃ arr t fz, (h b = some (.cells arr t fz) ∨ (b, Obj.cells arr t fz) ∈ L) ∧ ∀ (j : Nat) (v : Value), vs[j]? = some v → arr[off + j]? = some v
def At (h : Frag) (b off : Nat) (vs : List Value) : Prop :=
  ∃ arr t fz, h b = some (.cells arr t fz) ∧ ∀ (j : Nat) (v : Value), vs[j]? = some v → arr[off + j]? = some v
theorem At.mono {h' : Frag} {b off : Nat} {vs : List Value} (x : At h b off vs) (hl : le h h') : At h' b off vs :=
  let ⟨arr, t, fz, e, g⟩ := x; ⟨arr, t, fz, hl _ _ e, g⟩
theorem Rd.pers {b off : Nat} {vs : List Value} (x : At h b off vs) : Rd h L b off vs :=
  let ⟨arr, t, fz, e, g⟩ := x; ⟨arr, t, fz, .inl e, g⟩
theorem Rd.own {b : Nat} {l : List Value} {t : TypeId} (x : (b, cells l t) ∈ L) : Rd h L b 0 l :=
  ⟨l.toArray, t, (0, 0), .inr x, fun j v e => by simpa using e⟩
theorem Rd.part {b off : Nat} {vs us : List Value} (fo : Nat) (x : Rd h L b off vs) (hu : ∀ j v, us[j]? = some v → vs[fo + j]? = some v) : Rd h L b (off + fo) us :=
  let ⟨arr, t, fz, e, g⟩ := x; ⟨arr, t, fz, e, fun j v ej => by rw [Nat.add_assoc]; exact g _ _ (hu j v ej)⟩
theorem At.part {b off : Nat} {vs us : List Value} (fo : Nat) (x : At h b off vs) (hu : ∀ j v, us[j]? = some v → vs[fo + j]? = some v) : At h b (off + fo) us :=
  let ⟨arr, t, fz, e, g⟩ := x; ⟨arr, t, fz, e, fun j v ej => by rw [Nat.add_assoc]; exact g _ _ (hu j v ej)⟩
theorem take_drop_get {vs : List Value} {fo k j : Nat} {v : Value} (e : ((vs.drop fo).take k)[j]? = some v) : vs[fo + j]? = some v := by
  have hj : j < k := by
    have := (List.getElem?_eq_some_iff.1 e).1
    simp at this; omega
  simpa [List.getElem?_take, hj] using e
theorem Rd.sub {b off : Nat} {vs : List Value} (fo k : Nat) (x : Rd h L b off vs) : Rd h L b (off + fo) ((vs.drop fo).take k) :=
  x.part fo fun _ _ e => take_drop_get e
theorem Rd.one {b off : Nat} {vs : List Value} (fo : Nat) {v : Value} (x : Rd h L b off vs) (hv : vs[fo]? = some v) : Rd h L b (off + fo) [v] :=
  x.part fo fun j u e => by
    cases j with
    | zero => simp at e; subst e; simpa using hv
    | succ j => simp at e

theorem Rd.cell {b off : Nat} {vs : List Value} (x : Rd h L b off vs) (hw : Sees h L w) {j : Nat} {v : Value} (e : vs[j]? = some v) : w.cell? ⟨b, off + j, none⟩ = some v := by
  obtain ⟨arr, t, fz, hb, g⟩ := x
  have : w.heap[b]? = some (.cells arr t fz) := by
    rcases hb with hb | hb
    · exact hw.pers _ _ hb
    · exact hw.own _ hb
  simp [World.cell?, this, g j v e]
theorem addr_add (b off n : Nat) : (⟨b, off, none⟩ : Addr).add n = ⟨b, off + n, none⟩ := by
  unfold Addr.add
  split
  · rename_i h; subst h; rfl
  · rfl
theorem run_loadCellsFrom {b off : Nat} {vs : List Value} (x : Rd h L b off vs) (hw : Sees h L w) : ∀ (n i : Nat) (acc : Array Value), i + n ≤ vs.length → (loadCellsFrom ⟨b, off, none⟩ i n acc).run P w = .ok (acc ++ ((vs.drop i).take n).toArray) w := by
  intro n
  induction n with
  | zero => intro i acc _; simp [loadCellsFrom]
  | succ n ih =>
    intro i acc hi
    have hlt : i < vs.length := by omega
    have hc := x.cell hw (j := i) (v := vs[i]) (by simp [hlt])
    simp only [loadCellsFrom, Sem.run_bind, run_load, addr_add, hc, Result.andThen_ok]
    rw [ih (i + 1) _ (by omega)]
    congr 1
    rw [List.drop_eq_getElem_cons hlt, List.take_succ_cons]
    simp
theorem run_loadVar_agg {b off : Nat} {vs : List Value} {t : TypeId} {k : Nat} (ht : tyOf P t = some (true, k)) (hk : vs.length = k) (x : Rd h L b off vs) (hw : Sees h L w) :
    (loadVar t ⟨b, off, none⟩).run P w = .ok (.agg vs.toArray) w := by
  unfold loadVar
  simp only [Sem.run_bind, run_isAgg ht, Result.andThen_ok, if_true, run_sizeOf ht, loadCells]
  rw [run_loadCellsFrom x hw k 0 #[] (by omega)]
  simp [← hk]
theorem run_loadVar_one {b off : Nat} {v : Value} {t : TypeId} {k : Nat} (ht : tyOf P t = some (false, k)) (x : Rd h L b off [v]) (hw : Sees h L w) :
    (loadVar t ⟨b, off, none⟩).run P w = .ok v w := by
  unfold loadVar
  have hc := x.cell hw (j := 0) (v := v) rfl
  simp only [Nat.add_zero] at hc
  simp [run_isAgg ht, hc]
theorem Q_load {t : TypeId} {p : Operand} {b off k : Nat} {vs : List Value} (hop : o.op = .load t p) (hp : ev fr p = some (ptr b off)) (x : Rd h L b off vs) (ht : tyOf P t = some (true, k)) (hk : vs.length = k) : QOP P o fr h L (.agg vs.toArray) :=
  ⟨fun c => by rw [hop]; simp, fun a ha w hw => by
    unfold execOp; rw [hop]
    simp [ha p _ hp, Instr.loadAt, Instr.sureAddr, run_loadVar_agg ht hk x hw]⟩
theorem Q_load1 {t : TypeId} {p : Operand} {b off k : Nat} {v : Value} (hop : o.op = .load t p) (hp : ev fr p = some (ptr b off)) (x : Rd h L b off [v]) (ht : tyOf P t = some (false, k)) : QOP P o fr h L v :=
  ⟨fun c => by rw [hop]; simp, fun a ha w hw => by
    unfold execOp; rw [hop]
    simp [ha p _ hp, Instr.loadAt, Instr.sureAddr, run_loadVar_one ht x hw]⟩
theorem Loads_agg {b off k : Nat} {vs : List Value} {t : TypeId} (x : Rd h L b off vs) (ht : tyOf P t = some (true, k)) (hk : vs.length = k) : LoadsAt P h L t (ptr b off) (.agg vs.toArray) :=
  ⟨_, rfl, fun _ hw => run_loadVar_agg ht hk x hw⟩
theorem Loads_one {b off k : Nat} {v : Value} {t : TypeId} (x : Rd h L b off [v]) (ht : tyOf P t = some (false, k)) : LoadsAt P h L t (ptr b off) v :=
  ⟨_, rfl, fun _ hw => run_loadVar_one ht x hw⟩

theorem Q_fieldAddr {s : TypeId} {p : Operand} {f b off ft fo : Nat} (hop : o.op = .fieldAddr s p f) (hp : ev fr p = some (ptr b off)) (hf : fieldOf P s f = some (ft, fo)) : QOP P o fr h L (ptr b (off + fo)) :=
  ⟨fun c => by rw [hop]; simp, fun a ha w hw => by
    unfold execOp; rw [hop]
    unfold fieldOf at hf
    simp only [ha p _ hp]
    cases hu : P.underlying s with
    | none => simp [hu] at hf
    | some d =>
      cases d <;> simp [hu] at hf
      rename_i fs
      cases hfs : fs[f]? with
      | none => simp [hfs] at hf
      | some x =>
        simp only [hfs] at hf
        cases hi : P.info? x.type with
        | none => simp [hi] at hf
        | some i =>
          simp only [hi] at hf
          split at hf
          · cases hf
          · rename_i hne
            cases hf
            simp [Instr.fieldAt, run_underlying' hu, hfs, Instr.sureAddr, fieldPlace, sizeOf, typeInfo, hi, hne, addr_add]⟩
theorem Q_field {s : TypeId} {p : Operand} {f ft fo k : Nat} {l : List Value} (hop : o.op = .field s p f) (hp : ev fr p = some (.agg l.toArray)) (hf : fieldOf P s f = some (ft, fo)) (ht : tyOf P ft = some (true, k)) : QOP P o fr h L (.agg ((l.drop fo).take k).toArray) :=
  ⟨fun c => by rw [hop]; simp, fun a ha w hw => by
    unfold execOp; rw [hop]
    unfold fieldOf at hf
    simp only [ha p _ hp]
    cases hu : P.underlying s with
    | none => simp [hu] at hf
    | some d =>
      cases d <;> simp [hu] at hf
      rename_i fs
      cases hfs : fs[f]? with
      | none => simp [hfs] at hf
      | some x =>
        simp only [hfs] at hf
        cases hi : P.info? x.type with
        | none => simp [hi] at hf
        | some i =>
          simp only [hi] at hf
          split at hf
          · cases hf
          · cases hf
            simp [Instr.field, run_underlying' hu, hfs, part, run_isAgg ht, run_sizeOf ht, asAgg, List.extract_eq_take_drop]⟩
theorem Q_field1 {s : TypeId} {p : Operand} {f ft fo k : Nat} {l : List Value} {v : Value} (hop : o.op = .field s p f) (hp : ev fr p = some (.agg l.toArray)) (hf : fieldOf P s f = some (ft, fo)) (ht : tyOf P ft = some (false, k)) (hv : l[fo]? = some v) : QOP P o fr h L v :=
  ⟨fun c => by rw [hop]; simp, fun a ha w hw => by
    unfold execOp; rw [hop]
    unfold fieldOf at hf
    simp only [ha p _ hp]
    cases hu : P.underlying s with
    | none => simp [hu] at hf
    | some d =>
      cases d <;> simp [hu] at hf
      rename_i fs
      cases hfs : fs[f]? with
      | none => simp [hfs] at hf
      | some x =>
        simp only [hfs] at hf
        cases hi : P.info? x.type with
        | none => simp [hi] at hf
        | some i =>
          simp only [hi] at hf
          split at hf
          · cases hf
          · cases hf
            simp [Instr.field, run_underlying' hu, hfs, part, run_isAgg ht, asAgg, hv]⟩
theorem elemOf?_spec {t e k by_ : Nat} (he : elemOf? P t = some (e, k, by_)) : P.underlying t = some (.slice e) ∧ ∃ i, P.info? e = some i ∧ i.size = k ∧ i.bytes = by_ := by
  unfold elemOf? at he
  cases hu : P.underlying t with
  | none => simp [hu] at he
  | some d =>
    cases d <;> simp [hu] at he
    rename_i e'
    cases hi : P.info? e' with
    | none => simp [hi] at he
    | some i => simp [hi] at he; obtain ⟨rfl, rfl, rfl⟩ := he; exact ⟨rfl, i, hi, rfl, rfl⟩
theorem Q_index {t : TypeId} {s x : Operand} {b off n cap e k by_ j : Nat} {q : IntKind} {i : Int} (hop : o.op = .indexAddr t s x) (hs : ev fr s = some (.slice (some ⟨b, off, none⟩) n cap)) (hx : ev fr x = some (.int q i))
    (he : elemOf? P t = some (e, k, by_)) (hj : i = (j : Int)) (hlt : j < n) : QOP P o fr h L (ptr b (off + j * k)) :=
  ⟨fun c => by rw [hop]; simp, fun a ha w hw => by
    obtain ⟨hu, i0, hi, hk, _⟩ := elemOf?_spec he
    unfold execOp; rw [hop]
    subst hj
    have h1 : (0 : Int) ≤ (j : Int) ∧ (j : Int) < (n : Int) := by omega
    simp [ha s _ hs, ha x _ hx, Instr.indexAt, asIntOf, run_underlying' hu, hlt, sizeOf, typeInfo, hi, hk, addr_add]⟩
theorem Q_len {c : Call} {x : Operand} {t e : TypeId} {p : Option Addr} {n cap : Nat} (hop : o.op = .call c) (hc : c.callee = .builtin .len) (ha : c.args = #[x]) (hat : c.argTypes = #[t]) (hx : ev fr x = some (.slice p n cap)) (ht : P.underlying t = some (.slice e)) : QOP P o fr h L (.int .i64 (n : Int)) :=
  ⟨fun c => by rw [hop]; simp, fun a hal w hw => by
    unfold execOp; rw [hop]
    simp [resolve, hc, ha, hat, invoke, builtin, Builtin.len_, hal x _ hx, run_underlying' ht, goInt]⟩

/-! ### New blocks -/
theorem OPc_new {ob : Obj} (hd : ∀ c, o.op ≠ .defer c)
    (hrun : ∀ a : Act, (∀ x u, ev fr x = some u → a.eval x = u) → ∀ w, Holds h L w → ∃ f : Nat → Value, (execOp a.eval o).run P w = .ok (.value (f w.heap.size)) { w with heap := w.heap.push ob } ∧ K h [(w.heap.size, ob)] (f w.heap.size)) : OPc P r o fr h L K :=
  fun a ha w hw => by
    obtain ⟨f, hr, hk⟩ := hrun a ha w hw
    exact wpIn_of_value hd hr ⟨h, [(w.heap.size, ob)], f w.heap.size, rfl, hk, Ext.alloc hw ob⟩
theorem C_box {t : TypeId} {x : Operand} {l : List Value} (hop : o.op = .box t x) (hx : ev fr x = some (.agg l.toArray)) (k : ∀ b, K h [(b, cells l t)] (ptr b 0)) : OPc P r o fr h L K :=
  OPc_new (ob := cells l t) (fun c => by rw [hop]; simp) fun a ha w _ => ⟨fun b => ptr b 0, by unfold execOp; rw [hop]; simp [ha x _ hx, Instr.box, newVar, newRow, Value.cells], k _⟩
theorem C_box1 {t : TypeId} {x : Operand} {v : Value} (hop : o.op = .box t x) (hx : ev fr x = some v) (hv : v.cells = #[v]) (k : ∀ b, K h [(b, cells [v] t)] (ptr b 0)) : OPc P r o fr h L K :=
  OPc_new (ob := cells [v] t) (fun c => by rw [hop]; simp) fun a ha w _ => ⟨fun b => ptr b 0, by unfold execOp; rw [hop]; simp [ha x _ hx, Instr.box, newVar, newRow, hv], k _⟩
/-- the zero value's cells -/
def zeroOf (P : Program) (t : TypeId) : Option (List Value) :=
  match P.info? t with
  | some i => match i.zero with
    | some z => some z.cells.toList
    | none => none
  | none => none
theorem zeroOf_spec {t : TypeId} {l : List Value} (hz : zeroOf P t = some l) : ∃ i z, P.info? t = some i ∧ i.zero = some z ∧ z.cells = l.toArray := by
  unfold zeroOf at hz
  cases hi : P.info? t with
  | none => simp [hi] at hz
  | some i =>
    cases hz0 : i.zero with
    | none => simp [hi, hz0] at hz
    | some z => simp [hi, hz0] at hz; exact ⟨i, z, rfl, hz0, by rw [← hz]⟩
theorem C_alloc {t : TypeId} {l : List Value} (hop : o.op = .alloc t) (hz : zeroOf P t = some l) (k : ∀ b, K h [(b, cells l t)] (ptr b 0)) : OPc P r o fr h L K := by
  obtain ⟨i, z, hi, hz0, hc⟩ := zeroOf_spec hz
  exact OPc_new (ob := cells l t) (fun c => by rw [hop]; simp) fun a ha w _ => ⟨fun b => ptr b 0, by unfold execOp; rw [hop]; simp [Instr.alloc, zeroValue, typeInfo, hi, hz0, newVar, newRow, hc], k _⟩

/-! ### Stores -/
def ones (l : List Value) : Bool := l.all (·.oneCell')
theorem ones_mem {l : List Value} (h : ones l = true) : ∀ v ∈ l, v.oneCell' = true := fun v hv => by
  unfold ones at h; rw [List.all_eq_true] at h; exact h v hv
theorem ones_append {l m : List Value} (h : ones l = true) (h' : ones m = true) : ones (l ++ m) = true := by simp only [ones, List.all_append, Bool.and_eq_true]; exact ⟨h, h'⟩
theorem ones_sub {l : List Value} (h : ones l = true) (a k : Nat) : ones ((l.drop a).take k) = true := by
  unfold ones at *; rw [List.all_eq_true] at *; exact fun v hv => h v (List.mem_of_mem_drop (List.mem_of_mem_take hv))
def putAt (l : List Value) (off : Nat) (vs : List Value) : List Value := l.take off ++ vs ++ l.drop (off + vs.length)
theorem putAt_length {l : List Value} {off : Nat} {vs : List Value} (hle : off + vs.length ≤ l.length) : (putAt l off vs).length = l.length := by
  simp [putAt]; omega
theorem putAt_cons (l : List Value) (off : Nat) (v : Value) (vs : List Value) (hlt : off < l.length) : putAt l off (v :: vs) = putAt (l.set off v) (off + 1) vs := by
  unfold putAt
  have h1 : (l.set off v).take (off + 1) = l.take off ++ [v] := by
    rw [List.take_succ_eq_append_getElem (by simpa using hlt)]
    simp [List.take_set_of_le]
  have h2 : (l.set off v).drop (off + 1 + vs.length) = l.drop (off + (vs.length + 1)) := by
    rw [List.drop_set_of_lt (by omega)]
    congr 1; omega
  rw [h1, h2]; simp
theorem run_storeCells {b : Nat} {t : TypeId} : ∀ (vs : List Value) (i off : Nat) (l : List Value) (w : World), w.heap[b]? = some (cells l t) → off + i + vs.length ≤ l.length → (∀ v ∈ vs, v.oneCell' = true) →
    ∃ w', (storeCells ⟨b, off, none⟩ vs i).run P w = .ok () w' ∧ w'.heap[b]? = some (cells (putAt l (off + i) vs) t) ∧ (∀ k, k ≠ b → w'.heap[k]? = w.heap[k]?) ∧ w'.heap.size = w.heap.size ∧ w'.os = w.os ∧ w'.tape = w.tape ∧ w'.output = w.output ∧ w'.drawn = w.drawn := by
  intro vs
  induction vs with
  | nil => intro i off l w hb _ _; exact ⟨w, rfl, by simpa [putAt] using hb, fun _ _ => rfl, rfl, rfl, rfl, rfl, rfl⟩
  | cons v vs ih =>
    intro i off l w hb hle h1
    have hlt : off + i < l.length := by simp at hle; omega
    have hcell : w.cell? ⟨b, off + i, none⟩ = some l[off + i] := by simp [World.cell?, hb, hlt]
    have hfz : w.frozen? ⟨b, off + i, none⟩ = false := by simp [World.frozen?, hb]
    let w1 := w.setCell ⟨b, off + i, none⟩ v
    have hw1 : w1.heap[b]? = some (cells (l.set (off + i) v) t) := by
      simp only [w1, World.setCell, Array.getElem?_modify, if_true, hb, Option.map_some]
      simp
    obtain ⟨w', hr, hb', hne, hsz, ho, ht, hp, hdn⟩ := ih (i + 1) off (l.set (off + i) v) w1 hw1 (by simp at hle ⊢; omega) (fun u hu => h1 u (List.mem_cons_of_mem _ hu))
    refine ⟨w', ?_, ?_, fun k hk => ?_, ?_, ho.trans rfl, ht.trans rfl, hp.trans rfl, hdn.trans rfl⟩
    · simp only [storeCells, Sem.run_bind, addr_add, run_store P w _ v .plain (h1 v (by simp)), hcell, hfz, Bool.false_eq_true, if_false, Result.andThen_ok]
      exact hr
    · rw [hb', putAt_cons _ _ _ _ hlt, Nat.add_assoc]
    · rw [hne k hk]
      simp only [w1, World.setCell, Array.getElem?_modify]
      rw [if_neg (by omega)]
    · rw [hsz]; simp [w1, World.setCell]
theorem W_put {t : TypeId} {p x : Operand} {b off k : Nat} {g : Bool} {l vs : List Value} {bt : TypeId} {v : Value} {L' : Hp} (hop : o.op = .store t p x) (hp : ev fr p = some (ptr b off)) (hx : ev fr x = some v) (hv : v.cells = vs.toArray) (ht : tyOf P t = some (g, k)) (hk : vs.length = k)
    (h1 : ones vs = true) (hu : Upd b (cells l bt) (cells (putAt l off vs) bt) L L') (hle : off + vs.length ≤ l.length) (kk : K h L' undef) : OPw P r o fr h L K := by
  intro a ha w hw
  obtain ⟨w', hr, hb', hne, hsz, ho, htp, hpo, hdn⟩ := run_storeCells (P := P) (b := b) (t := bt) vs 0 off l w (hw.sees.own _ hu.mem) (by omega) (ones_mem h1)
  refine wpIn_of_skip (w' := w') (fun c => by rw [hop]; simp) ?_ ⟨h, L', undef, rfl, kk, Ext.set hw hu hb' hne hsz ho htp hpo hdn⟩
  unfold execOp; rw [hop]
  simp [ha p _ hp, ha x _ hx, Instr.storeAt, Instr.sureAddr, storeVar, hv, run_sizeOf ht, hk, hr]
/-- the whole of a block, by an aggregate -/
theorem W_all {t : TypeId} {p x : Operand} {b k : Nat} {l vs : List Value} {bt : TypeId} {L' : Hp} (hop : o.op = .store t p x) (hp : ev fr p = some (ptr b 0)) (hx : ev fr x = some (.agg vs.toArray)) (ht : tyOf P t = some (true, k)) (hu : Upd b (cells l bt) (cells vs bt) L L')
    (hk : vs.length = k) (hl : l.length = k) (h1 : ones vs = true) (kk : K h L' undef) : OPw P r o fr h L K := by
  have e : putAt l 0 vs = vs := by simp [putAt, hk, hl]
  exact W_put (v := .agg vs.toArray) hop hp hx rfl ht hk h1 (by rw [e]; exact hu) (by omega) kk
/-- one cell -/
theorem W_fld {t : TypeId} {p x : Operand} {b fo k : Nat} {l : List Value} {bt : TypeId} {v : Value} {L' : Hp} (hop : o.op = .store t p x) (hp : ev fr p = some (ptr b (0 + fo))) (hx : ev fr x = some v) (ht : tyOf P t = some (false, k)) (hu : Upd b (cells l bt) (cells (l.set fo v) bt) L L')
    (hv : v.cells = #[v]) (hk : k = 1) (hl : Nat.blt fo l.length = true) (h1 : v.oneCell' = true) (kk : K h L' undef) : OPw P r o fr h L K := by
  have hlt : fo < l.length := by simpa [Nat.blt_eq] using hl
  have e : putAt l (0 + fo) [v] = l.set fo v := by
    rw [Nat.zero_add, putAt_cons _ _ _ _ hlt]; simp [putAt]
  exact W_put (v := v) (vs := [v]) hop hp hx (by rw [hv]) ht hk.symm (by simp [ones, h1]) (by rw [e]; exact hu) (by simp; omega) kk
theorem W_one {t : TypeId} {p x : Operand} {b k : Nat} {u : Value} {bt : TypeId} {v : Value} {L' : Hp} (hop : o.op = .store t p x) (hp : ev fr p = some (ptr b 0)) (hx : ev fr x = some v) (ht : tyOf P t = some (false, k)) (hu : Upd b (cells [u] bt) (cells [v] bt) L L')
    (hv : v.cells = #[v]) (hk : k = 1) (h1 : v.oneCell' = true) (kk : K h L' undef) : OPw P r o fr h L K :=
  W_fld (l := [u]) (fo := 0) hop hp hx ht hu hv hk rfl h1 kk
/-- a part, by an aggregate -/
theorem W_sub {t : TypeId} {p x : Operand} {b fo k : Nat} {l vs : List Value} {bt : TypeId} {L' : Hp} (hop : o.op = .store t p x) (hp : ev fr p = some (ptr b (0 + fo))) (hx : ev fr x = some (.agg vs.toArray)) (ht : tyOf P t = some (true, k)) (hu : Upd b (cells l bt) (cells (putAt l (0 + fo) vs) bt) L L')
    (hk : vs.length = k) (hl : Nat.ble (fo + k) l.length = true) (h1 : ones vs = true) (kk : K h L' undef) : OPw P r o fr h L K :=
  W_put (v := .agg vs.toArray) hop hp hx rfl ht hk h1 hu (by have := Nat.le_of_ble_eq_true hl; omega) kk
end
end Go.Mesh
/-
  THE SAME RULES, SHAPED FOR A PROOF THAT GOES OPERATION BY OPERATION: the slot that is written stands out; the list of a region's operations is a list.
-/
set_option linter.all false
namespace Go.Mesh
open Go.RowKit

section
variable {P : Program} {r : Option Nat} {N : Nat} {h : Frag} {L : Hp} {D : List Nat} {fr : Fr} {o : Oper} {ops : Array Oper} {rest : List Oper} {C : Frag → Hp → Fr → Prop} {Q : Post}

theorem dstOk_of {d : Nat} (hd : o.dst = some d) (hN : Nat.blt d N = true) : dstOk N o.dst = true := by rw [hd]; exact hN
theorem dstOk_none (hd : o.dst = none) : dstOk N o.dst = true := by rw [hd]; rfl

theorem R_region {id : Nat} {l : List Oper} (x : OPS P r N D l.toArray l h L fr (fun h' L' fr' => Q .normal h' L' D fr')) : WP P r N (.region id l.toArray false) h L D fr Q := WP_region x
/-- which operations have come up, as a number's bits -/
def lst (n m : Nat) : Array Bool := ((List.range n).map fun i => m.testBit i).toArray
theorem lst_zero (n : Nat) : lst n 0 = Array.replicate n false := by
  apply Array.ext
  · simp [lst]
  · intro i h1 h2; simp [lst]
theorem lst_set {n m i m' : Nat} (hm : m ||| 2 ^ i = m') : (lst n m).setIfInBounds i true = lst n m' := by
  subst hm
  apply Array.ext
  · simp [lst]
  · intro j h1 h2
    rw [Array.getElem_setIfInBounds (by simpa using h1)]
    simp only [lst, List.getElem_toArray, List.getElem_map, List.getElem_range, Nat.testBit_or, Nat.testBit_two_pow]
    split
    · rename_i h; subst h; simp
    · rename_i h; simp [h]
theorem R_draw {id n : Nat} {l : List Oper} (hm : P.follows .mixedOrders = true) (hn : l.length = n) (x : ANY P r N D l.toArray n (lst n 0) h L fr (fun h' L' fr' => Q .normal h' L' D fr')) : WP P r N (.region id l.toArray true) h L D fr Q :=
  WP_draw hm (by subst hn; rw [lst_zero] at x; simpa using x)

theorem S_q {v : Value} {d : Nat} (hd : o.dst = some d) (hN : Nat.blt d N = true) (hg : o.guard = none) (q : QOP P o fr h L v) (x : OPS P r N D ops rest h L ((d, v) :: fr) C) : OPS P r N D ops (o :: rest) h L fr C :=
  OPS_q hg (dstOk_of hd hN) q (by rw [hd]; exact x)
theorem S_c {d : Nat} (hd : o.dst = some d) (hN : Nat.blt d N = true) (hg : o.guard = none) (x : OPc P r o fr h L (fun h' M v => OPS P r N D ops rest h' (M ++ L) ((d, v) :: fr) C)) : OPS P r N D ops (o :: rest) h L fr C :=
  OPS_c hg (dstOk_of hd hN) (by rw [hd]; exact x)
theorem S_c0 (hd : o.dst = none) (hg : o.guard = none) (x : OPc P r o fr h L (fun h' M _ => OPS P r N D ops rest h' (M ++ L) fr C)) : OPS P r N D ops (o :: rest) h L fr C :=
  OPS_c hg (dstOk_none hd) (by rw [hd]; exact x)
theorem S_w {d : Nat} (hd : o.dst = some d) (hN : Nat.blt d N = true) (hg : o.guard = none) (x : OPw P r o fr h L (fun h' L' v => OPS P r N D ops rest h' L' ((d, v) :: fr) C)) : OPS P r N D ops (o :: rest) h L fr C :=
  OPS_w hg (dstOk_of hd hN) (by rw [hd]; exact x)
theorem S_w0 (hd : o.dst = none) (hg : o.guard = none) (x : OPw P r o fr h L (fun h' L' _ => OPS P r N D ops rest h' L' fr C)) : OPS P r N D ops (o :: rest) h L fr C :=
  OPS_w hg (dstOk_none hd) (by rw [hd]; exact x)
theorem S_gq {v : Value} {d j dj : Nat} {want : Bool} {oj : Oper} (hd : o.dst = some d) (hN : Nat.blt d N = true) (hg : o.guard = some (j, want)) (hj : ops[j]? = some oj) (hdj : oj.dst = some dj) (hv : get? fr dj = some (.bool want))
    (q : QOP P o fr h L v) (x : OPS P r N D ops rest h L ((d, v) :: fr) C) : OPS P r N D ops (o :: rest) h L fr C :=
  OPS_gq hg hj hdj hv (dstOk_of hd hN) q (by rw [hd]; exact x)
theorem S_gc {d j dj : Nat} {want : Bool} {oj : Oper} (hd : o.dst = some d) (hN : Nat.blt d N = true) (hg : o.guard = some (j, want)) (hj : ops[j]? = some oj) (hdj : oj.dst = some dj) (hv : get? fr dj = some (.bool want))
    (x : OPc P r o fr h L (fun h' M v => OPS P r N D ops rest h' (M ++ L) ((d, v) :: fr) C)) : OPS P r N D ops (o :: rest) h L fr C :=
  OPS_gc hg hj hdj hv (dstOk_of hd hN) (by rw [hd]; exact x)
theorem S_gn {d j dj : Nat} {want : Bool} {oj : Oper} (hd : o.dst = some d) (hN : Nat.blt d N = true) (hg : o.guard = some (j, want)) (hj : ops[j]? = some oj) (hdj : oj.dst = some dj) (hv : get? fr dj = some (.bool (!want)))
    (x : OPS P r N D ops rest h L ((d, undef) :: fr) C) : OPS P r N D ops (o :: rest) h L fr C :=
  OPS_gn hg hj hdj hv (dstOk_of hd hN) (by rw [hd]; exact x)

variable {fuel n m m' : Nat}
variable {l : List Oper}
/-- 'operation i is o, and it has not come up': the goal, with o at hand. -/
def ANYo (P : Program) (r : Option Nat) (N : Nat) (D : List Nat) (l : List Oper) (fuel n m i : Nat) (o : Oper) (h : Frag) (L : Hp) (fr : Fr) (C : Frag → Hp → Fr → Prop) : Prop :=
  l.toArray[i]? = some o → ANY P r N D l.toArray fuel (lst n m) h L fr C
def nth : List Oper → Nat → Option Oper
  | [], _ => none
  | a :: _, 0 => some a
  | _ :: l, i + 1 => nth l i
theorem nth_eq : ∀ (l : List Oper) (i : Nat), nth l i = l[i]?
  | [], _ => by simp [nth]
  | a :: _, 0 => by simp [nth]
  | _ :: l, i + 1 => by simp [nth, nth_eq l i]
theorem A_at (i : Nat) (hb : m.testBit i = false) (hi : nth l i = some o) (x : ANYo P r N D l fuel n m i o h L fr C) : ANY P r N D l.toArray fuel (lst n m) h L fr C :=
  have _ := hb
  x (by rw [nth_eq] at hi; simpa using hi)
theorem A_q {v : Value} {d i : Nat} (hd : o.dst = some d) (hN : Nat.blt d N = true) (hg : o.guard = none) (q : QOP P o fr h L v) (hm : m ||| 2 ^ i = m') (hf : firstB l.toArray (lst n m) i = true)
    (x : ANY P r N D l.toArray fuel (lst n m') h L ((d, v) :: fr) C) : ANYo P r N D l (fuel + 1) n m i o h L fr C :=
  fun hi => ANY_q i hi hf hg (dstOk_of hd hN) q (by rw [hd, lst_set hm]; exact x)
theorem A_gq {v : Value} {d i j dj : Nat} {want : Bool} {oj : Oper} (hd : o.dst = some d) (hN : Nat.blt d N = true) (hg : o.guard = some (j, want)) (hj : nth l j = some oj) (hdj : oj.dst = some dj) (hv : get? fr dj = some (.bool want))
    (q : QOP P o fr h L v) (hm : m ||| 2 ^ i = m') (hf : firstB l.toArray (lst n m) i = true) (x : ANY P r N D l.toArray fuel (lst n m') h L ((d, v) :: fr) C) : ANYo P r N D l (fuel + 1) n m i o h L fr C :=
  fun hi => ANY_gq i hi hf hg (by rw [nth_eq] at hj; simpa using hj) hdj hv (dstOk_of hd hN) q (by rw [hd, lst_set hm]; exact x)
theorem A_gn {d i j dj : Nat} {want : Bool} {oj : Oper} (hd : o.dst = some d) (hN : Nat.blt d N = true) (hg : o.guard = some (j, want)) (hj : nth l j = some oj) (hdj : oj.dst = some dj) (hv : get? fr dj = some (.bool (!want)))
    (hm : m ||| 2 ^ i = m') (hf : firstB l.toArray (lst n m) i = true) (x : ANY P r N D l.toArray fuel (lst n m') h L ((d, undef) :: fr) C) : ANYo P r N D l (fuel + 1) n m i o h L fr C :=
  fun hi => ANY_gn i hi hf hg (by rw [nth_eq] at hj; simpa using hj) hdj hv (dstOk_of hd hN) (by rw [hd, lst_set hm]; exact x)
theorem A_c {d i : Nat} (hd : o.dst = some d) (hN : Nat.blt d N = true) (hg : o.guard = none) (hm : m ||| 2 ^ i = m') (hr : Region.ready .any l.toArray (lst n m) = [i])
    (x : OPc P r o fr h L (fun h' M v => ANY P r N D l.toArray fuel (lst n m') h' (M ++ L) ((d, v) :: fr) C)) : ANYo P r N D l (fuel + 1) n m i o h L fr C :=
  fun hi => ANY_one i hr (STEP_c hi hg (dstOk_of hd hN) (by rw [hd, lst_set hm]; exact x))
theorem A_gc {d i j dj : Nat} {want : Bool} {oj : Oper} (hd : o.dst = some d) (hN : Nat.blt d N = true) (hg : o.guard = some (j, want)) (hj : nth l j = some oj) (hdj : oj.dst = some dj) (hv : get? fr dj = some (.bool want)) (hm : m ||| 2 ^ i = m') (hr : Region.ready .any l.toArray (lst n m) = [i])
    (x : OPc P r o fr h L (fun h' M v => ANY P r N D l.toArray fuel (lst n m') h' (M ++ L) ((d, v) :: fr) C)) : ANYo P r N D l (fuel + 1) n m i o h L fr C :=
  fun hi => ANY_one i hr (STEP_gc hi hg (by rw [nth_eq] at hj; simpa using hj) hdj hv (dstOk_of hd hN) (by rw [hd, lst_set hm]; exact x))
theorem A_w {d i : Nat} (hd : o.dst = some d) (hN : Nat.blt d N = true) (hg : o.guard = none) (hc : calmOp o.op = false) (hm : m ||| 2 ^ i = m') (hr : Region.ready .any l.toArray (lst n m) = [i])
    (x : OPw P r o fr h L (fun h' L' v => ANY P r N D l.toArray fuel (lst n m') h' L' ((d, v) :: fr) C)) : ANYo P r N D l (fuel + 1) n m i o h L fr C :=
  fun hi => ANY_one i hr (STEP_w hi hg hc (dstOk_of hd hN) (by rw [hd, lst_set hm]; exact x))
theorem A_w0 {i : Nat} (hd : o.dst = none) (hg : o.guard = none) (hc : calmOp o.op = false) (hm : m ||| 2 ^ i = m') (hr : Region.ready .any l.toArray (lst n m) = [i])
    (x : OPw P r o fr h L (fun h' L' _ => ANY P r N D l.toArray fuel (lst n m') h' L' fr C)) : ANYo P r N D l (fuel + 1) n m i o h L fr C :=
  fun hi => ANY_one i hr (STEP_w hi hg hc (dstOk_none hd) (by rw [hd, lst_set hm]; exact x))
theorem A_done (hr : Region.ready .any l.toArray (lst n m) = []) (x : C h L fr) : ANY P r N D l.toArray fuel (lst n m) h L fr C := ANY_done hr x

/-! ### Loads, in two steps -/
def LG (P : Program) (h : Frag) (L : Hp) (b off : Nat) (t : TypeId) (K : Value → Prop) : Prop := ∃ v, (∀ w, Sees h L w → (loadVar t ⟨b, off, none⟩).run P w = .ok v w) ∧ K v
theorem Q_loadL {t : TypeId} {p : Operand} {b off : Nat} {v : Value} (hop : o.op = .load t p) (hp : ev fr p = some (ptr b off)) (x : ∀ w, Sees h L w → (loadVar t ⟨b, off, none⟩).run P w = .ok v w) : QOP P o fr h L v :=
  ⟨fun c => by rw [hop]; simp, fun a ha w hw => by
    unfold execOp; rw [hop]
    simp [ha p _ hp, Instr.loadAt, Instr.sureAddr, x w hw]⟩
theorem S_load {d b off : Nat} {t : TypeId} {p : Operand} (hop : o.op = .load t p) (hp : ev fr p = some (ptr b off)) (hd : o.dst = some d) (hN : Nat.blt d N = true) (hg : o.guard = none) (x : LG P h L b off t (fun v => OPS P r N D ops rest h L ((d, v) :: fr) C)) : OPS P r N D ops (o :: rest) h L fr C :=
  let ⟨_, q, k⟩ := x; S_q hd hN hg (Q_loadL hop hp q) k
theorem S_gload {d b off j dj : Nat} {want : Bool} {oj : Oper} {t : TypeId} {p : Operand} (hop : o.op = .load t p) (hp : ev fr p = some (ptr b off)) (hd : o.dst = some d) (hN : Nat.blt d N = true) (hg : o.guard = some (j, want)) (hj : ops[j]? = some oj) (hdj : oj.dst = some dj) (hv : get? fr dj = some (.bool want))
    (x : LG P h L b off t (fun v => OPS P r N D ops rest h L ((d, v) :: fr) C)) : OPS P r N D ops (o :: rest) h L fr C :=
  let ⟨_, q, k⟩ := x; S_gq hd hN hg hj hdj hv (Q_loadL hop hp q) k
theorem A_load {d i b off : Nat} {t : TypeId} {p : Operand} (hop : o.op = .load t p) (hp : ev fr p = some (ptr b off)) (hd : o.dst = some d) (hN : Nat.blt d N = true) (hg : o.guard = none) (hm : m ||| 2 ^ i = m') (hf : firstB l.toArray (lst n m) i = true)
    (x : LG P h L b off t (fun v => ANY P r N D l.toArray fuel (lst n m') h L ((d, v) :: fr) C)) : ANYo P r N D l (fuel + 1) n m i o h L fr C :=
  let ⟨_, q, k⟩ := x; A_q hd hN hg (Q_loadL hop hp q) hm hf k
theorem A_gload {d i j dj b off : Nat} {want : Bool} {oj : Oper} {t : TypeId} {p : Operand} (hop : o.op = .load t p) (hp : ev fr p = some (ptr b off)) (hd : o.dst = some d) (hN : Nat.blt d N = true) (hg : o.guard = some (j, want)) (hj : nth l j = some oj) (hdj : oj.dst = some dj) (hv : get? fr dj = some (.bool want)) (hm : m ||| 2 ^ i = m') (hf : firstB l.toArray (lst n m) i = true)
    (x : LG P h L b off t (fun v => ANY P r N D l.toArray fuel (lst n m') h L ((d, v) :: fr) C)) : ANYo P r N D l (fuel + 1) n m i o h L fr C :=
  let ⟨_, q, k⟩ := x; A_gq hd hN hg hj hdj hv (Q_loadL hop hp q) hm hf k
section
variable {b off k : Nat} {t : TypeId} {vs : List Value} {K : Value → Prop}
theorem L_agg (x : Rd h L b off vs) (ht : tyOf P t = some (true, k)) (hk : vs.length = k) (kk : K (.agg vs.toArray)) : LG P h L b off t K := ⟨_, fun _ hw => run_loadVar_agg ht hk x hw, kk⟩
theorem L_one {v : Value} (x : Rd h L b off [v]) (ht : tyOf P t = some (false, k)) (kk : K v) : LG P h L b off t K := ⟨_, fun _ hw => run_loadVar_one ht x hw, kk⟩
theorem L_fld {v : Value} {fo : Nat} (x : Rd h L b off vs) (ht : tyOf P t = some (false, k)) (hv : vs[fo]? = some v) (kk : K v) : LG P h L b (off + fo) t K := L_one (x.one fo hv) ht kk
theorem L_sub {fo : Nat} (x : Rd h L b off vs) (ht : tyOf P t = some (true, k)) (hk : ((vs.drop fo).take k).length = k) (kk : K (.agg ((vs.drop fo).take k).toArray)) : LG P h L b (off + fo) t K := L_agg (x.sub fo k) ht hk kk
end

/-! ### Ways out -/
theorem then_n {C' : Cont} (x : C' h L D fr) : thenQ C' Q .normal h L D fr := x
theorem then_r {C' : Cont} (x : Q .ret h L D fr) : thenQ C' Q .ret h L D fr := x
theorem then_e {C' : Cont} {id : Nat} (x : Q (.exit id) h L D fr) : thenQ C' Q (.exit id) h L D fr := x
theorem block_n {id : Nat} (x : Q .normal h L D fr) : blockQ id Q .normal h L D fr := x
theorem block_r {id : Nat} (x : Q .ret h L D fr) : blockQ id Q .ret h L D fr := x
theorem block_e {id : Nat} (x : Q .normal h L D fr) : blockQ id Q (.exit id) h L D fr := by simp only [blockQ, if_true]; exact x
theorem block_x {id k : Nat} (hne : Nat.beq k id = false) (x : Q (.exit k) h L D fr) : blockQ id Q (.exit k) h L D fr := by
  have : k ≠ id := fun e => by subst e; simp at hne
  simp only [blockQ, this, if_false]; exact x
theorem round_r {I : Nat → Cont} {n : Nat} (x : Q .ret h L D fr) : roundQ I n Q .ret h L D fr := x
theorem round_e {I : Nat → Cont} {n id : Nat} (x : Q (.exit id) h L D fr) : roundQ I n Q (.exit id) h L D fr := x
theorem round_n {I : Nat → Cont} {n : Nat} (m : Nat) (fr' : Fr) (hm : m < n) (i : I m h L D fr') (hs : FrSub fr' fr) : roundQ I n Q .normal h L D fr := ⟨m, hm, fr', hs, i⟩
theorem cond_t {c : Operand} {x y : Code} (hc : ev fr c = some (.bool true)) (k : WP P r N x h L D fr Q) : WP P r N (.cond c x y) h L D fr Q := WP_cond hc (fun _ => k) (fun e => by cases e)
theorem cond_f {c : Operand} {x y : Code} (hc : ev fr c = some (.bool false)) (k : WP P r N y h L D fr Q) : WP P r N (.cond c x y) h L D fr Q := WP_cond hc (fun e => by cases e) (fun _ => k)

theorem ret_q {fn : Func} {R : OCont} {e : Exit} {rs : List ResultVar} {vs : List Value} (L2 : Hp) (he : e = .ret ∨ e = .normal) (hrs : fn.results.toList = rs) (hr : resVals P h L fr rs vs) (hs : List.Sublist L2 L) (x : R h L2 (resOf vs)) : retQ P fn R e h L [] fr :=
  ⟨he, rfl, vs, by rw [hrs]; exact hr, fun _ hw => ⟨h, L2, (Ext.refl hw).drop hs, x⟩⟩
theorem spec_of {f : FuncId} {fn : Func} {c : Code} {vs : List Value} {args : Array Value} {R : OCont} (hf : P.funcs[f]? = some fn) (hn : fn.ntmps = N) (hb : fn.body = some c) (ha : args = vs.toArray) (hN : Nat.ble vs.length N = true)
    (x : WP P none N c h L [] (argFr vs 0) (retQ P fn R)) : FSpec P f args h L R := by
  subst hn; subst ha; exact FSpec_of hf hb hN x
end
end Go.Mesh
/-
  HOW Go's DATA LIE IN MEMORY, as the observer proofs read them: slices whose elements have k cells, each read by a relation.
-/
set_option linter.all false
namespace Go.Mesh
open Go.RowKit


/-- A relation between data and cells that what is not written keeps. -/
abbrev CR (α : Type) := Frag → α → List Value → Prop
def CMono {α : Type} (C : CR α) : Prop := ∀ h h' x vs, le h h' → C h x vs → C h' x vs

/-- The slice v reads as xs (at most B), its elements of k cells by C. -/
def SLB {α : Type} (B : Nat) (h : Frag) (k : Nat) (C : CR α) (v : Value) (xs : List α) : Prop :=
  xs.length ≤ B ∧ ((∃ p cap, v = .slice p 0 cap ∧ xs = []) ∨
    ∃ b off cap, v = .slice (some ⟨b, off, none⟩) xs.length cap ∧ ∀ (i : Nat) x, xs[i]? = some x → ∃ vs, vs.length = k ∧ ones vs = true ∧ C h x vs ∧ At h b (off + i * k) vs)

/-- .. and it is not too long to be copied -/
abbrev SL {α : Type} (h : Frag) (k : Nat) (C : CR α) (v : Value) (xs : List α) : Prop := SLB 8796093022208 h k C v xs
section
variable {α : Type} {h h' : Frag} {B k : Nat} {C : CR α} {v : Value} {xs : List α}
theorem SLB.mono (x : SLB B h k C v xs) (hl : le h h') (hc : CMono C) : SLB B h' k C v xs := by
  obtain ⟨hm, x⟩ := x
  refine ⟨hm, x.imp id ?_⟩
  rintro ⟨b, off, cap, e, g⟩
  refine ⟨b, off, cap, e, fun i x hx => ?_⟩
  obtain ⟨vs, h1, h2, h3, h4⟩ := g i x hx
  exact ⟨vs, h1, h2, hc _ _ _ _ hl h3, h4.mono hl⟩
theorem SLB.slice (x : SLB B h k C v xs) : ∃ p cap, v = .slice p xs.length cap := by
  obtain ⟨_, ⟨p, cap, e, rfl⟩ | ⟨b, off, cap, e, _⟩⟩ := x
  · exact ⟨p, cap, e⟩
  · exact ⟨_, cap, e⟩
theorem SLB.elem (x : SLB B h k C v xs) {i : Nat} {y : α} (hy : xs[i]? = some y) : ∃ b off cap vs, v = .slice (some ⟨b, off, none⟩) xs.length cap ∧ i < xs.length ∧ vs.length = k ∧ ones vs = true ∧ C h y vs ∧ At h b (off + i * k) vs := by
  obtain ⟨_, ⟨p, cap, e, rfl⟩ | ⟨b, off, cap, e, g⟩⟩ := x
  · simp at hy
  · obtain ⟨vs, h1, h2, h3, h4⟩ := g i y hy
    exact ⟨b, off, cap, vs, e, (List.getElem?_eq_some_iff.1 hy).1, h1, h2, h3, h4⟩
theorem SLB.le (x : SLB B h k C v xs) : xs.length ≤ B := x.1
theorem SLB.one (x : SLB B h k C v xs) : v.oneCell' = true ∧ v.cells = #[v] := by
  obtain ⟨p, cap, rfl⟩ := x.slice; exact ⟨rfl, rfl⟩
theorem Q_lenS {P : Program} {fr : Fr} {o : Oper} {L : Hp} {c : Call} {x : Operand} {t e : TypeId} (hop : o.op = .call c) (hc : c.callee = .builtin .len) (ha : c.args = #[x]) (hat : c.argTypes = #[t]) (hx : ev fr x = some v) (ht : P.underlying t = some (.slice e))
    (s : SLB B h k C v xs) : QOP P o fr h L (.int .i64 (xs.length : Int)) := by
  obtain ⟨p, cap, rfl⟩ := s.slice
  exact Q_len hop hc ha hat hx ht
end

/-! ### Identities and values -/
abbrev ID := Int × Int
def idc (x : ID) : List Value := [.int .i64 x.1, .int .i64 x.2]
def IDC : CR ID := fun _ x vs => vs = idc x
theorem IDC_mono : CMono IDC := fun _ _ _ _ _ e => e
abbrev Val := Int × Int × ID
def vlc (x : Val) : List Value := [.int .i64 x.1, .int .i64 x.2.1, .int .i64 x.2.2.1, .int .i64 x.2.2.2]
def ValC : CR Val := fun _ x vs => vs = vlc x
theorem ValC_mono : CMono ValC := fun _ _ _ _ _ e => e

/-- '==' at the type t, of the cells cl. -/
def EqAt {α : Type} [DecidableEq α] (P : Program) (t : TypeId) (cl : α → List Value) : Prop :=
  P.eqGuardType P.depth t = false ∧ ∀ (w : World) (x y : α), (Op.equalIn 10000 t (.agg (cl x).toArray) (.agg (cl y).toArray)).run P w = .ok (decide (x = y)) w
section
variable {α : Type} [DecidableEq α] {P : Program} {fr : Fr} {o : Oper} {h : Frag} {L : Hp} {cl : α → List Value} {t u : TypeId} {x y : Operand} {a b : α}
theorem Q_eqA (e : EqAt P t cl) (hop : o.op = .binOp .eql t x y u) (hx : ev fr x = some (.agg (cl a).toArray)) (hy : ev fr y = some (.agg (cl b).toArray)) : QOP P o fr h L (.bool (decide (a = b))) :=
  ⟨fun c => by rw [hop]; simp, fun ac ha w _ => by
    unfold execOp; rw [hop]
    simp only [ha x _ hx, ha y _ hy, Sem.run_bind, run_eqGuard_agg w _ _ _ _ _ _ e.1, Result.andThen_ok, run_eql_struct, e.2 w a b]
    simp⟩
theorem Q_neA (e : EqAt P t cl) (hop : o.op = .binOp .neq t x y u) (hx : ev fr x = some (.agg (cl a).toArray)) (hy : ev fr y = some (.agg (cl b).toArray)) : QOP P o fr h L (.bool (!decide (a = b))) :=
  ⟨fun c => by rw [hop]; simp, fun ac ha w _ => by
    unfold execOp; rw [hop]
    simp only [ha x _ hx, ha y _ hy, Sem.run_bind, run_eqGuard_agg w _ _ _ _ _ _ e.1, Result.andThen_ok, run_neq_struct, e.2 w a b]
    simp⟩
end
section
variable {P : Program} {fr : Fr} {o : Oper} {h : Frag} {L : Hp} {t u : TypeId} {x y : Operand} {l m : List Value} {a1 a2 a3 a4 b1 b2 b3 b4 : Int}
theorem Q_eqI (e : EqAt P t idc) (hop : o.op = .binOp .eql t x y u) (hx : ev fr x = some (.agg l.toArray)) (hy : ev fr y = some (.agg m.toArray)) (hl : l = [.int .i64 a1, .int .i64 a2]) (hm : m = [.int .i64 b1, .int .i64 b2]) : QOP P o fr h L (.bool (decide ((a1, a2) = (b1, b2)))) := by
  subst hl; subst hm; exact Q_eqA (a := (a1, a2)) (b := (b1, b2)) e hop hx hy
theorem Q_neI (e : EqAt P t idc) (hop : o.op = .binOp .neq t x y u) (hx : ev fr x = some (.agg l.toArray)) (hy : ev fr y = some (.agg m.toArray)) (hl : l = [.int .i64 a1, .int .i64 a2]) (hm : m = [.int .i64 b1, .int .i64 b2]) : QOP P o fr h L (.bool (!decide ((a1, a2) = (b1, b2)))) := by
  subst hl; subst hm; exact Q_neA (a := (a1, a2)) (b := (b1, b2)) e hop hx hy
theorem Q_eqV (e : EqAt P t vlc) (hop : o.op = .binOp .eql t x y u) (hx : ev fr x = some (.agg l.toArray)) (hy : ev fr y = some (.agg m.toArray)) (hl : l = [.int .i64 a1, .int .i64 a2, .int .i64 a3, .int .i64 a4]) (hm : m = [.int .i64 b1, .int .i64 b2, .int .i64 b3, .int .i64 b4]) :
    QOP P o fr h L (.bool (decide ((a1, a2, (a3, a4)) = (b1, b2, (b3, b4))))) := by
  subst hl; subst hm; exact Q_eqA (a := (a1, a2, (a3, a4))) (b := (b1, b2, (b3, b4))) e hop hx hy
theorem Q_neV (e : EqAt P t vlc) (hop : o.op = .binOp .neq t x y u) (hx : ev fr x = some (.agg l.toArray)) (hy : ev fr y = some (.agg m.toArray)) (hl : l = [.int .i64 a1, .int .i64 a2, .int .i64 a3, .int .i64 a4]) (hm : m = [.int .i64 b1, .int .i64 b2, .int .i64 b3, .int .i64 b4]) :
    QOP P o fr h L (.bool (!decide ((a1, a2, (a3, a4)) = (b1, b2, (b3, b4))))) := by
  subst hl; subst hm; exact Q_neA (a := (a1, a2, (a3, a4))) (b := (b1, b2, (b3, b4))) e hop hx hy
end
end Go.Mesh
