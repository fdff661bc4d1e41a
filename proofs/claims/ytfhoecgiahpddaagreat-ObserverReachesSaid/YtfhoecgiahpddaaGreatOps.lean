/-
  THE OPERATIONS, one law each, in the logic of the first texts.
-/
import Derived.Test.YtfhoecgiahpddaaGreatDraws
import Derived.IntWalk
set_option linter.all false
namespace Go.Mesh
open Go.RowKit

abbrev cells (l : List Value) (t : TypeId) : Obj := .cells l.toArray t (0, 0)
abbrev ptr (b off : Nat) : Value := .pointer (some ⟨b, off, none⟩)

/-- Is the type an aggregate, and how many cells has it? -/
def tyOf (P : Program) (t : TypeId) : Option (Bool × Nat) :=
  match P.underlying t, P.info? t with
  | some d, some i => some (match d with | .struct _ | .array _ _ => true | _ => false, i.size)
  | _, _ => none
/-- A struct's field: its type, its offset, and that it has cells. -/
def fieldOf (P : Program) (s : TypeId) (f : Nat) : Option (TypeId × Nat) :=
  match P.underlying s with
  | some (.struct fs) => match fs[f]? with
    | some x => match P.info? x.type with
      | some i => if i.size = 0 then none else some (x.type, x.offset)
      | none => none
    | none => none
  | _ => none
/-- A slice type's element: its cells and its bytes. -/
def elemOf? (P : Program) (t : TypeId) : Option (TypeId × Nat × Nat) :=
  match P.underlying t with
  | some (.slice e) => match P.info? e with
    | some i => some (e, i.size, i.bytes)
    | none => none
  | _ => none

section
variable {P : Program} {r : Option Nat} {h : Frag} {L : Hp} {fr : Fr} {o : Oper} {K : OCont} {w : World}

theorem run_isAgg {t : TypeId} {g : Bool} {k : Nat} (ht : tyOf P t = some (g, k)) : (isAgg t).run P w = .ok g w := by
  unfold tyOf at ht
  unfold isAgg underlying
  cases hu : P.underlying t with
  | none => simp [hu] at ht
  | some d =>
    cases hi : P.info? t with
    | none => simp [hu, hi] at ht
    | some i =>
      simp only [hu, hi, Option.some.injEq, Prod.mk.injEq] at ht
      obtain ⟨hg, _⟩ := ht
      subst hg
      cases d <;> simp [hu]
theorem run_sizeOf {t : TypeId} {g : Bool} {k : Nat} (ht : tyOf P t = some (g, k)) : (sizeOf t).run P w = .ok k w := by
  unfold tyOf at ht
  unfold sizeOf typeInfo
  cases hu : P.underlying t with
  | none => simp [hu] at ht
  | some d =>
    cases hi : P.info? t with
    | none => simp [hu, hi] at ht
    | some i =>
      simp only [hu, hi, Option.some.injEq, Prod.mk.injEq] at ht
      obtain ⟨_, hk⟩ := ht
      subst hk
      simp [hi]
theorem run_underlying' {t : TypeId} {d : TypeDesc} (ht : P.underlying t = some d) : (underlying t).run P w = .ok d w := by
  unfold underlying; simp [ht]

theorem Q_move {x : Operand} {v : Value} (hop : o.op = .move x) (hx : ev fr x = some v) : QOP P o fr h L v :=
  ⟨fun c => by rw [hop]; simp, fun a ha w _ => by unfold execOp; rw [hop]; simp [ha x v hx]⟩
theorem Q_assign {x : Operand} {v : Value} (hop : o.op = .assign x) (hx : ev fr x = some v) : QOP P o fr h L v :=
  ⟨fun c => by rw [hop]; simp, fun a ha w _ => by unfold execOp; rw [hop]; simp [ha x v hx]⟩
theorem Q_pick_t {c x y : Operand} {v : Value} (hop : o.op = .pick c x y) (hc : ev fr c = some (.bool true)) (hx : ev fr x = some v) : QOP P o fr h L v :=
  ⟨fun c => by rw [hop]; simp, fun a ha w _ => by unfold execOp; rw [hop]; simp [ha x v hx, ha c _ hc, asBool]⟩
theorem Q_pick_f {c x y : Operand} {v : Value} (hop : o.op = .pick c x y) (hc : ev fr c = some (.bool false)) (hx : ev fr y = some v) : QOP P o fr h L v :=
  ⟨fun c => by rw [hop]; simp, fun a ha w _ => by unfold execOp; rw [hop]; simp [ha y v hx, ha c _ hc, asBool]⟩
theorem Q_not {t : TypeId} {x : Operand} {b : Bool} (hop : o.op = .unOp .not t x) (hx : ev fr x = some (.bool b)) : QOP P o fr h L (.bool (!b)) :=
  ⟨fun c => by rw [hop]; simp, fun a ha w _ => by unfold execOp; rw [hop]; simp [ha x _ hx, Op.unary]⟩
theorem Q_extract {x : Operand} {i : Nat} {vs : Array Value} {v : Value} (hop : o.op = .extract x i) (hx : ev fr x = some (.tuple vs)) (hv : vs[i]? = some v) : QOP P o fr h L v :=
  ⟨fun c => by rw [hop]; simp, fun a ha w _ => by unfold execOp; rw [hop]; simp [ha x _ hx, Instr.extract, hv]⟩
theorem evs_map' {a : Act} (ha : ∀ x u, ev fr x = some u → a.eval x = u) {xs : Array Operand} {vs : List Value} (e : evs fr xs.toList vs) : xs.map a.eval = vs.toArray := by
  rw [← evs_map ha e]
  exact Array.toList_inj.1 (by simp)
theorem Q_makeFunc {fn : Fn} {xs ys : Array Operand} {us vs : List Value} (hop : o.op = .makeFunc fn xs ys) (hx : evs fr xs.toList us) (hy : evs fr ys.toList vs) : QOP P o fr h L (.func fn us.toArray vs.toArray) :=
  ⟨fun c => by rw [hop]; simp, fun a ha w _ => by unfold execOp; rw [hop]; simp only [evs_map' ha hx, evs_map' ha hy, Instr.makeFunc]; simp⟩

/-! ### Whole numbers -/
def cmpV : BinOp → Int → Int → Option Value
  | .lss, m, n => some (.bool (decide (m < n)))
  | .leq, m, n => some (.bool (decide (m ≤ n)))
  | .gtr, m, n => some (.bool (decide (m > n)))
  | .geq, m, n => some (.bool (decide (m ≥ n)))
  | .eql, m, n => some (.bool (m == n))
  | .neq, m, n => some (.bool (m != n))
  | _, _, _ => none
def arV (k : IntKind) : BinOp → Int → Int → Option Int
  | .add, m, n => some (k.wrap (m + n))
  | .sub, m, n => some (k.wrap (m - n))
  | .mul, m, n => some (k.wrap (m * n))
  | _, _, _ => none
theorem Q_cmp {op : BinOp} {t u : TypeId} {x y : Operand} {k : IntKind} {m n : Int} {v : Value} (hop : o.op = .binOp op t x y u) (hx : ev fr x = some (.int k m)) (hy : ev fr y = some (.int k n))
    (hv : cmpV op m n = some v) : QOP P o fr h L v :=
  ⟨fun c => by rw [hop]; simp, fun a ha w _ => by
    unfold execOp; rw [hop]
    simp only [ha x _ hx, ha y _ hy, eqGuard, binOp]
    cases op <;> simp [cmpV] at hv <;> subst hv <;> simp [Op.intCmp]⟩
theorem Q_arith {op : BinOp} {t u : TypeId} {x y : Operand} {k : IntKind} {m n q : Int} (hop : o.op = .binOp op t x y u) (hx : ev fr x = some (.int k m)) (hy : ev fr y = some (.int k n))
    (hv : arV k op m n = some q) : QOP P o fr h L (.int k q) :=
  ⟨fun c => by rw [hop]; simp, fun a ha w _ => by
    unfold execOp; rw [hop]
    simp only [ha x _ hx, ha y _ hy, eqGuard, binOp]
    cases op <;> simp [arV] at hv <;> subst hv <;> simp [Op.intArith]⟩
theorem Q_add {t u : TypeId} {x y : Operand} {m n : Int} (hop : o.op = .binOp .add t x y u) (hx : ev fr x = some (.int .i64 m)) (hy : ev fr y = some (.int .i64 n))
    (hv : -9223372036854775808 ≤ m + n ∧ m + n ≤ 9223372036854775807) : QOP P o fr h L (.int .i64 (m + n)) :=
  Q_arith (op := .add) hop hx hy (by simp only [arV]; rw [IntWalk.i64_in _ hv])
theorem Q_sub {t u : TypeId} {x y : Operand} {m n : Int} (hop : o.op = .binOp .sub t x y u) (hx : ev fr x = some (.int .i64 m)) (hy : ev fr y = some (.int .i64 n))
    (hv : -9223372036854775808 ≤ m - n ∧ m - n ≤ 9223372036854775807) : QOP P o fr h L (.int .i64 (m - n)) :=
  Q_arith (op := .sub) hop hx hy (by simp only [arV]; rw [IntWalk.i64_in _ hv])
theorem run_equal_bool {t : TypeId} (m n : Bool) (ht : P.underlying t = some .bool) : (Op.equal t (.bool m) (.bool n)).run P w = .ok (m == n) w := by
  unfold Op.equal
  rw [show Op.maxDepth = 9999 + 1 from rfl]
  rw [Op.equalIn]
  simp [run_underlying' ht]
theorem Q_beq {t u : TypeId} {x y : Operand} {m n : Bool} (hop : o.op = .binOp .eql t x y u) (hx : ev fr x = some (.bool m)) (hy : ev fr y = some (.bool n)) (ht : P.underlying t = some .bool) : QOP P o fr h L (.bool (m == n)) :=
  ⟨fun c => by rw [hop]; simp, fun a ha w _ => by
    unfold execOp; rw [hop]
    simp only [ha x _ hx, ha y _ hy, eqGuard, binOp, Sem.run_bind, run_equal_bool m n ht]
    simp⟩
theorem Q_bne {t u : TypeId} {x y : Operand} {m n : Bool} (hop : o.op = .binOp .neq t x y u) (hx : ev fr x = some (.bool m)) (hy : ev fr y = some (.bool n)) (ht : P.underlying t = some .bool) : QOP P o fr h L (.bool (!(m == n))) :=
  ⟨fun c => by rw [hop]; simp, fun a ha w _ => by
    unfold execOp; rw [hop]
    simp only [ha x _ hx, ha y _ hy, eqGuard, binOp, Sem.run_bind, run_equal_bool m n ht]
    simp⟩

/-! ### Memory -/
/-- The cells vs lie from (b, off) on: in a block that nobody writes, or in an owned one. -/
def Rd (h : Frag) (L : Hp) (b off : Nat) (vs : List Value) : Prop :=
  ∃ arr t fz, (h b = some (.cells arr t fz) ∨ (b, Obj.cells arr t fz) ∈ L) ∧ ∀ (j : Nat) (v : Value), vs[j]? = some v → arr[off + j]? = some v
def At (h : Frag) (b off : Nat) (vs : List Value) : Prop :=
  ∃ arr t fz, h b = some (.cells arr t fz) ∧ ∀ (j : Nat) (v : Value), vs[j]? = some v → arr[off + j]? = some v
theorem At.mono {h' : Frag} {b off : Nat} {vs : List Value} (x : At h b off vs) (hl : le h h') : At h' b off vs :=
  let ⟨arr, t, fz, e, g⟩ := x; ⟨arr, t, fz, hl _ _ e, g⟩
theorem Rd.pers {b off : Nat} {vs : List Value} (x : At h b off vs) : Rd h L b off vs :=
  let ⟨arr, t, fz, e, g⟩ := x; ⟨arr, t, fz, .inl e, g⟩
theorem Rd.own {b : Nat} {l : List Value} {t : TypeId} (x : (b, cells l t) ∈ L) : Rd h L b 0 l :=
  ⟨l.toArray, t, (0, 0), .inr x, fun j v e => by simpa using e⟩
theorem Rd.part {b off : Nat} {vs us : List Value} (fo : Nat) (x : Rd h L b off vs) (hu : ∀ j v, us[j]? = some v → vs[fo + j]? = some v) : Rd h L b (off + fo) us :=
  let ⟨arr, t, fz, e, g⟩ := x; ⟨arr, t, fz, e, fun j v ej => by rw [Nat.add_assoc]; exact g _ _ (hu j v ej)⟩
theorem At.part {b off : Nat} {vs us : List Value} (fo : Nat) (x : At h b off vs) (hu : ∀ j v, us[j]? = some v → vs[fo + j]? = some v) : At h b (off + fo) us :=
  let ⟨arr, t, fz, e, g⟩ := x; ⟨arr, t, fz, e, fun j v ej => by rw [Nat.add_assoc]; exact g _ _ (hu j v ej)⟩
theorem take_drop_get {vs : List Value} {fo k j : Nat} {v : Value} (e : ((vs.drop fo).take k)[j]? = some v) : vs[fo + j]? = some v := by
  have hj : j < k := by
    have := (List.getElem?_eq_some_iff.1 e).1
    simp at this; omega
  simpa [List.getElem?_take, hj] using e
theorem Rd.sub {b off : Nat} {vs : List Value} (fo k : Nat) (x : Rd h L b off vs) : Rd h L b (off + fo) ((vs.drop fo).take k) :=
  x.part fo fun _ _ e => take_drop_get e
theorem Rd.one {b off : Nat} {vs : List Value} (fo : Nat) {v : Value} (x : Rd h L b off vs) (hv : vs[fo]? = some v) : Rd h L b (off + fo) [v] :=
  x.part fo fun j u e => by
    cases j with
    | zero => simp at e; subst e; simpa using hv
    | succ j => simp at e

theorem Rd.cell {b off : Nat} {vs : List Value} (x : Rd h L b off vs) (hw : Sees h L w) {j : Nat} {v : Value} (e : vs[j]? = some v) : w.cell? ⟨b, off + j, none⟩ = some v := by
  obtain ⟨arr, t, fz, hb, g⟩ := x
  have : w.heap[b]? = some (.cells arr t fz) := by
    rcases hb with hb | hb
    · exact hw.pers _ _ hb
    · exact hw.own _ hb
  simp [World.cell?, this, g j v e]
theorem addr_add (b off n : Nat) : (⟨b, off, none⟩ : Addr).add n = ⟨b, off + n, none⟩ := by
  unfold Addr.add
  split
  · rename_i h; subst h; rfl
  · rfl
theorem run_loadCellsFrom {b off : Nat} {vs : List Value} (x : Rd h L b off vs) (hw : Sees h L w) : ∀ (n i : Nat) (acc : Array Value), i + n ≤ vs.length → (loadCellsFrom ⟨b, off, none⟩ i n acc).run P w = .ok (acc ++ ((vs.drop i).take n).toArray) w := by
  intro n
  induction n with
  | zero => intro i acc _; simp [loadCellsFrom]
  | succ n ih =>
    intro i acc hi
    have hlt : i < vs.length := by omega
    have hc := x.cell hw (j := i) (v := vs[i]) (by simp [hlt])
    simp only [loadCellsFrom, Sem.run_bind, run_load, addr_add, hc, Result.andThen_ok]
    rw [ih (i + 1) _ (by omega)]
    congr 1
    rw [List.drop_eq_getElem_cons hlt, List.take_succ_cons]
    simp
theorem run_loadVar_agg {b off : Nat} {vs : List Value} {t : TypeId} {k : Nat} (ht : tyOf P t = some (true, k)) (hk : vs.length = k) (x : Rd h L b off vs) (hw : Sees h L w) :
    (loadVar t ⟨b, off, none⟩).run P w = .ok (.agg vs.toArray) w := by
  unfold loadVar
  simp only [Sem.run_bind, run_isAgg ht, Result.andThen_ok, if_true, run_sizeOf ht, loadCells]
  rw [run_loadCellsFrom x hw k 0 #[] (by omega)]
  simp [← hk]
theorem run_loadVar_one {b off : Nat} {v : Value} {t : TypeId} {k : Nat} (ht : tyOf P t = some (false, k)) (x : Rd h L b off [v]) (hw : Sees h L w) :
    (loadVar t ⟨b, off, none⟩).run P w = .ok v w := by
  unfold loadVar
  have hc := x.cell hw (j := 0) (v := v) rfl
  simp only [Nat.add_zero] at hc
  simp [run_isAgg ht, hc]
theorem Q_load {t : TypeId} {p : Operand} {b off k : Nat} {vs : List Value} (hop : o.op = .load t p) (hp : ev fr p = some (ptr b off)) (x : Rd h L b off vs) (ht : tyOf P t = some (true, k)) (hk : vs.length = k) : QOP P o fr h L (.agg vs.toArray) :=
  ⟨fun c => by rw [hop]; simp, fun a ha w hw => by
    unfold execOp; rw [hop]
    simp [ha p _ hp, Instr.loadAt, Instr.sureAddr, run_loadVar_agg ht hk x hw]⟩
theorem Q_load1 {t : TypeId} {p : Operand} {b off k : Nat} {v : Value} (hop : o.op = .load t p) (hp : ev fr p = some (ptr b off)) (x : Rd h L b off [v]) (ht : tyOf P t = some (false, k)) : QOP P o fr h L v :=
  ⟨fun c => by rw [hop]; simp, fun a ha w hw => by
    unfold execOp; rw [hop]
    simp [ha p _ hp, Instr.loadAt, Instr.sureAddr, run_loadVar_one ht x hw]⟩
theorem Loads_agg {b off k : Nat} {vs : List Value} {t : TypeId} (x : Rd h L b off vs) (ht : tyOf P t = some (true, k)) (hk : vs.length = k) : LoadsAt P h L t (ptr b off) (.agg vs.toArray) :=
  ⟨_, rfl, fun _ hw => run_loadVar_agg ht hk x hw⟩
theorem Loads_one {b off k : Nat} {v : Value} {t : TypeId} (x : Rd h L b off [v]) (ht : tyOf P t = some (false, k)) : LoadsAt P h L t (ptr b off) v :=
  ⟨_, rfl, fun _ hw => run_loadVar_one ht x hw⟩

theorem Q_fieldAddr {s : TypeId} {p : Operand} {f b off ft fo : Nat} (hop : o.op = .fieldAddr s p f) (hp : ev fr p = some (ptr b off)) (hf : fieldOf P s f = some (ft, fo)) : QOP P o fr h L (ptr b (off + fo)) :=
  ⟨fun c => by rw [hop]; simp, fun a ha w hw => by
    unfold execOp; rw [hop]
    unfold fieldOf at hf
    simp only [ha p _ hp]
    cases hu : P.underlying s with
    | none => simp [hu] at hf
    | some d =>
      cases d <;> simp [hu] at hf
      rename_i fs
      cases hfs : fs[f]? with
      | none => simp [hfs] at hf
      | some x =>
        simp only [hfs] at hf
        cases hi : P.info? x.type with
        | none => simp [hi] at hf
        | some i =>
          simp only [hi] at hf
          split at hf
          · cases hf
          · rename_i hne
            cases hf
            simp [Instr.fieldAt, run_underlying' hu, hfs, Instr.sureAddr, fieldPlace, sizeOf, typeInfo, hi, hne, addr_add]⟩
theorem Q_field {s : TypeId} {p : Operand} {f ft fo k : Nat} {l : List Value} (hop : o.op = .field s p f) (hp : ev fr p = some (.agg l.toArray)) (hf : fieldOf P s f = some (ft, fo)) (ht : tyOf P ft = some (true, k)) : QOP P o fr h L (.agg ((l.drop fo).take k).toArray) :=
  ⟨fun c => by rw [hop]; simp, fun a ha w hw => by
    unfold execOp; rw [hop]
    unfold fieldOf at hf
    simp only [ha p _ hp]
    cases hu : P.underlying s with
    | none => simp [hu] at hf
    | some d =>
      cases d <;> simp [hu] at hf
      rename_i fs
      cases hfs : fs[f]? with
      | none => simp [hfs] at hf
      | some x =>
        simp only [hfs] at hf
        cases hi : P.info? x.type with
        | none => simp [hi] at hf
        | some i =>
          simp only [hi] at hf
          split at hf
          · cases hf
          · cases hf
            simp [Instr.field, run_underlying' hu, hfs, part, run_isAgg ht, run_sizeOf ht, asAgg, List.extract_eq_take_drop]⟩
theorem Q_field1 {s : TypeId} {p : Operand} {f ft fo k : Nat} {l : List Value} {v : Value} (hop : o.op = .field s p f) (hp : ev fr p = some (.agg l.toArray)) (hf : fieldOf P s f = some (ft, fo)) (ht : tyOf P ft = some (false, k)) (hv : l[fo]? = some v) : QOP P o fr h L v :=
  ⟨fun c => by rw [hop]; simp, fun a ha w hw => by
    unfold execOp; rw [hop]
    unfold fieldOf at hf
    simp only [ha p _ hp]
    cases hu : P.underlying s with
    | none => simp [hu] at hf
    | some d =>
      cases d <;> simp [hu] at hf
      rename_i fs
      cases hfs : fs[f]? with
      | none => simp [hfs] at hf
      | some x =>
        simp only [hfs] at hf
        cases hi : P.info? x.type with
        | none => simp [hi] at hf
        | some i =>
          simp only [hi] at hf
          split at hf
          · cases hf
          · cases hf
            simp [Instr.field, run_underlying' hu, hfs, part, run_isAgg ht, asAgg, hv]⟩
theorem elemOf?_spec {t e k by_ : Nat} (he : elemOf? P t = some (e, k, by_)) : P.underlying t = some (.slice e) ∧ ∃ i, P.info? e = some i ∧ i.size = k ∧ i.bytes = by_ := by
  unfold elemOf? at he
  cases hu : P.underlying t with
  | none => simp [hu] at he
  | some d =>
    cases d <;> simp [hu] at he
    rename_i e'
    cases hi : P.info? e' with
    | none => simp [hi] at he
    | some i => simp [hi] at he; obtain ⟨rfl, rfl, rfl⟩ := he; exact ⟨rfl, i, hi, rfl, rfl⟩
theorem Q_index {t : TypeId} {s x : Operand} {b off n cap e k by_ j : Nat} {q : IntKind} {i : Int} (hop : o.op = .indexAddr t s x) (hs : ev fr s = some (.slice (some ⟨b, off, none⟩) n cap)) (hx : ev fr x = some (.int q i))
    (he : elemOf? P t = some (e, k, by_)) (hj : i = (j : Int)) (hlt : j < n) : QOP P o fr h L (ptr b (off + j * k)) :=
  ⟨fun c => by rw [hop]; simp, fun a ha w hw => by
    obtain ⟨hu, i0, hi, hk, _⟩ := elemOf?_spec he
    unfold execOp; rw [hop]
    subst hj
    have h1 : (0 : Int) ≤ (j : Int) ∧ (j : Int) < (n : Int) := by omega
    simp [ha s _ hs, ha x _ hx, Instr.indexAt, asIntOf, run_underlying' hu, hlt, sizeOf, typeInfo, hi, hk, addr_add]⟩
theorem Q_len {c : Call} {x : Operand} {t e : TypeId} {p : Option Addr} {n cap : Nat} (hop : o.op = .call c) (hc : c.callee = .builtin .len) (ha : c.args = #[x]) (hat : c.argTypes = #[t]) (hx : ev fr x = some (.slice p n cap)) (ht : P.underlying t = some (.slice e)) : QOP P o fr h L (.int .i64 (n : Int)) :=
  ⟨fun c => by rw [hop]; simp, fun a hal w hw => by
    unfold execOp; rw [hop]
    simp [resolve, hc, ha, hat, invoke, builtin, Builtin.len_, hal x _ hx, run_underlying' ht, goInt]⟩

/-! ### New blocks -/
theorem OPc_new {ob : Obj} (hd : ∀ c, o.op ≠ .defer c)
    (hrun : ∀ a : Act, (∀ x u, ev fr x = some u → a.eval x = u) → ∀ w, Holds h L w → ∃ f : Nat → Value, (execOp a.eval o).run P w = .ok (.value (f w.heap.size)) { w with heap := w.heap.push ob } ∧ K h [(w.heap.size, ob)] (f w.heap.size)) : OPc P r o fr h L K :=
  fun a ha w hw => by
    obtain ⟨f, hr, hk⟩ := hrun a ha w hw
    exact wpIn_of_value hd hr ⟨h, [(w.heap.size, ob)], f w.heap.size, rfl, hk, Ext.alloc hw ob⟩
theorem C_box {t : TypeId} {x : Operand} {l : List Value} (hop : o.op = .box t x) (hx : ev fr x = some (.agg l.toArray)) (k : ∀ b, K h [(b, cells l t)] (ptr b 0)) : OPc P r o fr h L K :=
  OPc_new (ob := cells l t) (fun c => by rw [hop]; simp) fun a ha w _ => ⟨fun b => ptr b 0, by unfold execOp; rw [hop]; simp [ha x _ hx, Instr.box, newVar, newRow, Value.cells], k _⟩
theorem C_box1 {t : TypeId} {x : Operand} {v : Value} (hop : o.op = .box t x) (hx : ev fr x = some v) (hv : v.cells = #[v]) (k : ∀ b, K h [(b, cells [v] t)] (ptr b 0)) : OPc P r o fr h L K :=
  OPc_new (ob := cells [v] t) (fun c => by rw [hop]; simp) fun a ha w _ => ⟨fun b => ptr b 0, by unfold execOp; rw [hop]; simp [ha x _ hx, Instr.box, newVar, newRow, hv], k _⟩
/-- the zero value's cells -/
def zeroOf (P : Program) (t : TypeId) : Option (List Value) :=
  match P.info? t with
  | some i => match i.zero with
    | some z => some z.cells.toList
    | none => none
  | none => none
theorem zeroOf_spec {t : TypeId} {l : List Value} (hz : zeroOf P t = some l) : ∃ i z, P.info? t = some i ∧ i.zero = some z ∧ z.cells = l.toArray := by
  unfold zeroOf at hz
  cases hi : P.info? t with
  | none => simp [hi] at hz
  | some i =>
    cases hz0 : i.zero with
    | none => simp [hi, hz0] at hz
    | some z => simp [hi, hz0] at hz; exact ⟨i, z, rfl, hz0, by rw [← hz]⟩
theorem C_alloc {t : TypeId} {l : List Value} (hop : o.op = .alloc t) (hz : zeroOf P t = some l) (k : ∀ b, K h [(b, cells l t)] (ptr b 0)) : OPc P r o fr h L K := by
  obtain ⟨i, z, hi, hz0, hc⟩ := zeroOf_spec hz
  exact OPc_new (ob := cells l t) (fun c => by rw [hop]; simp) fun a ha w _ => ⟨fun b => ptr b 0, by unfold execOp; rw [hop]; simp [Instr.alloc, zeroValue, typeInfo, hi, hz0, newVar, newRow, hc], k _⟩

/-! ### Stores -/
def ones (l : List Value) : Bool := l.all (·.oneCell')
theorem ones_mem {l : List Value} (h : ones l = true) : ∀ v ∈ l, v.oneCell' = true := fun v hv => by
  unfold ones at h; rw [List.all_eq_true] at h; exact h v hv
theorem ones_append {l m : List Value} (h : ones l = true) (h' : ones m = true) : ones (l ++ m) = true := by simp only [ones, List.all_append, Bool.and_eq_true]; exact ⟨h, h'⟩
theorem ones_sub {l : List Value} (h : ones l = true) (a k : Nat) : ones ((l.drop a).take k) = true := by
  unfold ones at *; rw [List.all_eq_true] at *; exact fun v hv => h v (List.mem_of_mem_drop (List.mem_of_mem_take hv))
def putAt (l : List Value) (off : Nat) (vs : List Value) : List Value := l.take off ++ vs ++ l.drop (off + vs.length)
theorem putAt_length {l : List Value} {off : Nat} {vs : List Value} (hle : off + vs.length ≤ l.length) : (putAt l off vs).length = l.length := by
  simp [putAt]; omega
theorem putAt_cons (l : List Value) (off : Nat) (v : Value) (vs : List Value) (hlt : off < l.length) : putAt l off (v :: vs) = putAt (l.set off v) (off + 1) vs := by
  unfold putAt
  have h1 : (l.set off v).take (off + 1) = l.take off ++ [v] := by
    rw [List.take_succ_eq_append_getElem (by simpa using hlt)]
    simp [List.take_set_of_le]
  have h2 : (l.set off v).drop (off + 1 + vs.length) = l.drop (off + (vs.length + 1)) := by
    rw [List.drop_set_of_lt (by omega)]
    congr 1; omega
  rw [h1, h2]; simp
theorem run_storeCells {b : Nat} {t : TypeId} : ∀ (vs : List Value) (i off : Nat) (l : List Value) (w : World), w.heap[b]? = some (cells l t) → off + i + vs.length ≤ l.length → (∀ v ∈ vs, v.oneCell' = true) →
    ∃ w', (storeCells ⟨b, off, none⟩ vs i).run P w = .ok () w' ∧ w'.heap[b]? = some (cells (putAt l (off + i) vs) t) ∧ (∀ k, k ≠ b → w'.heap[k]? = w.heap[k]?) ∧ w'.heap.size = w.heap.size ∧ w'.os = w.os ∧ w'.tape = w.tape ∧ w'.output = w.output ∧ w'.drawn = w.drawn := by
  intro vs
  induction vs with
  | nil => intro i off l w hb _ _; exact ⟨w, rfl, by simpa [putAt] using hb, fun _ _ => rfl, rfl, rfl, rfl, rfl, rfl⟩
  | cons v vs ih =>
    intro i off l w hb hle h1
    have hlt : off + i < l.length := by simp at hle; omega
    have hcell : w.cell? ⟨b, off + i, none⟩ = some l[off + i] := by simp [World.cell?, hb, hlt]
    have hfz : w.frozen? ⟨b, off + i, none⟩ = false := by simp [World.frozen?, hb]
    let w1 := w.setCell ⟨b, off + i, none⟩ v
    have hw1 : w1.heap[b]? = some (cells (l.set (off + i) v) t) := by
      simp only [w1, World.setCell, Array.getElem?_modify, if_true, hb, Option.map_some]
      simp
    obtain ⟨w', hr, hb', hne, hsz, ho, ht, hp, hdn⟩ := ih (i + 1) off (l.set (off + i) v) w1 hw1 (by simp at hle ⊢; omega) (fun u hu => h1 u (List.mem_cons_of_mem _ hu))
    refine ⟨w', ?_, ?_, fun k hk => ?_, ?_, ho.trans rfl, ht.trans rfl, hp.trans rfl, hdn.trans rfl⟩
    · simp only [storeCells, Sem.run_bind, addr_add, run_store P w _ v .plain (h1 v (by simp)), hcell, hfz, Bool.false_eq_true, if_false, Result.andThen_ok]
      exact hr
    · rw [hb', putAt_cons _ _ _ _ hlt, Nat.add_assoc]
    · rw [hne k hk]
      simp only [w1, World.setCell, Array.getElem?_modify]
      rw [if_neg (by omega)]
    · rw [hsz]; simp [w1, World.setCell]
theorem W_put {t : TypeId} {p x : Operand} {b off k : Nat} {g : Bool} {l vs : List Value} {bt : TypeId} {v : Value} {L' : Hp} (hop : o.op = .store t p x) (hp : ev fr p = some (ptr b off)) (hx : ev fr x = some v) (hv : v.cells = vs.toArray) (ht : tyOf P t = some (g, k)) (hk : vs.length = k)
    (h1 : ones vs = true) (hu : Upd b (cells l bt) (cells (putAt l off vs) bt) L L') (hle : off + vs.length ≤ l.length) (kk : K h L' undef) : OPw P r o fr h L K := by
  intro a ha w hw
  obtain ⟨w', hr, hb', hne, hsz, ho, htp, hpo, hdn⟩ := run_storeCells (P := P) (b := b) (t := bt) vs 0 off l w (hw.sees.own _ hu.mem) (by omega) (ones_mem h1)
  refine wpIn_of_skip (w' := w') (fun c => by rw [hop]; simp) ?_ ⟨h, L', undef, rfl, kk, Ext.set hw hu hb' hne hsz ho htp hpo hdn⟩
  unfold execOp; rw [hop]
  simp [ha p _ hp, ha x _ hx, Instr.storeAt, Instr.sureAddr, storeVar, hv, run_sizeOf ht, hk, hr]
/-- the whole of a block, by an aggregate -/
theorem W_all {t : TypeId} {p x : Operand} {b k : Nat} {l vs : List Value} {bt : TypeId} {L' : Hp} (hop : o.op = .store t p x) (hp : ev fr p = some (ptr b 0)) (hx : ev fr x = some (.agg vs.toArray)) (ht : tyOf P t = some (true, k)) (hu : Upd b (cells l bt) (cells vs bt) L L')
    (hk : vs.length = k) (hl : l.length = k) (h1 : ones vs = true) (kk : K h L' undef) : OPw P r o fr h L K := by
  have e : putAt l 0 vs = vs := by simp [putAt, hk, hl]
  exact W_put (v := .agg vs.toArray) hop hp hx rfl ht hk h1 (by rw [e]; exact hu) (by omega) kk
/-- one cell -/
theorem W_fld {t : TypeId} {p x : Operand} {b fo k : Nat} {l : List Value} {bt : TypeId} {v : Value} {L' : Hp} (hop : o.op = .store t p x) (hp : ev fr p = some (ptr b (0 + fo))) (hx : ev fr x = some v) (ht : tyOf P t = some (false, k)) (hu : Upd b (cells l bt) (cells (l.set fo v) bt) L L')
    (hv : v.cells = #[v]) (hk : k = 1) (hl : Nat.blt fo l.length = true) (h1 : v.oneCell' = true) (kk : K h L' undef) : OPw P r o fr h L K := by
  have hlt : fo < l.length := by simpa [Nat.blt_eq] using hl
  have e : putAt l (0 + fo) [v] = l.set fo v := by
    rw [Nat.zero_add, putAt_cons _ _ _ _ hlt]; simp [putAt]
  exact W_put (v := v) (vs := [v]) hop hp hx (by rw [hv]) ht hk.symm (by simp [ones, h1]) (by rw [e]; exact hu) (by simp; omega) kk
theorem W_one {t : TypeId} {p x : Operand} {b k : Nat} {u : Value} {bt : TypeId} {v : Value} {L' : Hp} (hop : o.op = .store t p x) (hp : ev fr p = some (ptr b 0)) (hx : ev fr x = some v) (ht : tyOf P t = some (false, k)) (hu : Upd b (cells [u] bt) (cells [v] bt) L L')
    (hv : v.cells = #[v]) (hk : k = 1) (h1 : v.oneCell' = true) (kk : K h L' undef) : OPw P r o fr h L K :=
  W_fld (l := [u]) (fo := 0) hop hp hx ht hu hv hk rfl h1 kk
/-- a part, by an aggregate -/
theorem W_sub {t : TypeId} {p x : Operand} {b fo k : Nat} {l vs : List Value} {bt : TypeId} {L' : Hp} (hop : o.op = .store t p x) (hp : ev fr p = some (ptr b (0 + fo))) (hx : ev fr x = some (.agg vs.toArray)) (ht : tyOf P t = some (true, k)) (hu : Upd b (cells l bt) (cells (putAt l (0 + fo) vs) bt) L L')
    (hk : vs.length = k) (hl : Nat.ble (fo + k) l.length = true) (h1 : ones vs = true) (kk : K h L' undef) : OPw P r o fr h L K :=
  W_put (v := .agg vs.toArray) hop hp hx rfl ht hk h1 hu (by have := Nat.le_of_ble_eq_true hl; omega) kk
end
end Go.Mesh
