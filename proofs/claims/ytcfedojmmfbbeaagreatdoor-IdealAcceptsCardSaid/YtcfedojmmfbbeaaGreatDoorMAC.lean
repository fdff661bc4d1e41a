/-
  Part MAC of the proof's ground: Ops2, Maps, RangeF.
-/
import Derived.Laws.AppendOwn
import Derived.Test.YtcfedojmmfbbeaaGreatDoorMAB
/-
  MORE OPERATIONS: aggregates and slices that are built, slices of slices, append to a slice that is owned; what an owned slice reads as.
-/
set_option linter.all false
namespace Go.Mesh
open Go.RowKit

section
variable {P : Program} {r : Option Nat} {h : Frag} {L : Hp} {fr : Fr} {o : Oper} {K : OCont} {w : World}

/-! ### Aggregates that are built -/
theorem fill_fold (off : Nat) : ∀ (vs : List Value) (k : Nat) (cs : Array Value), off + k + vs.length ≤ cs.size →
    (vs.zipIdx k).foldl (fun cs (c, j) => cs.setIfInBounds (off + j) c) cs = (putAt cs.toList (off + k) vs).toArray := by
  intro vs
  induction vs with
  | nil => intro k cs _; simp [putAt]
  | cons v vs ih =>
    intro k cs hle
    simp only [List.length_cons] at hle
    simp only [List.zipIdx_cons, List.foldl_cons]
    rw [ih (k + 1) _ (by simp; omega)]
    rw [putAt_cons _ _ _ _ (by simp; omega)]
    simp [Nat.add_assoc]
/-- The parts of an aggregate: offset and cells of each. -/
def partsOk (P : Program) (fr : Fr) (t : TypeId) : List (Nat × Operand) → List (Nat × List Value) → Prop
  | [], ps => ps = []
  | (f, x) :: rest, ps => ∃ v us ft fo g k qs, ev fr x = some v ∧ fieldOf P t f = some (ft, fo) ∧ tyOf P ft = some (g, k) ∧ v.cells = us.toArray ∧ us.length = k ∧ partsOk P fr t rest qs ∧ ps = (fo, us) :: qs
def fillL : List Value → List (Nat × List Value) → List Value
  | z, [] => z
  | z, (fo, us) :: ps => fillL (putAt z fo us) ps
def fillOk : Nat → List (Nat × List Value) → Bool
  | _, [] => true
  | n, (fo, us) :: ps => Nat.ble (fo + us.length) n && fillOk n ps
theorem foldl_zipIdx (a : Array Value) (f : Array Value → Value × Nat → Array Value) (cs : Array Value) : a.zipIdx.foldl f cs = (a.toList.zipIdx 0).foldl f cs := by
  rw [← Array.foldl_toList]; simp
theorem fill_eq {a : Act} (ha : ∀ x u, ev fr x = some u → a.eval x = u) {t : TypeId} {fs : Array Field} (hu : P.underlying t = some (.struct fs)) (places : Array (Nat × Nat))
    (hp : ∀ (f ft fo k : Nat) (g : Bool), fieldOf P t f = some (ft, fo) → tyOf P ft = some (g, k) → places[f]? = some (fo, k)) :
    ∀ (xs : List (Nat × Operand)) (ps : List (Nat × List Value)) (z : List Value), partsOk P fr t xs ps → fillOk z.length ps = true →
      Instr.fill (places[·]?) z.toArray (xs.map fun (i, x) => (i, a.eval x)) = some (fillL z ps).toArray := by
  intro xs
  induction xs with
  | nil => intro ps z e _; cases e; simp [Instr.fill, fillL]
  | cons p xs ih =>
    obtain ⟨f, x⟩ := p
    intro ps z ⟨v, us, ft, fo, g, k, qs, e1, e2, e3, e4, e5, e6, e7⟩ hok
    subst e7
    simp only [fillOk, Bool.and_eq_true] at hok
    have hle := Nat.le_of_ble_eq_true hok.1
    simp only [List.map_cons, Instr.fill, ha x v e1, hp f ft fo k g e2 e3, e4]
    have hsz : us.toArray.size = k := by simpa using e5
    rw [if_neg (by simp [hsz, e5] at hle ⊢; omega), foldl_zipIdx, fill_fold fo _ 0 _ (by simpa using hle)]
    simp only [Nat.add_zero]
    have := ih qs (putAt z fo us) e6 (by rw [putAt_length hle]; exact hok.2)
    simpa [fillL] using this
theorem run_mapM_places (fs : Array Field) : ∀ (l : List Field), (∀ f ∈ l, (P.info? f.type).isSome = true) →
    (l.mapM fun (f : Field) => do pure (f.offset, ← sizeOf f.type)).run P w = .ok (l.map fun f => (f.offset, P.cellsOf f.type)) w := by
  intro l
  induction l with
  | nil => intro _; rfl
  | cons f l ih =>
    intro hl
    have hf := hl f (by simp)
    cases hi : P.info? f.type with
    | none => simp [hi] at hf
    | some i =>
      simp only [List.mapM_cons, Sem.run_bind, sizeOf, typeInfo, run_program, hi, Result.andThen_ok, Sem.run_pure]
      have := ih (fun g hg => hl g (List.mem_cons_of_mem _ hg))
      simp only [sizeOf, typeInfo] at this
      rw [this]
      simp [Program.cellsOf, hi]
/-- all fields' types are known -/
def fieldsKnown (P : Program) (t : TypeId) : Bool :=
  match P.underlying t with
  | some (.struct fs) => fs.toList.all fun f => (P.info? f.type).isSome
  | _ => false
theorem fieldsKnown_spec {t : TypeId} (hk : fieldsKnown P t = true) : ∃ fs, P.underlying t = some (.struct fs) ∧ ∀ f ∈ fs.toList, (P.info? f.type).isSome = true := by
  unfold fieldsKnown at hk
  split at hk
  · rename_i fs hu; exact ⟨fs, hu, List.all_eq_true.1 hk⟩
  · cases hk
theorem Q_build {t : TypeId} {parts : Array (Nat × Operand)} {z : List Value} {ps : List (Nat × List Value)} (hop : o.op = .build t parts) (hk : fieldsKnown P t = true) (hz : zeroOf P t = some z) (hps : partsOk P fr t parts.toList ps) (hok : fillOk z.length ps = true) :
    QOP P o fr h L (.agg (fillL z ps).toArray) :=
  ⟨fun c => by rw [hop]; simp, fun a ha w _ => by
    obtain ⟨i, zv, hi, hz0, hc⟩ := zeroOf_spec hz
    obtain ⟨fs, hu, hk⟩ := fieldsKnown_spec hk
    have _ := hk
    ·
      have hm := run_mapM_places (P := P) (w := w) fs fs.toList (fun f hf => hk f hf)
      have hm' : (fs.mapM fun (f : Field) => do pure (f.offset, ← sizeOf f.type)).run P w = .ok (fs.toList.map fun f => (f.offset, P.cellsOf f.type)).toArray w := by
        rw [Array.mapM_eq_mapM_toList, Sem.run_map, hm]; rfl
      have hfill := fill_eq (P := P) ha hu (fs.toList.map fun f => (f.offset, P.cellsOf f.type)).toArray (by
        intro f ft fo k g h1 h2
        unfold fieldOf at h1
        simp only [hu] at h1
        cases hfs : fs[f]? with
        | none => simp [hfs] at h1
        | some x =>
          simp only [hfs] at h1
          cases hi2 : P.info? x.type with
          | none => simp [hi2] at h1
          | some i2 =>
            simp only [hi2] at h1
            split at h1
            · cases h1
            · cases h1
              unfold tyOf at h2
              rw [hi2] at h2
              cases hu2 : P.underlying x.type with
              | none => simp [hu2] at h2
              | some d2 =>
                simp only [hu2, Option.some.injEq, Prod.mk.injEq] at h2
                simp [hfs, Program.cellsOf, hi2, h2.2]) parts.toList ps z hps hok
      unfold execOp; rw [hop]
      have hparts : (parts.map fun (i, x) => (i, a.eval x)).toList = parts.toList.map fun (i, x) => (i, a.eval x) := by simp
      simp only [Instr.build, zeroValue, typeInfo, Sem.run_bind, run_program, hi, Result.andThen_ok, Sem.run_pure, hz0, run_underlying' hu, hm', hc, hparts, hfill]⟩

/-! ### Slices that are built -/
/-- The parts of a slice, 0, 1, 2 and so on, of k cells each, in a row. -/
def rowParts (fr : Fr) (k : Nat) : Nat → List (Nat × Operand) → List Value → Prop
  | _, [], us => us = []
  | j, (i, x) :: rest, us => ∃ v vs ws, i = j ∧ ev fr x = some v ∧ v.cells = vs.toArray ∧ vs.length = k ∧ rowParts fr k (j + 1) rest ws ∧ us = vs ++ ws
theorem rowParts_len {k : Nat} : ∀ {xs : List (Nat × Operand)} {j : Nat} {us : List Value}, rowParts fr k j xs us → us.length = xs.length * k
  | [], _, _, e => by cases e; simp
  | (i, x) :: xs, j, _, ⟨v, vs, ws, _, _, _, e5, e6, e7⟩ => by
    subst e7
    have := rowParts_len e6
    simp [e5, this, Nat.add_mul]; omega
theorem fill_row {a : Act} (ha : ∀ x u, ev fr x = some u → a.eval x = u) {k : Nat} : ∀ (xs : List (Nat × Operand)) (j : Nat) (us pre post : List Value), rowParts fr k j xs us → pre.length = j * k → post.length = xs.length * k →
    Instr.fill (fun i => some (i * k, k)) (pre ++ post).toArray (xs.map fun (i, x) => (i, a.eval x)) = some (pre ++ us).toArray := by
  intro xs
  induction xs with
  | nil => intro j us pre post e _ hp; cases e; simp at hp; subst hp; simp [Instr.fill]
  | cons p xs ih =>
    obtain ⟨i, x⟩ := p
    intro j us pre post ⟨v, vs, ws, e1, e2, e3, e4, e5, e6⟩ hpre hpost
    subst e1
    subst e6
    simp only [List.map_cons, Instr.fill, ha x v e2, e3]
    have hlen : (i * k) + vs.length ≤ (pre ++ post).length := by simp [hpre, hpost, e4, Nat.add_mul]
    rw [if_neg (by simp [e4] at hlen ⊢; omega), foldl_zipIdx, fill_fold (i * k) _ 0 _ (by simpa using hlen)]
    have hput : putAt (pre ++ post) (i * k + 0) vs = (pre ++ vs) ++ post.drop vs.length := by
      simp only [putAt, Nat.add_zero, ← hpre]
      rw [List.take_left, List.drop_append]
      simp
    have hthis : (vs.toArray.toList.zipIdx 0).length = (vs.toArray.toList.zipIdx 0).length := rfl
    simp only [hput] at *
    have := ih (i + 1) ws (pre ++ vs) (post.drop vs.length) e5 (by simp [hpre, e4, Nat.add_mul]) (by simp [hpost, e4, Nat.add_mul])
    simpa [hput] using this
theorem C_buildSlice {t e k by_ n : Nat} {parts : Array (Nat × Operand)} {us z : List Value} (hop : o.op = .buildSlice t n parts) (he : elemOf? P t = some (e, k, by_)) (hz : zeroOf P e = some z) (hzk : z.length = k) (hps : rowParts fr k 0 parts.toList us) (hn : parts.toList.length = n) (hle : Nat.ble (n * k) 16777216 = true)
    (kk : ∀ b, K h [(b, cells us e)] (.slice (some ⟨b, 0, none⟩) n n)) : OPc P r o fr h L K :=
  OPc_new (ob := cells us e) (fun c => by rw [hop]; simp) fun a ha w _ => ⟨fun b => .slice (some ⟨b, 0, none⟩) n n, by
    obtain ⟨hu, i0, hi, hk, _⟩ := elemOf?_spec he
    obtain ⟨i, zv, hi', hz0, hc⟩ := zeroOf_spec hz
    rw [hi] at hi'; cases hi'
    have hle' := Nat.le_of_ble_eq_true hle
    have hlen := rowParts_len hps
    rw [hn] at hlen
    unfold execOp; rw [hop]
    have hparts : (parts.map fun (i, x) => (i, a.eval x)).toList = parts.toList.map fun (i, x) => (i, a.eval x) := by simp
    have hnot : ¬ (n * k > 2 ^ 24) := by
      have : (2 : Nat) ^ 24 = 16777216 := rfl
      omega
    simp only [Instr.buildSlice, Sem.run_bind, run_underlying' hu, Result.andThen_ok, sizeOf, typeInfo, run_program, hi, Sem.run_pure, hk, Sem.run_ite, hnot, if_false]
    by_cases h0 : n * k = 0
    · have hus : us = [] := List.eq_nil_of_length_eq_zero (by omega)
      subst hus
      have hfill := fill_row ha parts.toList 0 [] [] [] hps (by simp) (by simp [hn, h0])
      simp only [h0, if_true, Sem.run_pure, Result.andThen_ok, hparts]
      simp only [List.nil_append, List.append_nil] at hfill
      have h00 : (Array.range 0).map (fun x => (#[] : Array Value)[x % (#[] : Array Value).size]!) = #[] := by apply Array.ext <;> simp
      rw [h00, hfill]
      rfl
    · have hfill := fill_row ha parts.toList 0 us [] ((Array.range (n * k)).map fun x => z.toArray[x % z.toArray.size]!).toList hps (by simp) (by simp [hn])
      simp only [h0, if_false, zeroValue, typeInfo, Sem.run_bind, run_program, hi, Result.andThen_ok, Sem.run_pure, hz0, hc, hparts]
      simp only [List.nil_append] at hfill
      have hconv : ((Array.range (n * k)).map fun x => z.toArray[x % z.toArray.size]!).toList.toArray = (Array.range (n * k)).map fun x => z.toArray[x % z.toArray.size]! := Array.toArray_toList
      rw [hconv] at hfill
      rw [hfill]
      rfl, kk _⟩

/-! ### Parts of slices -/
theorem Q_slice {t e k by_ : Nat} {s : Operand} {lo hi : Option Operand} {b off n cap l u : Nat} (hop : o.op = .slice t s lo hi none) (hs : ev fr s = some (.slice (some ⟨b, off, none⟩) n cap)) (he : elemOf? P t = some (e, k, by_))
    (hlo : match lo with | some x => ∃ q, ev fr x = some (.int q (l : Int)) | none => l = 0) (hhi : match hi with | some x => ∃ q, ev fr x = some (.int q (u : Int)) | none => u = n) (hlu : l ≤ u) (huc : u ≤ cap) (hne : l < cap) :
    QOP P o fr h L (.slice (some ⟨b, off + l * k, none⟩) (u - l) (cap - l)) :=
  ⟨fun c => by rw [hop]; simp, fun a ha w _ => by
    obtain ⟨hu, i0, hi0, hk, _⟩ := elemOf?_spec he
    unfold execOp; rw [hop]
    have hne' : ¬ cap = l := by omega
    have huc' : ((u : Int) ≤ (cap : Int)) := by omega
    have hlu' : ((l : Int) ≤ (u : Int)) := by omega
    cases lo with
    | none =>
      subst hlo
      cases hi with
      | none =>
        subst hhi
        have h0 : ¬ cap = 0 := by omega
        simp [ha s _ hs, Instr.sliceAt, run_underlying' hu, Instr.slice, Instr.sliceBounds, sizeOf, typeInfo, hi0, hk, h0, addr_add]
      | some x =>
        obtain ⟨q, hq⟩ := hhi
        have h0 : ¬ cap = 0 := by omega
        simp [ha s _ hs, ha x _ hq, Instr.sliceAt, run_underlying' hu, Instr.slice, Instr.sliceBounds, Instr.sliceBound, asIntOf, huc, sizeOf, typeInfo, hi0, hk, h0, addr_add]
    | some y =>
      obtain ⟨q, hq⟩ := hlo
      cases hi with
      | none =>
        subst hhi
        simp [ha s _ hs, ha y _ hq, Instr.sliceAt, run_underlying' hu, Instr.slice, Instr.sliceBounds, Instr.sliceBound, asIntOf, hlu, sizeOf, typeInfo, hi0, hk, hne', addr_add]
      | some x =>
        obtain ⟨q', hq'⟩ := hhi
        simp [ha s _ hs, ha y _ hq, ha x _ hq', Instr.sliceAt, run_underlying' hu, Instr.slice, Instr.sliceBounds, Instr.sliceBound, asIntOf, huc, hlu, sizeOf, typeInfo, hi0, hk, hne', addr_add]⟩

/-! ### Numbers turned into other kinds -/
theorem Q_conv {s t : TypeId} {x : Operand} {q k : IntKind} {m : Int} (hop : o.op = .convert s t x) (hx : ev fr x = some (.int q m)) (hs : ∃ d, P.underlying s = some d) (ht : P.underlying t = some (.int k)) : QOP P o fr h L (.int k (k.wrap m)) := by
  refine ⟨fun c => by rw [hop]; simp, fun a ha w _ => ?_⟩
  obtain ⟨d, hd⟩ := hs
  unfold execOp; rw [hop]
  simp only [ha x _ hx, convert, Sem.run_bind, run_underlying' hd, run_underlying' ht, Result.andThen_ok]
  cases d <;> simp [Conv.intToInt]
theorem Q_shl {t u : TypeId} {x y : Operand} {k q : IntKind} {m n : Int} {v : Value} (hop : o.op = .binOp .shl t x y u) (hx : ev fr x = some (.int k m)) (hy : ev fr y = some (.int q n)) (hv : ∀ w, (Op.shift .shl k m q n).run P w = .ok v w) : QOP P o fr h L v :=
  ⟨fun c => by rw [hop]; simp, fun a ha w _ => by
    unfold execOp; rw [hop]
    simp [ha x _ hx, ha y _ hy, eqGuard, binOp, hv w]⟩

theorem run_equal_slice {t e : TypeId} {p : Option Addr} {n c : Nat} (ht : P.underlying t = some (.slice e)) : (Op.equal t (.slice p n c) (.slice none 0 0)).run P w = .ok p.isNone w := by
  unfold Op.equal
  rw [show Op.maxDepth = 9999 + 1 from rfl, Op.equalIn]
  cases p <;> simp [run_underlying' ht]
theorem Q_eqNil {t u e : TypeId} {x y : Operand} {p : Option Addr} {n c : Nat} (hop : o.op = .binOp .eql t x y u) (hx : ev fr x = some (.slice p n c)) (hy : ev fr y = some (.slice none 0 0)) (ht : P.underlying t = some (.slice e)) : QOP P o fr h L (.bool p.isNone) :=
  ⟨fun c => by rw [hop]; simp, fun a ha w _ => by
    unfold execOp; rw [hop]
    simp only [ha x _ hx, ha y _ hy, eqGuard, binOp, Sem.run_bind, run_equal_slice ht]
    simp⟩

/-! ### A slice that is owned -/
def Row (e k : Nat) (v : Value) (n : Nat) (us : List Value) (M : Hp) : Prop :=
  us.length = n * k ∧ ((v = .slice none 0 0 ∧ n = 0 ∧ M = []) ∨ ∃ b cap rest, v = .slice (some ⟨b, 0, none⟩) n cap ∧ M = [(b, cells (us ++ rest) e)] ∧ us.length + rest.length = cap * k ∧ n ≤ cap)
theorem Row.nil (e k : Nat) : Row e k (.slice none 0 0) 0 [] [] := ⟨by simp, .inl ⟨rfl, rfl, rfl⟩⟩
theorem Row.lit {e k n b : Nat} {us : List Value} (hl : us.length = n * k) : Row e k (.slice (some ⟨b, 0, none⟩) n n) n us [(b, cells us e)] :=
  ⟨hl, .inr ⟨b, n, [], rfl, by simp, by simp [hl], Nat.le_refl _⟩⟩
theorem Row.slice {e k n : Nat} {v : Value} {us : List Value} {M : Hp} (x : Row e k v n us M) : ∃ p cap, v = .slice p n cap := by
  obtain ⟨_, ⟨rfl, rfl, _⟩ | ⟨b, cap, rest, rfl, _⟩⟩ := x
  · exact ⟨none, 0, rfl⟩
  · exact ⟨_, cap, rfl⟩

theorem ext_drew_alloc {h : Frag} {L : Hp} {w : World} (s : Holds h L w) (ob : Obj) : Ext h L w h ((w.heap.size, ob) :: L) (w.drew.alloc ob) :=
  (Ext.same (w' := w.drew) s rfl rfl rfl rfl (Nat.le_succ _)).trans (Ext.alloc (w := w.drew) (Ext.same (w' := w.drew) s rfl rfl rfl rfl (Nat.le_succ _)).holds ob)

theorem W_append {c : Call} {s x : Operand} {t e k by_ n m cc : Nat} {v : Value} {p : Option Addr} {us ws z : List Value} {M : Hp} (L2 L3 : Hp) (hop : o.op = .call c) (hc : c.callee = .builtin .append) (ha : c.args = #[s, x]) (hat : c.argTypes = #[t, t])
    (hs : ev fr s = some v) (hx : ev fr x = some (.slice p m cc)) (he : elemOf? P t = some (e, k, by_)) (hz : zeroOf P e = some z) (hzk : z.length = k) (hrow : Row e k v n us M) (hL : L = L2 ++ M) (hs3 : List.Sublist L3 L2)
    (hsrc : m = 0 ∨ ∃ b off, p = some ⟨b, off, none⟩ ∧ Rd h L b off ws) (hws : ws.length = m * k) (h1 : ones ws = true) (hb : (n + m) * by_ ≤ 140737488355328) (hnm : n + m ≤ 9223372036854775807)
    (kk : ∀ v' M', Row e k v' (n + m) (us ++ ws) M' → K h (L3 ++ M') v') : OPw P r o fr h L K := by
  obtain ⟨hu, i0, hi, hk, hby⟩ := elemOf?_spec he
  obtain ⟨i, zv, hi', hz0, hzc⟩ := zeroOf_spec hz
  rw [hi] at hi'; cases hi'
  have hex : ∀ a : Act, (∀ x u, ev fr x = some u → a.eval x = u) → ∀ (w w' : World) (v' : Value), (Builtin.append_ #[t, t] o.type #[v, .slice p m cc]).run P w = .ok v' w' → (execOp a.eval o).run P w = .ok (.value v') w' := by
    intro a hal w w' v' hr
    unfold execOp; rw [hop]
    simp [resolve, hc, ha, hat, invoke, builtin, hal s _ hs, hal x _ hx, hr]
  have hd : ∀ c', o.op ≠ .defer c' := fun c' => by rw [hop]; simp
  intro a hal w hw
  have hw0 := hw
  rw [hL] at hw
  obtain ⟨hul, hcase⟩ := hrow
  by_cases hm : m = 0
  · subst hm
    have hws0 : ws = [] := List.eq_nil_of_length_eq_zero (by simpa using hws)
    subst hws0
    have hrow' : Row e k v (n + 0) (us ++ []) M := by simpa using ⟨hul, hcase⟩
    have hr : (Builtin.append_ #[t, t] o.type #[v, .slice p 0 cc]).run P w = .ok v w := by
      rcases hcase with ⟨rfl, rfl, _⟩ | ⟨b, cap, rest, rfl, _, _, hnc⟩
      · cases p <;> simp [Builtin.append_, run_underlying' hu, sizeOf, typeInfo, hi, Builtin.lenOf, Builtin.firstCells, loadCells, loadCellsFrom]
      · cases p <;> simp [Builtin.append_, run_underlying' hu, sizeOf, typeInfo, hi, Builtin.lenOf, Builtin.firstCells, loadCells, loadCellsFrom, hnc, storeCells]
    refine wpIn_of_value hd (hex a hal w w v hr) ⟨h, L3 ++ M, v, rfl, kk v M hrow', ?_⟩
    rw [hL]
    exact (Ext.refl hw).drop (hs3.append (List.Sublist.refl M))
  · obtain ⟨b, off, rfl, hrd⟩ := hsrc.resolve_left hm
    have hnews : ∀ (w : World), Sees h L w → ∀ j u, ws[j]? = some u → w.cell? ((⟨b, off, none⟩ : Addr).add j) = some u := fun w hw j u e => by rw [addr_add]; exact hrd.cell hw e
    have hwsl : ws.length = m * i0.size := by rw [hk]; exact hws
    rcases hcase with ⟨rfl, rfl, rfl⟩ | ⟨bv, cap, rest, rfl, rfl, hcap, hnc⟩
    · have hus : us = [] := List.eq_nil_of_length_eq_zero (by simpa using hul)
      subst hus
      have hr := run_append_nil (P := P) w t o.type e i0 zv hu hi hz0 ⟨b, off, none⟩ m cc ws hwsl (hnews w hw0.sees) (by omega) (by omega) (by simp only [Nat.zero_add] at hb; rw [hby]; omega)
      have hge := grownCap_ge w m 0 e
      refine wpIn_of_value hd (hex a hal w _ _ hr) ⟨h, L3 ++ [(w.heap.size, _)], _, rfl, kk _ [(w.heap.size, cells (ws ++ (Builtin.zeroCells zv.cells (grownCap w m 0 e - m)).toList) e)] ⟨by simpa using hws, .inr ⟨w.heap.size, grownCap w m 0 e, (Builtin.zeroCells zv.cells (grownCap w m 0 e - m)).toList, by simp, by simp, ?_, by omega⟩⟩, ?_⟩
      · simp [size_zeroCells, hzc, hzk, hws, ← Nat.add_mul]; congr 1; omega
      · rw [List.append_nil] at hw
        rw [hL, List.append_nil]
        have hx := ext_drew_alloc hw (.cells (ws.toArray ++ Builtin.zeroCells zv.cells (grownCap w m 0 e - m)) e)
        have hob : (Obj.cells (ws.toArray ++ Builtin.zeroCells zv.cells (grownCap w m 0 e - m)) e) = cells (ws ++ (Builtin.zeroCells zv.cells (grownCap w m 0 e - m)).toList) e := by
          simp [cells]
        rw [hob] at hx ⊢
        exact (hx.perm (L2 := L2 ++ [(w.heap.size, _)]) (by simpa using List.perm_append_comm)).drop (hs3.append (List.Sublist.refl _))
    · have hbv : w.heap[bv]? = some (cells (us ++ rest) e) := hw.sees.own (bv, cells (us ++ rest) e) (by simp)
      by_cases hroom : n + m ≤ cap
      · have hfit : n * i0.size + ws.length ≤ (us ++ rest).toArray.size := by
          rw [hk, hws, ← Nat.add_mul]; simp only [List.size_toArray, List.length_append, hcap]; exact Nat.mul_le_mul_right _ hroom
        have hr := run_append_room (P := P) w t o.type e i0 hu hi bv n cap (us ++ rest).toArray hbv ⟨b, off, none⟩ m cc ws hwsl (hnews w hw0.sees) (ones_mem h1) hroom hfit
        have hcont : ((us ++ rest).toArray.toList.take (n * i0.size) ++ ws ++ (us ++ rest).toArray.toList.drop (n * i0.size + ws.length)) = (us ++ ws) ++ rest.drop ws.length := by
          rw [hk, ← hul]
          simp [List.drop_append]
        rw [hcont] at hr
        have hcapk : (n + m) * k ≤ cap * k := Nat.mul_le_mul_right _ hroom
        refine wpIn_of_value hd (hex a hal w _ _ hr) ⟨h, L3 ++ [(bv, cells ((us ++ ws) ++ rest.drop ws.length) e)], _, rfl, kk _ _ ⟨by simp [hul, hws, Nat.add_mul], .inr ⟨bv, cap, rest.drop ws.length, rfl, rfl, ?_, hroom⟩⟩, ?_⟩
        · simp only [List.length_append, List.length_drop, hws, hul] at *; rw [Nat.add_mul] at hcapk; omega
        · rw [hL]
          refine (Ext.set hw (w' := w.setRow bv ((us ++ ws) ++ rest.drop ws.length).toArray) (o' := cells ((us ++ ws) ++ rest.drop ws.length) e) (b := bv) (o := cells (us ++ rest) e) (L' := L2 ++ [(bv, cells ((us ++ ws) ++ rest.drop ws.length) e)]) ⟨L2, [], rfl, rfl⟩ ?_ ?_ ?_ rfl rfl rfl rfl).drop (hs3.append (List.Sublist.refl _))
          · exact setRow_heap w bv _ _ e _ hbv
          · exact fun j hj => setRow_other w bv j _ hj
          · simp [World.setRow]
      · have holds : ∀ j u, us[j]? = some u → w.cell? ((⟨bv, 0, none⟩ : Addr).add j) = some u := fun j u ej => by
          rw [addr_add]
          have hlt := (List.getElem?_eq_some_iff.1 ej).1
          simp only [World.cell?, hbv, Nat.zero_add]
          simp [List.getElem?_append_left hlt, ej]
        have hr := run_append_grow (P := P) w t o.type e i0 zv hu hi hz0 ⟨bv, 0, none⟩ n cap us (by rw [hk]; exact hul) holds ⟨b, off, none⟩ m cc ws hwsl (hnews w hw0.sees) (by omega) (by omega) (growslice_fits (by omega) (by rw [hby]; exact hb))
        have hge := grownCap_ge w (n + m) cap e
        refine wpIn_of_value hd (hex a hal w _ _ hr) ⟨h, L3 ++ [(w.heap.size, _)], _, rfl, kk _ [(w.heap.size, cells ((us ++ ws) ++ (Builtin.zeroCells zv.cells (grownCap w (n + m) cap e - (n + m))).toList) e)] ⟨by simp [hul, hws, Nat.add_mul], .inr ⟨w.heap.size, grownCap w (n + m) cap e, _, rfl, rfl, ?_, hge⟩⟩, ?_⟩
        · simp [size_zeroCells, hzc, hzk, hws, hul, ← Nat.add_mul]; congr 1; omega
        · rw [hL]
          have hx := ext_drew_alloc hw (.cells (us.toArray ++ ws.toArray ++ Builtin.zeroCells zv.cells (grownCap w (n + m) cap e - (n + m))) e)
          have hob : (Obj.cells (us.toArray ++ ws.toArray ++ Builtin.zeroCells zv.cells (grownCap w (n + m) cap e - (n + m))) e) = cells ((us ++ ws) ++ (Builtin.zeroCells zv.cells (grownCap w (n + m) cap e - (n + m))).toList) e := by
            simp [cells]
          rw [hob] at hx ⊢
          refine (hx.drop (L2 := (w.heap.size, _) :: L2) (List.Sublist.cons_cons _ (List.sublist_append_left _ _))).perm (L2 := L2 ++ [(w.heap.size, _)]) (by simpa using List.perm_append_comm) |>.drop (hs3.append (List.Sublist.refl _))
end
end Go.Mesh
/-
  MAPS: a map that is made, looked up, written and ranged over; its entries are a list of keys and values, in the order in which the keys came.
-/
set_option linter.all false
namespace Go.Mesh
open Go.RowKit
set_option linter.unusedSectionVars false
set_option linter.unusedSimpArgs false

section
variable {κ : Type} [DecidableEq κ]
def ent (kc : κ → Value) : Nat → List (κ × Value) → List MapEntry
  | _, [] => []
  | j, (k, v) :: ps => ⟨kc k, v, j⟩ :: ent kc (j + 1) ps
def mapObj (kc : κ → Value) (ps : List (κ × Value)) : Obj := .map (ent kc 0 ps).toArray ps.length
def fidx (k : κ) : Nat → List (κ × Value) → Option (Nat × Value)
  | _, [] => none
  | j, (k', v) :: ps => if k' = k then some (j, v) else fidx k (j + 1) ps
def mget (k : κ) : List (κ × Value) → Option Value
  | [] => none
  | (k', v) :: ps => if k' = k then some v else mget k ps
def mput (k : κ) (v : Value) : List (κ × Value) → List (κ × Value)
  | [] => [(k, v)]
  | (k', v') :: ps => if k' = k then (k', v) :: ps else (k', v') :: mput k v ps

theorem ent_length (kc : κ → Value) : ∀ (ps : List (κ × Value)) (j : Nat), (ent kc j ps).length = ps.length
  | [], _ => rfl
  | (_, _) :: ps, j => by simp [ent, ent_length kc ps]
theorem fidx_get (k : κ) : ∀ (ps : List (κ × Value)) (j : Nat), (fidx k j ps).map (·.2) = mget k ps
  | [], _ => rfl
  | (k', v) :: ps, j => by
    simp only [fidx, mget]
    split
    · rfl
    · exact fidx_get k ps (j + 1)
theorem ent_get (kc : κ → Value) : ∀ (ps : List (κ × Value)) (j i : Nat), (ent kc j ps)[i]? = (ps[i]?).map fun p => ⟨kc p.1, p.2, j + i⟩
  | [], _, _ => by simp [ent]
  | (k, v) :: ps, j, 0 => by simp [ent]
  | (k, v) :: ps, j, i + 1 => by simp [ent, ent_get kc ps (j + 1) i, Nat.add_assoc, Nat.add_comm 1 i]
theorem fidx_some (kc : κ → Value) (k : κ) (v : Value) : ∀ (ps : List (κ × Value)) (j i : Nat) (u : Value), fidx k j ps = some (i, u) → j ≤ i ∧ (ent kc j ps).modify (i - j) (fun e => { e with key := kc k, val := v }) = ent kc j (mput k v ps) ∧ (mput k v ps).length = ps.length ∧ ((ent kc j ps)[i - j]?).map (·.key) = some (kc k)
  | [], _, _, _, h => by cases h
  | (k', v') :: ps, j, i, u, h => by
    simp only [fidx] at h
    split at h
    · rename_i hk
      subst hk
      cases h
      refine ⟨Nat.le_refl _, ?_, ?_, ?_⟩ <;> simp [ent, mput]
    · rename_i hk
      obtain ⟨h1, h2, h3, h4⟩ := fidx_some kc k v ps (j + 1) i u h
      have e : i - j = (i - (j + 1)) + 1 := by omega
      refine ⟨by omega, ?_, ?_, ?_⟩
      · rw [e]; simp only [ent, mput, if_neg hk, List.modify_succ_cons, h2]
      · simp [mput, hk, h3]
      · rw [e]; simpa [ent] using h4
theorem fidx_none (kc : κ → Value) (k : κ) (v : Value) : ∀ (ps : List (κ × Value)) (j : Nat), fidx k j ps = none → ent kc j (mput k v ps) = ent kc j ps ++ [⟨kc k, v, j + ps.length⟩] ∧ (mput k v ps).length = ps.length + 1
  | [], j, _ => by simp [ent, mput]
  | (k', v') :: ps, j, h => by
    simp only [fidx] at h
    split at h
    · cases h
    · rename_i hk
      obtain ⟨h1, h2⟩ := fidx_none kc k v ps (j + 1) h
      simp [ent, mput, hk, h1, h2, Nat.add_assoc, Nat.add_comm 1]

structure KeyLaw (P : Program) (kt : TypeId) (kc : κ → Value) : Prop where
  check : ∀ (w : World) (b : Bool) (k : κ), (Instr.checkKey b 10000 kt (kc k)).run P w = .ok () w
  find : ∀ (w : World) (k : κ) (ps : List (κ × Value)), (Instr.findKey kt (kc k) (ent kc 0 ps)).run P w = .ok (fidx k 0 ps) w
  bits : ∀ k : κ, Instr.sameBits 10000 (kc k) (kc k) = true

/-- The block b is this map: one that nobody writes, or an owned one. -/
def IsMap (h : Frag) (L : Hp) (b : Nat) (ob : Obj) : Prop := h b = some ob ∨ (b, ob) ∈ L
theorem IsMap.get {h : Frag} {L : Hp} {b : Nat} {ob : Obj} {w : World} (x : IsMap h L b ob) (hw : Sees h L w) : w.heap[b]? = some ob := x.elim (fun e => hw.pers _ _ e) (fun e => hw.own _ e)
theorem IsMap.mono {h h' : Frag} {L : Hp} {b : Nat} {ob : Obj} (x : h b = some ob) (hl : le h h') : IsMap h' L b ob := .inl (hl _ _ x)

variable {P : Program} {r : Option Nat} {h : Frag} {L : Hp} {fr : Fr} {o : Oper} {K : OCont} {w : World} {kc : κ → Value}
theorem run_getObj_map {b : Nat} {ps : List (κ × Value)} (hb : w.heap[b]? = some (mapObj kc ps)) : (getObj b).run P w = .ok (mapObj kc ps) w := by
  simp [getObj, Sem.run, hb, mapObj]
def zvOf (P : Program) (t : TypeId) : Option Value := match P.info? t with | some i => i.zero | none => none
theorem run_zeroValue {t : TypeId} {z : Value} (hz : zvOf P t = some z) : (zeroValue t).run P w = .ok z w := by
  unfold zvOf at hz
  cases hi : P.info? t with
  | none => simp [hi] at hz
  | some i => simp only [hi] at hz; simp [zeroValue, typeInfo, hi, hz]
theorem run_lookup {t kt et b : Nat} {k : κ} {ps : List (κ × Value)} {z : Value} {ok : Bool} (kl : KeyLaw P kt kc) (ht : P.underlying t = some (.map kt et)) (hz : zvOf P et = some z) (hb : w.heap[b]? = some (mapObj kc ps)) :
    (Instr.lookup t (.map (some b)) (kc k) ok).run P w = .ok (if ok then .tuple #[(mget k ps).getD z, .bool (mget k ps).isSome] else (mget k ps).getD z) w := by
  unfold Instr.lookup
  simp only [Sem.run_bind, run_underlying' ht, Result.andThen_ok, run_getObj_map hb]
  simp only [mapObj]
  have hg := fidx_get k ps 0
  cases hf : fidx k 0 ps with
  | none =>
    rw [hf] at hg
    simp only [Option.map_none] at hg
    simp only [← hg]
    cases ok <;> simp [kl.check, kl.find, hf, run_zeroValue hz]
  | some p =>
    rw [hf] at hg
    obtain ⟨i, u⟩ := p
    simp only [Option.map_some] at hg
    simp only [← hg]
    cases ok <;> simp [kl.check, kl.find, hf]
theorem Q_lookup {t kt et b : Nat} {x y : Operand} {k : κ} {ps : List (κ × Value)} {z : Value} (hop : o.op = .lookup t x y false) (hx : ev fr x = some (.map (some b))) (hy : ev fr y = some (kc k)) (kl : KeyLaw P kt kc) (ht : P.underlying t = some (.map kt et)) (hz : zvOf P et = some z) (hm : IsMap h L b (mapObj kc ps)) :
    QOP P o fr h L ((mget k ps).getD z) :=
  ⟨fun c => by rw [hop]; simp, fun a ha w hw => by
    unfold execOp; rw [hop]
    simp only [ha x _ hx, ha y _ hy, Sem.run_bind, run_lookup kl ht hz (hm.get hw)]
    simp⟩
theorem Q_lookupOk {t kt et b : Nat} {x y : Operand} {k : κ} {ps : List (κ × Value)} {z : Value} (hop : o.op = .lookup t x y true) (hx : ev fr x = some (.map (some b))) (hy : ev fr y = some (kc k)) (kl : KeyLaw P kt kc) (ht : P.underlying t = some (.map kt et)) (hz : zvOf P et = some z) (hm : IsMap h L b (mapObj kc ps)) :
    QOP P o fr h L (.tuple #[(mget k ps).getD z, .bool (mget k ps).isSome]) :=
  ⟨fun c => by rw [hop]; simp, fun a ha w hw => by
    unfold execOp; rw [hop]
    simp only [ha x _ hx, ha y _ hy, Sem.run_bind, run_lookup kl ht hz (hm.get hw)]
    simp⟩
theorem C_makeMap {t : TypeId} (kc : κ → Value) (hop : o.op = .makeMap t none) (k : ∀ b, K h [(b, mapObj kc [])] (.map (some b))) : OPc P r o fr h L K :=
  OPc_new (ob := mapObj kc []) (fun c => by rw [hop]; simp) fun a ha w _ => ⟨fun b => .map (some b), by unfold execOp; rw [hop]; simp [Instr.makeMap, mapObj, ent], k _⟩
theorem W_mapUpdate {t kt et b : Nat} {x y z : Operand} {k : κ} {v : Value} {ps : List (κ × Value)} {L' : Hp} (hop : o.op = .mapUpdate t x y z) (hx : ev fr x = some (.map (some b))) (hy : ev fr y = some (kc k)) (hz : ev fr z = some v) (kl : KeyLaw P kt kc) (ht : P.underlying t = some (.map kt et))
    (hu : Upd b (mapObj kc ps) (mapObj kc (mput k v ps)) L L') (kk : K h L' undef) : OPw P r o fr h L K := by
  intro a ha w hw
  have hb := hw.sees.own _ hu.mem
  have hlt := hw.lt hu.mem
  have hset : ∀ ob, (setObj b ob).run P w = .ok () { w with heap := w.heap.setIfInBounds b ob } := fun ob => by simp only [setObj, Sem.run, hb, mapObj]
  have hrun : (Instr.mapUpdate t (.map (some b)) (kc k) v).run P w = .ok () { w with heap := w.heap.setIfInBounds b (mapObj kc (mput k v ps)) } := by
    unfold Instr.mapUpdate
    simp only [Sem.run_bind, run_underlying' ht, Result.andThen_ok, run_getObj_map hb]
    simp only [mapObj, kl.check, kl.find, Result.andThen_ok, Sem.run_bind]
    cases hf : fidx k 0 ps with
    | none =>
      obtain ⟨h1, h2⟩ := fidx_none kc k v ps 0 hf
      simp only [Nat.zero_add] at h1
      simp only [hset, h1, h2, List.push_toArray]
    | some p =>
      obtain ⟨i, u⟩ := p
      obtain ⟨_, h2, h3, h4⟩ := fidx_some kc k v ps 0 i u hf
      simp only [Nat.sub_zero] at h2 h4
      have hkey : (((ent kc 0 ps).toArray[i]?).map (·.key)).getD (kc k) = kc k := by simp [h4]
      have hstay : (Instr.keyThatStays (kc k) (kc k)).run P w = .ok (kc k) w := by
        unfold Instr.keyThatStays; rw [if_pos (kl.bits k)]; rfl
      simp only [hkey, Sem.run_bind, hstay, Result.andThen_ok, hset]
      congr 2
      simp only [← h2, h3, List.modify_toArray]
  refine wpIn_of_skip (w' := { w with heap := w.heap.setIfInBounds b (mapObj kc (mput k v ps)) }) (fun c => by rw [hop]; simp) ?_ ⟨h, L', undef, rfl, kk, Ext.set hw hu ?_ ?_ ?_ rfl rfl rfl rfl⟩
  · unfold execOp; rw [hop]
    simp [ha x _ hx, ha y _ hy, ha z _ hz, hrun]
  · simp [Array.getElem?_setIfInBounds, hlt]
  · intro j hj; simp [Array.getElem?_setIfInBounds_ne (Ne.symm hj)]
  · simp

/-! ### Ranging over a map that is not written meanwhile -/
def iterObj (mb n : Nat) (seen : List Nat) : Obj := .mapIter (some mb) n seen.toArray n
theorem C_range {t kt et b : Nat} {x : Operand} {ps : List (κ × Value)} (hop : o.op = .range t x) (hx : ev fr x = some (.map (some b))) (ht : P.underlying t = some (.map kt et)) (hm : IsMap h L b (mapObj kc ps)) (k : ∀ ib, K h [(ib, iterObj b ps.length [])] (ptr ib 0)) : OPc P r o fr h L K :=
  OPc_new (ob := iterObj b ps.length []) (fun c => by rw [hop]; simp) fun a ha w hw => ⟨fun ib => ptr ib 0, by
    have hb := hm.get hw.sees
    unfold execOp; rw [hop]
    simp only [ha x _ hx, Instr.range, Sem.run_bind, run_underlying' ht, Result.andThen_ok, run_getObj_map hb]
    simp [mapObj, iterObj], k _⟩
theorem W_next {b ib : Nat} {x : Operand} {ps : List (κ × Value)} {seen : List Nat} (LF : Obj → Hp) (hop : o.op = .next x false) (hx : ev fr x = some (ptr ib 0)) (hm : IsMap h L b (mapObj kc ps)) (hu : ∀ ob, Upd ib (iterObj b ps.length seen) ob L (LF ob))
    (k1 : ∀ (i : Nat) (k : κ) (v : Value), ps[i]? = some (k, v) → i ∉ seen → K h (LF (iterObj b ps.length (seen ++ [i]))) (.tuple #[.bool true, kc k, v]))
    (k2 : (∀ i, i < ps.length → i ∈ seen) → K h L (.tuple #[.bool false])) : OPw P r o fr h L K := by
  intro a ha w hw
  have hb := hm.get hw.sees
  have hib := hw.sees.own _ (hu (iterObj b ps.length seen)).mem
  have hlt := hw.lt (hu (iterObj b ps.length seen)).mem
  have hget : (getObj ib).run P w = .ok (iterObj b ps.length seen) w := by simp [getObj, Sem.run, hib, iterObj]
  have hd : ∀ c, o.op ≠ .defer c := fun c => by rw [hop]; simp
  -- the entries that are left
  let es := ent kc 0 ps
  have hborn : ∀ e ∈ es, ∃ i k v, ps[i]? = some (k, v) ∧ e = ⟨kc k, v, i⟩ := by
    intro e he
    obtain ⟨i, hi, rfl⟩ := List.getElem_of_mem he
    have hg : es[i]? = some es[i] := by simp [hi]
    have hg2 := ent_get kc ps 0 i
    rw [show ent kc 0 ps = es from rfl, hg] at hg2
    cases hp : ps[i]? with
    | none => rw [hp] at hg2; cases hg2
    | some p => rw [hp] at hg2; simp at hg2; exact ⟨i, p.1, p.2, by simp [hp], hg2⟩
  have hlen : es.length = ps.length := ent_length kc ps 0
  have hilt : ∀ (i : Nat) (k : κ) (v : Value), ps[i]? = some (k, v) → i < ps.length := fun i k v hp => (List.getElem?_eq_some_iff.1 hp).1
  let left := es.toArray.filter fun e => !seen.toArray.contains e.born
  have hold : left.filter (fun e => e.born < ps.length) = left := by
    rw [Array.filter_eq_self]
    intro e he
    obtain ⟨he1, _⟩ := Array.mem_filter.1 he
    obtain ⟨i, k, v, hp, rfl⟩ := hborn e (by simpa using he1)
    simpa using hilt i k v hp
  have hnew : left.filter (fun e => e.born ≥ ps.length) = #[] := by
    rw [Array.filter_eq_empty_iff]
    intro e he
    obtain ⟨he1, _⟩ := Array.mem_filter.1 he
    obtain ⟨i, k, v, hp, rfl⟩ := hborn e (by simpa using he1)
    simpa using hilt i k v hp
  have hcond : (!seen.toArray.isEmpty && !es.toArray.isEmpty && es.toArray.all (·.born ≥ ps.length)) = false := by
    cases hes : es with
    | nil => simp
    | cons e es' =>
      obtain ⟨i, k, v, hp, rfl⟩ := hborn e (by simp [hes])
      have := hilt i k v hp
      have hnot : ¬ ps.length ≤ i := by omega
      simp [hnot]
  have hset : ∀ (w1 : World) (ob : Obj), w1.heap = w.heap → (setObj ib ob).run P w1 = .ok () { w1 with heap := w1.heap.setIfInBounds ib ob } := fun w1 ob e => by simp only [setObj, Sem.run, e, hib, iterObj]
  -- what 'next' comes to
  have hstep : ∀ (q : Nat) (w1 : World) (cand : Option MapEntry), (choose (.mapNext ((if left.isEmpty then #[none] else #[]) ++ left.map some).size)).run P w = .ok q w1 → ((if left.isEmpty then #[none] else #[]) ++ left.map some)[q]? = some cand →
      (execOp a.eval o).run P w = (match cand with
        | some e => .ok (.value (.tuple #[.bool true, e.key, e.val])) { w1 with heap := w1.heap.setIfInBounds ib (iterObj b ps.length (seen ++ [e.born])) }
        | none => .ok (.value (.tuple #[.bool false])) w1) ∨ w1.heap ≠ w.heap := by
    intro q w1 cand hq hc
    by_cases hh : w1.heap = w.heap
    · left
      unfold execOp; rw [hop]
      simp only [ha x _ hx, Instr.next, Sem.run_bind, hget, Result.andThen_ok]
      simp only [iterObj, Sem.run_bind, run_getObj_map hb, Result.andThen_ok]
      simp only [mapObj]
      rw [show ent kc 0 ps = es from rfl]
      simp only [hcond, Bool.false_eq_true, if_false, Sem.run_bind, Sem.run_pure, Result.andThen_ok]
      rw [show (es.toArray.filter fun e => !seen.toArray.contains e.born) = left from rfl]
      simp only [hold, hnew, Array.append_empty, hq, Result.andThen_ok, hc]
      cases cand with
      | none => simp
      | some e => simp [hset w1 _ hh, iterObj]
    · exact .inr hh
  have hne : 0 < ((if left.isEmpty then #[none] else #[]) ++ left.map some).size := by
    by_cases hl : left.isEmpty = true
    · rw [if_pos hl]; simp; omega
    · rw [if_neg hl]
      have : left.size ≠ 0 := by simpa [Array.isEmpty] using hl
      simp; omega
  -- the draw
  obtain ⟨q, w1, hq, hqlt, hw1, ho1, ht1, hp1, hn1⟩ : ∃ (q : Nat) (w1 : World), (choose (.mapNext ((if left.isEmpty then #[none] else #[]) ++ left.map some).size)).run P w = .ok q w1 ∧ q < ((if left.isEmpty then #[none] else #[]) ++ left.map some).size ∧ w1.heap = w.heap ∧ w1.os = w.os ∧ w1.tape = w.tape ∧ w1.output = w.output ∧ w.drawn ≤ w1.drawn := by
    generalize ((if left.isEmpty then #[none] else #[]) ++ left.map some).size = n at hne ⊢
    simp only [choose, Sem.run]
    by_cases hf : (Question.mapNext n).forced = true
    · rw [if_pos hf]; exact ⟨0, w, rfl, hne, rfl, rfl, rfl, rfl, Nat.le_refl _⟩
    · rw [if_neg hf]; exact ⟨_, _, rfl, Nat.mod_lt _ hne, rfl, rfl, rfl, rfl, Nat.le_succ _⟩
  obtain ⟨cand, hc⟩ : ∃ cand, ((if left.isEmpty then #[none] else #[]) ++ left.map some)[q]? = some cand := ⟨_, Array.getElem?_eq_getElem hqlt⟩
  have hex := (hstep q w1 cand hq hc).resolve_right (by simp [hw1])
  have hmem : cand ∈ ((if left.isEmpty then #[none] else #[]) ++ left.map some) := Array.mem_of_getElem? hc
  have hsame := Ext.same hw hw1 ho1 ht1 hp1 hn1
  cases cand with
  | none =>
    have hem : left.isEmpty = true := by
      cases hl : left.isEmpty with
      | true => rfl
      | false => rw [hl] at hmem; simp at hmem
    refine wpIn_of_value hd hex ⟨h, L, _, rfl, k2 fun i hi => ?_, hsame⟩
    by_cases hin : i ∈ seen
    · exact hin
    · exfalso
      have hg := ent_get kc ps 0 i
      have hp : ps[i]? = some ps[i] := by simp [hi]
      rw [hp] at hg
      simp only [Option.map_some, Nat.zero_add] at hg
      have hm1 : (⟨kc ps[i].1, ps[i].2, i⟩ : MapEntry) ∈ left := by
        refine Array.mem_filter.2 ⟨?_, by simpa using hin⟩
        have := List.mem_of_getElem? hg
        simpa using this
      have hz : left = #[] := by simpa using hem
      rw [hz] at hm1
      simp at hm1
  | some e =>
    have hel : e ∈ left := by
      rcases Array.mem_append.1 hmem with h1 | h1
      · cases hl : left.isEmpty <;> rw [hl] at h1 <;> simp at h1
      · simpa using h1
    obtain ⟨he1, he2⟩ := Array.mem_filter.1 hel
    obtain ⟨i, k, v, hp, rfl⟩ := hborn e (by simpa using he1)
    have hin : i ∉ seen := by simpa using he2
    refine wpIn_of_value hd hex ⟨h, _, _, rfl, k1 i k v hp hin, hsame.trans (Ext.set hsame.holds (hu _) ?_ ?_ ?_ rfl rfl rfl rfl)⟩
    · rw [Array.getElem?_setIfInBounds]; simp [hw1, hlt]
    · intro j hj; simp [Array.getElem?_setIfInBounds_ne (Ne.symm hj)]
    · simp
theorem Q_entry {b ib : Nat} {x : Operand} {ps : List (κ × Value)} {seen : List Nat} {i : Nat} {k : κ} {v : Value} (hop : o.op = .entry x) (hx : ev fr x = some (ptr ib 0)) (hm : IsMap h L b (mapObj kc ps)) (hi : (ib, iterObj b ps.length (seen ++ [i])) ∈ L) (hp : ps[i]? = some (k, v)) :
    QOP P o fr h L (.tuple #[kc k, v]) :=
  ⟨fun c => by rw [hop]; simp, fun a ha w hw => by
    have hb := hm.get hw
    have hib := hw.own _ hi
    have hget : (getObj ib).run P w = .ok (iterObj b ps.length (seen ++ [i])) w := by simp [getObj, Sem.run, hib, iterObj]
    have hfind : ∀ (ps : List (κ × Value)) (j i : Nat) (k : κ) (v : Value), ps[i]? = some (k, v) → (ent kc j ps).find? (fun e => e.born == j + i) = some ⟨kc k, v, j + i⟩ := by
      intro ps
      induction ps with
      | nil => intro j i k v e; simp at e
      | cons p ps ih =>
        intro j i k v e
        cases i with
        | zero => simp at e; subst e; simp [ent]
        | succ i =>
          have := ih (j + 1) i k v (by simpa using e)
          have hne : ¬ (j = j + (i + 1)) := by omega
          rw [show j + 1 + i = j + (i + 1) by omega] at this
          simp [ent, hne, this]
    have hf := hfind ps 0 i k v hp
    simp only [Nat.zero_add] at hf
    unfold execOp; rw [hop]
    simp only [ha x _ hx, Instr.entry, Sem.run_bind, hget, Result.andThen_ok]
    simp only [iterObj, Sem.run_bind, run_getObj_map hb, Result.andThen_ok]
    simp [run_getObj_map hb, mapObj, hf]⟩
end
end Go.Mesh
/-
  RANGES OVER FUNCTIONS: what a call of yield comes to; an iterator's contract; the statement; a function that holds such a statement.
-/
set_option linter.all false
namespace Go.Mesh
open Go.RowKit

section
variable {P : Program} {r : Option Nat} {N : Nat} {h : Frag} {L : Hp} {D : List Nat} {fr : Fr} {o : Oper} {K : OCont}

def YSpec (P : Program) (l : Nat) (args : Array Value) (h : Frag) (L : Hp) (R : OCont) : Prop :=
  ∀ w, Holds h L w → ∃ fn tmps assign body, (Instr.yield l args).run P w = .ok (.round l fn tmps assign body) w ∧
    RoundIn (FW none) 0 P l fn tmps assign body w (fun e w' => ∃ v h' L', e = .returned v ∧ R h' L' v ∧ Ext h L w h' L' w')

theorem OPw_yield {c : Call} {l : Nat} {fo : Operand} {vs : List Value} {R : OCont} (hop : o.op = .call c) (hc : c.callee = .value fo) (hf : ev fr fo = some (.func (.yield l) #[] #[])) (hvs : evs fr c.args.toList vs)
    (x : YSpec P l vs.toArray h L R) (k : ∀ h' L' v, le h h' → R h' L' v → K h' L' v) : OPw P r o fr h L K := by
  intro a ha w hw
  have hd : ∀ c', o.op ≠ .defer c' := fun c' => by rw [hop]; simp
  have hargs : c.args.map a.eval = vs.toArray := evs_map' ha hvs
  obtain ⟨fn, tmps, assign, body, hy, hr⟩ := x w hw
  have hrun : (execOp a.eval o).run P w = .ok (.round l fn tmps assign body) w := by
    unfold execOp
    rw [hop]
    simp only [Sem.run_bind, resolve, hc, hargs, ha fo _ hf, Deferred.ofValue, Sem.run_pure, Result.andThen_ok, invoke]
    simpa using hy
  refine ⟨fun _ _ => trivial, ?_⟩
  rw [Oper.semAt_eq _ _ _ hd, hrun]
  refine ⟨fun e => by simp [FW] at e, ?_⟩
  have hr' : RoundIn (FW r) 0 P l fn tmps assign body w (fun e w' => ∃ v h' L', e = .returned v ∧ R h' L' v ∧ Ext h L w h' L' w') := hr
  refine hr'.mono fun e w' ⟨v, h', L', he, q, y⟩ => ?_
  subst he
  exact ⟨h', L', v, rfl, k _ _ _ y.le q, y⟩

/-- An iterator: it hands the items to yield, one after the other, until yield says no. -/
def Iter {α : Type} (P : Program) (g : FuncId) (cap : Array Value) (h : Frag) (enc : Frag → α → Array Value → Prop) (items : List α) : Prop :=
  ∀ (l : Nat) (J : List α → Frag → Hp → Prop) (Jx : Frag → Hp → Prop) (h0 : Frag) (L0 : Hp), le h h0 →
    (∀ pre x vals h' L', le h0 h' → J pre h' L' → (pre ++ [x]) <+: items → enc h' x vals → YSpec P l vals h' L' (fun h'' L'' v => (v = .bool true ∧ J (pre ++ [x]) h'' L'') ∨ (v = .bool false ∧ Jx h'' L''))) →
    J [] h0 L0 → FSpec P g (#[.func (.yield l) #[] #[]] ++ cap) h0 L0 (fun h' L' _ => J items h' L' ∨ Jx h' L')

theorem WP.framed {c : Code} {Q : Post} (M : Hp) (x : WP P r N c h L D fr Q) : WP P r N c h (L ++ M) D fr (fun e h' L' D' fr' => ∃ L1, L' = L1 ++ M ∧ Q e h' L1 D' fr') :=
  fun a w fa hw => wpIn_mono (x a w fa (hw.drop (List.sublist_append_left _ _))) fun _ _ _ ⟨h', L', D', fr', q, f, e⟩ => ⟨h', L' ++ M, D', fr', ⟨L', rfl, q⟩, f, e.framed hw⟩

/-- The slots of the loop's variables. -/
def parFr (fr : Fr) : List Tmp → List Value → Fr
  | t :: ts, v :: vs => parFr ((t, v) :: fr) ts vs
  | _, _ => fr
def parOk (N : Nat) : List Tmp → Bool
  | [] => true
  | t :: ts => Nat.blt t N && parOk N ts
theorem parFr_ok {N : Nat} {D : List Nat} : ∀ (ts : List Tmp) (vs : List Value) (fr : Fr) (a : Act), ts.length = vs.length → parOk N ts = true → FrOk N D fr a →
    FrOk N D (parFr fr ts vs) { a with tmps := ((ts.zip vs).foldl (fun tmps (p : Tmp × Value) => tmps.setIfInBounds p.1 p.2) a.tmps) }
  | [], [], fr, a, _, _, f => f
  | t :: ts, v :: vs, fr, a, hl, hp, f => by
    simp only [parOk, Bool.and_eq_true] at hp
    have := parFr_ok ts vs ((t, v) :: fr) (a.put (some t) v) (by simpa using hl) hp.2 (f.put (dst := some t) hp.1 v)
    simpa [parFr, Act.put] using this
  | [], _ :: _, _, _, hl, _, _ => by simp at hl
  | _ :: _, [], _, _, hl, _, _ => by simp at hl

/-- How a round may be left. -/
def jumpOf : Exit → Option Code
  | .ret => some .ret
  | .exit id => some (.exit id)
  | _ => none
/-- What a round must come to. -/
def bodyQ {α : Type} (I : List α → Frag → Hp → Prop) (Ix : Exit → Frag → Hp → Prop) (pre : List α) : Post := fun e h' L' _ _ => match e with
  | .normal => I pre h' L'
  | .ret => Ix .ret h' L'
  | .exit id => Ix (.exit id) h' L'
  | _ => False

def recO (fn : FuncId) (tmps : Array Value) (ps : Array Tmp) (assign body : Code) (d : Nat) (st : LoopState) (pend : Option Code) : Obj := .loop { state := st, pending := pend, fn, tmps, params := ps, assign, body, defers := d }

theorem run_getObj_loop {w : World} {l : Nat} {rec : Loop} (hl : w.heap[l]? = some (.loop rec)) : (Instr.getLoop l).run P w = .ok rec w := by
  unfold Instr.getLoop
  simp [getObj, Sem.run, hl]
theorem run_setObj_loop {w : World} {l : Nat} {rec : Loop} {ob : Obj} (hl : w.heap[l]? = some (.loop rec)) : (setObj l ob).run P w = .ok () { w with heap := w.heap.setIfInBounds l ob } := by
  simp [setObj, Sem.run, hl]
theorem Ext.setLast {M : Hp} {l : Nat} {o o' : Obj} {w : World} (hw : Holds h (L ++ (l, o) :: M) w) : Ext h (L ++ (l, o) :: M) w h (L ++ (l, o') :: M) { w with heap := w.heap.setIfInBounds l o' } := by
  have hlt := hw.lt (p := (l, o)) (by simp)
  refine Ext.set hw (b := l) (o := o) (o' := o') ⟨L, M, rfl, rfl⟩ ?_ ?_ ?_ rfl rfl rfl rfl
  · simp at hlt; simp [hlt]
  · intro j hj; simp [Array.getElem?_setIfInBounds_ne (Ne.symm hj)]
  · simp

theorem WP_rangeFunc {α : Type} {go : Operand} {ps : Array Tmp} {assign body : Code} {g : FuncId} {cap : Array Value} {fn : Func} {enc : Frag → α → Array Value → Prop} {items : List α} {Q : Post}
    (hf : ev fr go = some (.func (.func g) #[] cap)) (hfn : P.funcs[g]? = some fn) (hn : fn.name ≠ "runtime.NumGoroutine") (hb : fn.body.isSome = true) (it : Iter P g cap h enc items) (henc : ∀ h x vals, enc h x vals → vals.size = ps.size) (hps : parOk N ps.toList = true)
    (I : List α → Frag → Hp → Prop) (Ix : Exit → Frag → Hp → Prop) (h0 : I [] h L)
    (round : ∀ l pre x vals h' L', le h h' → I pre h' L' → (pre ++ [x]) <+: items → enc h' x vals → WP P (some l) N assign h' L' [] (parFr fr ps.toList vals.toList)
      (thenQ (fun h'' L'' D'' fr'' => D'' = [] ∧ WP P (some l) N body h'' L'' [] fr'' (bodyQ I Ix (pre ++ [x]))) (fun _ _ _ _ _ => False)))
    (done : ∀ d h' L', le h h' → I items h' L' → Q .normal h' (L' ++ [(d, .deferred (some []))]) (d :: D) fr)
    (left : ∀ d e h' L', le h h' → Ix e h' L' → (jumpOf e).isSome = true → Q e h' (L' ++ [(d, .deferred (some []))]) (d :: D) fr) : WP P none N (.rangeFunc go ps assign body) h L D fr Q := by
  intro a w fa hw
  refine wpIn_rangeFunc fun fnid _ => ?_
  -- the block for deferred calls, the record
  let d := w.heap.size
  let w1 : World := { w with heap := w.heap.push (.deferred (some [])) }
  have e1 := Ext.alloc hw (.deferred (some []))
  let l := w1.heap.size
  let w2 : World := { w1 with heap := w1.heap.push (recO fnid a.tmps ps assign body d .ready none) }
  have e2 := Ext.alloc e1.holds (recO fnid a.tmps ps assign body d .ready none)
  have e12 : Ext h L w h (L ++ [(l, recO fnid a.tmps ps assign body d .ready none), (d, .deferred (some []))]) w2 :=
    (e1.trans e2).perm (L2 := L ++ [(l, recO fnid a.tmps ps assign body d .ready none), (d, .deferred (some []))]) (List.perm_append_comm (l₁ := L) (l₂ := [(l, recO fnid a.tmps ps assign body d .ready none), (d, .deferred (some []))]))
  refine ⟨l, [{ target := .collected d, args := #[] }], w2, { target := .fn (.func g) cap, args := #[.func (.yield l) #[] #[]] }, w2, g, #[.func (.yield l) #[] #[]] ++ cap, w2, ?_, ?_, fun _ _ => trivial, ?_, fun e => by simp [FW] at e, ?_⟩
  · show (Instr.enterLoop fnid a.tmps ps assign body none).run P w = _
    simp [Instr.enterLoop, recO, d, w1, w2, l]
  · have hgo := fa.eval hf
    have hconst : ∀ v, a.eval (.const v) = v := fun _ => rfl
    simp [resolve, rangeCall, hgo, Deferred.ofValue, hconst]
  · have hbn : fn.body.isNone = false := by
      cases hx : fn.body with
      | none => rw [hx] at hb; cases hb
      | some _ => rfl
    simp only [invoke, callFunc, Sem.run_bind, run_program, Result.andThen_ok, hfn]
    simp [hn, hbn]
  -- the iterator
  let J : List α → Frag → Hp → Prop := fun pre h' L' => ∃ Lu, L' = Lu ++ [(l, recO fnid a.tmps ps assign body d .ready none), (d, .deferred (some []))] ∧ I pre h' Lu
  let Jx : Frag → Hp → Prop := fun h' L' => ∃ e Lu c, jumpOf e = some c ∧ L' = Lu ++ [(l, recO fnid a.tmps ps assign body d .done (some c)), (d, .deferred (some []))] ∧ Ix e h' Lu
  have hcall := it l J Jx h (L ++ [(l, recO fnid a.tmps ps assign body d .ready none), (d, .deferred (some []))]) (le_refl h) ?_ ⟨L, rfl, h0⟩
  · refine callsIn_FW ((hcall w2 e12.holds).mono fun e w3 ⟨v, h3, L3, he, q, x3⟩ => ?_)
    subst he
    have e3 := e12.trans x3
    rcases q with ⟨Lu, rfl, hi⟩ | ⟨ex, Lu, c, hj, rfl, hi⟩
    · have hl3 := x3.holds.sees.own (l, recO fnid a.tmps ps assign body d .ready none) (by simp)
      have e4 := Ext.setLast (o' := recO fnid a.tmps ps assign body d .exhausted none) x3.holds
      refine ⟨none, { w3 with heap := w3.heap.setIfInBounds l (recO fnid a.tmps ps assign body d .exhausted none) }, ?_, ?_⟩
      · simp only [Instr.endLoop, Sem.run_bind, run_getObj_loop hl3, Result.andThen_ok, recO]
        simp [run_setObj_loop hl3]
      · have e5 := (e3.trans e4).drop (L2 := Lu ++ [(d, .deferred (some []))]) (List.Sublist.append (List.Sublist.refl _) (List.Sublist.cons _ (List.Sublist.refl _)))
        refine ⟨h3, Lu ++ [(d, .deferred (some []))], d :: D, fr, done d h3 Lu e3.le hi, ⟨?_, fa.size, fa.slots⟩, e5⟩
        simp [fa.defers, marks]
    · have hl3 := x3.holds.sees.own (l, recO fnid a.tmps ps assign body d .done (some c)) (by simp)
      have e4 := Ext.setLast (o' := recO fnid a.tmps ps assign body d .exhausted (some c)) x3.holds
      refine ⟨some c, { w3 with heap := w3.heap.setIfInBounds l (recO fnid a.tmps ps assign body d .exhausted (some c)) }, ?_, ?_⟩
      · simp only [Instr.endLoop, Sem.run_bind, run_getObj_loop hl3, Result.andThen_ok, recO]
        simp [run_setObj_loop hl3]
      · have e5 := (e3.trans e4).drop (L2 := Lu ++ [(d, .deferred (some []))]) (List.Sublist.append (List.Sublist.refl _) (List.Sublist.cons _ (List.Sublist.refl _)))
        have hq := left d ex h3 Lu e3.le hi (by rw [hj]; rfl)
        have hfr : FrOk N (d :: D) fr { a with defers := [{ target := .collected d, args := #[] }] ++ a.defers } := ⟨by simp [fa.defers, marks], fa.size, fa.slots⟩
        cases ex <;> simp only [jumpOf, Option.some.injEq] at hj <;> try (cases hj)
        · exact wpIn_exit ⟨h3, _, d :: D, fr, hq, hfr, e5⟩
        · exact wpIn_ret ⟨h3, _, d :: D, fr, hq, hfr, e5⟩
  -- a round
  · rintro pre x vals h' L' hle ⟨Lu, rfl, hi⟩ hpre hev wy hwy
    have hl := hwy.sees.own (l, recO fnid a.tmps ps assign body d .ready none) (by simp)
    refine ⟨fnid, (ps.zip vals).foldl (fun tmps (t, v) => tmps.setIfInBounds t v) a.tmps, assign, body, ?_, ?_⟩
    · simp only [Instr.yield, Sem.run_bind, run_getObj_loop hl, Result.andThen_ok, henc _ _ _ hev]
      simp
    · refine roundIn_of_wpIn trivial ?_
      have hround := (round l pre x vals h' Lu hle hi hpre hev).framed [(l, recO fnid a.tmps ps assign body d .ready none), (d, .deferred (some []))]
      have hfa : FrOk N [] (parFr fr ps.toList vals.toList) { tmps := (ps.zip vals).foldl (fun tmps (t, v) => tmps.setIfInBounds t v) a.tmps, defers := [] } := by
        have h1 := parFr_ok (N := N) (D := []) ps.toList vals.toList fr { tmps := a.tmps, defers := [] } (by have := henc _ _ _ hev; simp [this]) hps ⟨rfl, fa.size, fa.slots⟩
        have h2 : (ps.zip vals).foldl (fun tmps (p : Tmp × Value) => tmps.setIfInBounds p.1 p.2) a.tmps = ((ps.toList.zip vals.toList).foldl (fun tmps (p : Tmp × Value) => tmps.setIfInBounds p.1 p.2) a.tmps) := by
          rw [← Array.foldl_toList]; simp
        show FrOk N [] _ ⟨(ps.zip vals).foldl (fun tmps (p : Tmp × Value) => tmps.setIfInBounds p.1 p.2) a.tmps, []⟩
        rw [h2]; exact h1
      refine wpIn_mono (hround _ wy hfa hwy) fun e a1 w3 ⟨h1, L1, D1, fr1, ⟨Lu1, eL1, q⟩, f1, x1⟩ => ?_
      subst eL1
      cases e with
      | normal =>
        obtain ⟨rfl, q⟩ := q
        have hl1 := x1.holds.sees.own (l, recO fnid a.tmps ps assign body d .ready none) (by simp)
        have eb := Ext.setLast (o' := recO fnid a.tmps ps assign body d .busy none) x1.holds
        refine ⟨{ w3 with heap := w3.heap.setIfInBounds l (recO fnid a.tmps ps assign body d .busy none) }, ?_, ?_⟩
        · simp only [Instr.beginRound, Sem.run_bind, run_getObj_loop hl1, Result.andThen_ok, recO]
          simp [run_setObj_loop hl1]
        · have hbody := q.framed [(l, recO fnid a.tmps ps assign body d .busy none), (d, .deferred (some []))]
          refine wpIn_mono (hbody a1 _ f1 eb.holds) fun e a2 w4 ⟨h2, L2, D2, fr2, ⟨Lu2, eL2, q2⟩, f2, x2⟩ => ?_
          subst eL2
          have hl2 := x2.holds.sees.own (l, recO fnid a.tmps ps assign body d .busy none) (by simp)
          have tot := (x1.trans eb).trans x2
          cases e with
          | normal =>
            have ee := Ext.setLast (o' := recO fnid a.tmps ps assign body d .ready none) x2.holds
            refine ⟨.bool true, { w4 with heap := w4.heap.setIfInBounds l (recO fnid a.tmps ps assign body d .ready none) }, ?_, ⟨_, h2, _, rfl, .inl ⟨rfl, Lu2, rfl, q2⟩, tot.trans ee⟩⟩
            simp only [Instr.endRound, Sem.run_bind, run_getObj_loop hl2, Result.andThen_ok, recO]
            simp [run_setObj_loop hl2]
          | ret =>
            have ee := Ext.setLast (o' := recO fnid a.tmps ps assign body d .done (some .ret)) x2.holds
            refine ⟨.bool false, { w4 with heap := w4.heap.setIfInBounds l (recO fnid a.tmps ps assign body d .done (some .ret)) }, ?_, ⟨_, h2, _, rfl, .inr ⟨rfl, .ret, Lu2, .ret, rfl, rfl, q2⟩, tot.trans ee⟩⟩
            simp only [Instr.endRound, Sem.run_bind, run_getObj_loop hl2, Result.andThen_ok, recO]
            simp [run_setObj_loop hl2]
          | exit id =>
            have ee := Ext.setLast (o' := recO fnid a.tmps ps assign body d .done (some (.exit id))) x2.holds
            refine ⟨.bool false, { w4 with heap := w4.heap.setIfInBounds l (recO fnid a.tmps ps assign body d .done (some (.exit id))) }, ?_, ⟨_, h2, _, rfl, .inr ⟨rfl, .exit id, Lu2, .exit id, rfl, rfl, q2⟩, tot.trans ee⟩⟩
            simp only [Instr.endRound, Sem.run_bind, run_getObj_loop hl2, Result.andThen_ok, recO]
            simp [run_setObj_loop hl2]
          | goto t => exact q2.elim
          | panic ch => exact q2.elim
          | outgrown => exact q2.elim
      | ret => exact q.elim
      | exit id => exact q.elim
      | goto t => exact q.elim
      | panic ch => exact q.elim
      | outgrown => exact q.elim

/-! ### A function that holds such a statement -/
def dObj (d : Nat) : Nat × Obj := (d, .deferred (some []))
theorem leavesM {fn : Func} {R : Ending → World → Prop} {tmps : Array Value} : ∀ (D : List Nat) (h : Frag) (L2 : Hp) (w0 w : World) (h0 : Frag) (L0 : Hp), Ext h0 L0 w0 h (L2 ++ D.map dObj) w →
    (∀ w', Ext h0 L0 w0 h L2 w' → ∃ v, (results fn tmps).run P w' = .ok v w' ∧ R (.returned v) w') → LeavesInM (FW none) 0 P fn tmps R (marks D) .returning w := by
  intro D
  induction D with
  | nil => intro h L2 w0 w h0 L0 e k; exact k w (by simpa using e)
  | cons d D ih =>
    intro h L2 w0 w h0 L0 e k
    have hd := e.holds.sees.own (d, .deferred (some [])) (by simp [dObj])
    have e2 := Ext.setLast (L := L2) (M := D.map dObj) (l := d) (o := .deferred (some [])) (o' := .deferred none) (by simpa [dObj] using e.holds)
    refine ⟨by simp, .inl ⟨d, { w with heap := w.heap.setIfInBounds d (.deferred none) }, rfl, ?_, ?_⟩⟩
    · simp [Instr.takeDeferred, getObj, setObj, Sem.run, hd]
    · refine ih h L2 w0 _ h0 L0 ?_ k
      have e3 : Ext h0 L0 w0 h (L2 ++ (d, .deferred none) :: D.map dObj) { w with heap := w.heap.setIfInBounds d (.deferred none) } := by
        have e' : Ext h0 L0 w0 h (L2 ++ (d, .deferred (some [])) :: D.map dObj) w := by simpa [dObj] using e
        exact e'.trans e2
      exact e3.drop (List.Sublist.append (List.Sublist.refl _) (List.Sublist.cons _ (List.Sublist.refl _)))

def retM (P : Program) (fn : Func) (R : OCont) : Post := fun e h' L' D' fr' => (e = .ret ∨ e = .normal) ∧ ∃ vs L2, L' = L2 ++ D'.map dObj ∧ resVals P h' L2 fr' fn.results.toList vs ∧ ∀ w, Holds h' L2 w → ∃ h3 L3, Ext h' L2 w h3 L3 w ∧ R h3 L3 (resOf vs)
theorem spec_ofM {f : FuncId} {fn : Func} {c : Code} {vs : List Value} {args : Array Value} {R : OCont} (hf : P.funcs[f]? = some fn) (hn : fn.ntmps = N) (hb : fn.body = some c) (ha : args = vs.toArray) (hN : Nat.ble vs.length N = true)
    (x : WP P none N c h L [] (argFr vs 0) (retM P fn R)) : FSpec P f args h L R := by
  subst hn; subst ha
  intro w hw
  have hN' : vs.length ≤ fn.ntmps := Nat.le_of_ble_eq_true hN
  have key : ∀ (e : Exit) (a' : Act) (w' : World), lift fn.ntmps h L w (retM P fn R) e a' w' → bodyPostM (FW none) 0 P fn (fun e w' => ∃ v h' L', e = .returned v ∧ R h' L' v ∧ Ext h L w h' L' w') e a' w' := by
    rintro e a' w' ⟨h', L', D', fr', ⟨he, us, L2, rfl, hr, q⟩, fa, y⟩
    have hlv := leavesM (P := P) (fn := fn) (tmps := a'.tmps) (R := fun e w' => ∃ v h' L', e = .returned v ∧ R h' L' v ∧ Ext h L w h' L' w') D' h' L2 w w' h L y (fun w2 e2 => ⟨resOf us, results_eq (N := fn.ntmps) (D := D') (fr := fr') (a := a') fa e2.holds.sees hr, by obtain ⟨h3, L3, e3, q⟩ := q w2 e2.holds; exact ⟨_, h3, L3, rfl, q, e2.trans e3⟩⟩)
    have hdf := fa.defers
    rcases he with he | he <;> subst he <;> simp only [bodyPostM] <;> rw [hdf] <;> exact hlv
  refine calls_of_FW (r := none) (n := 0) (callsIn_of_wp_marks hf hb trivial (wpIn_mono (x _ w ⟨rfl, by simp; omega, fun i v e => ?_⟩ hw) key) rfl)
  obtain ⟨_, h2⟩ := argFr_get vs 0 i v e
  simp only [Nat.sub_zero] at h2
  have hlt := (List.getElem?_eq_some_iff.1 h2).1
  rw [Array.getElem?_append_left (by simpa using hlt)]
  simpa using h2
end
end Go.Mesh
