/-
  MORE OPERATIONS: aggregates and slices that are built, slices of slices, append to a slice that is owned; what an owned slice reads as.
-/
import Derived.Test.YtfhoecgiahpddaaGreatData
import Derived.Laws.AppendOwn
set_option linter.all false
namespace Go.Mesh
open Go.RowKit

section
variable {P : Program} {r : Option Nat} {h : Frag} {L : Hp} {fr : Fr} {o : Oper} {K : OCont} {w : World}

/-! ### Aggregates that are built -/
theorem fill_fold (off : Nat) : ∀ (vs : List Value) (k : Nat) (cs : Array Value), off + k + vs.length ≤ cs.size →
    (vs.zipIdx k).foldl (fun cs (c, j) => cs.setIfInBounds (off + j) c) cs = (putAt cs.toList (off + k) vs).toArray := by
  intro vs
  induction vs with
  | nil => intro k cs _; simp [putAt]
  | cons v vs ih =>
    intro k cs hle
    simp only [List.length_cons] at hle
    simp only [List.zipIdx_cons, List.foldl_cons]
    rw [ih (k + 1) _ (by simp; omega)]
    rw [putAt_cons _ _ _ _ (by simp; omega)]
    simp [Nat.add_assoc]
/-- The parts of an aggregate: offset and cells of each. -/
def partsOk (P : Program) (fr : Fr) (t : TypeId) : List (Nat × Operand) → List (Nat × List Value) → Prop
  | [], ps => ps = []
  | (f, x) :: rest, ps => ∃ v us ft fo g k qs, ev fr x = some v ∧ fieldOf P t f = some (ft, fo) ∧ tyOf P ft = some (g, k) ∧ v.cells = us.toArray ∧ us.length = k ∧ partsOk P fr t rest qs ∧ ps = (fo, us) :: qs
def fillL : List Value → List (Nat × List Value) → List Value
  | z, [] => z
  | z, (fo, us) :: ps => fillL (putAt z fo us) ps
def fillOk : Nat → List (Nat × List Value) → Bool
  | _, [] => true
  | n, (fo, us) :: ps => Nat.ble (fo + us.length) n && fillOk n ps
theorem foldl_zipIdx (a : Array Value) (f : Array Value → Value × Nat → Array Value) (cs : Array Value) : a.zipIdx.foldl f cs = (a.toList.zipIdx 0).foldl f cs := by
  rw [← Array.foldl_toList]; simp
theorem fill_eq {a : Act} (ha : ∀ x u, ev fr x = some u → a.eval x = u) {t : TypeId} {fs : Array Field} (hu : P.underlying t = some (.struct fs)) (places : Array (Nat × Nat))
    (hp : ∀ (f ft fo k : Nat) (g : Bool), fieldOf P t f = some (ft, fo) → tyOf P ft = some (g, k) → places[f]? = some (fo, k)) :
    ∀ (xs : List (Nat × Operand)) (ps : List (Nat × List Value)) (z : List Value), partsOk P fr t xs ps → fillOk z.length ps = true →
      Instr.fill (places[·]?) z.toArray (xs.map fun (i, x) => (i, a.eval x)) = some (fillL z ps).toArray := by
  intro xs
  induction xs with
  | nil => intro ps z e _; cases e; simp [Instr.fill, fillL]
  | cons p xs ih =>
    obtain ⟨f, x⟩ := p
    intro ps z ⟨v, us, ft, fo, g, k, qs, e1, e2, e3, e4, e5, e6, e7⟩ hok
    subst e7
    simp only [fillOk, Bool.and_eq_true] at hok
    have hle := Nat.le_of_ble_eq_true hok.1
    simp only [List.map_cons, Instr.fill, ha x v e1, hp f ft fo k g e2 e3, e4]
    have hsz : us.toArray.size = k := by simpa using e5
    rw [if_neg (by simp [hsz, e5] at hle ⊢; omega), foldl_zipIdx, fill_fold fo _ 0 _ (by simpa using hle)]
    simp only [Nat.add_zero]
    have := ih qs (putAt z fo us) e6 (by rw [putAt_length hle]; exact hok.2)
    simpa [fillL] using this
theorem run_mapM_places (fs : Array Field) : ∀ (l : List Field), (∀ f ∈ l, (P.info? f.type).isSome = true) →
    (l.mapM fun (f : Field) => do pure (f.offset, ← sizeOf f.type)).run P w = .ok (l.map fun f => (f.offset, P.cellsOf f.type)) w := by
  intro l
  induction l with
  | nil => intro _; rfl
  | cons f l ih =>
    intro hl
    have hf := hl f (by simp)
    cases hi : P.info? f.type with
    | none => simp [hi] at hf
    | some i =>
      simp only [List.mapM_cons, Sem.run_bind, sizeOf, typeInfo, run_program, hi, Result.andThen_ok, Sem.run_pure]
      have := ih (fun g hg => hl g (List.mem_cons_of_mem _ hg))
      simp only [sizeOf, typeInfo] at this
      rw [this]
      simp [Program.cellsOf, hi]
/-- all fields' types are known -/
def fieldsKnown (P : Program) (t : TypeId) : Bool :=
  match P.underlying t with
  | some (.struct fs) => fs.toList.all fun f => (P.info? f.type).isSome
  | _ => false
theorem fieldsKnown_spec {t : TypeId} (hk : fieldsKnown P t = true) : ∃ fs, P.underlying t = some (.struct fs) ∧ ∀ f ∈ fs.toList, (P.info? f.type).isSome = true := by
  unfold fieldsKnown at hk
  split at hk
  · rename_i fs hu; exact ⟨fs, hu, List.all_eq_true.1 hk⟩
  · cases hk
theorem Q_build {t : TypeId} {parts : Array (Nat × Operand)} {z : List Value} {ps : List (Nat × List Value)} (hop : o.op = .build t parts) (hk : fieldsKnown P t = true) (hz : zeroOf P t = some z) (hps : partsOk P fr t parts.toList ps) (hok : fillOk z.length ps = true) :
    QOP P o fr h L (.agg (fillL z ps).toArray) :=
  ⟨fun c => by rw [hop]; simp, fun a ha w _ => by
    obtain ⟨i, zv, hi, hz0, hc⟩ := zeroOf_spec hz
    obtain ⟨fs, hu, hk⟩ := fieldsKnown_spec hk
    have _ := hk
    ·
      have hm := run_mapM_places (P := P) (w := w) fs fs.toList (fun f hf => hk f hf)
      have hm' : (fs.mapM fun (f : Field) => do pure (f.offset, ← sizeOf f.type)).run P w = .ok (fs.toList.map fun f => (f.offset, P.cellsOf f.type)).toArray w := by
        rw [Array.mapM_eq_mapM_toList, Sem.run_map, hm]; rfl
      have hfill := fill_eq (P := P) ha hu (fs.toList.map fun f => (f.offset, P.cellsOf f.type)).toArray (by
        intro f ft fo k g h1 h2
        unfold fieldOf at h1
        simp only [hu] at h1
        cases hfs : fs[f]? with
        | none => simp [hfs] at h1
        | some x =>
          simp only [hfs] at h1
          cases hi2 : P.info? x.type with
          | none => simp [hi2] at h1
          | some i2 =>
            simp only [hi2] at h1
            split at h1
            · cases h1
            · cases h1
              unfold tyOf at h2
              rw [hi2] at h2
              cases hu2 : P.underlying x.type with
              | none => simp [hu2] at h2
              | some d2 =>
                simp only [hu2, Option.some.injEq, Prod.mk.injEq] at h2
                simp [hfs, Program.cellsOf, hi2, h2.2]) parts.toList ps z hps hok
      unfold execOp; rw [hop]
      have hparts : (parts.map fun (i, x) => (i, a.eval x)).toList = parts.toList.map fun (i, x) => (i, a.eval x) := by simp
      simp only [Instr.build, zeroValue, typeInfo, Sem.run_bind, run_program, hi, Result.andThen_ok, Sem.run_pure, hz0, run_underlying' hu, hm', hc, hparts, hfill]⟩

/-! ### Slices that are built -/
/-- The parts of a slice, 0, 1, 2 and so on, of k cells each, in a row. -/
def rowParts (fr : Fr) (k : Nat) : Nat → List (Nat × Operand) → List Value → Prop
  | _, [], us => us = []
  | j, (i, x) :: rest, us => ∃ v vs ws, i = j ∧ ev fr x = some v ∧ v.cells = vs.toArray ∧ vs.length = k ∧ rowParts fr k (j + 1) rest ws ∧ us = vs ++ ws
theorem rowParts_len {k : Nat} : ∀ {xs : List (Nat × Operand)} {j : Nat} {us : List Value}, rowParts fr k j xs us → us.length = xs.length * k
  | [], _, _, e => by cases e; simp
  | (i, x) :: xs, j, _, ⟨v, vs, ws, _, _, _, e5, e6, e7⟩ => by
    subst e7
    have := rowParts_len e6
    simp [e5, this, Nat.add_mul]; omega
theorem fill_row {a : Act} (ha : ∀ x u, ev fr x = some u → a.eval x = u) {k : Nat} : ∀ (xs : List (Nat × Operand)) (j : Nat) (us pre post : List Value), rowParts fr k j xs us → pre.length = j * k → post.length = xs.length * k →
    Instr.fill (fun i => some (i * k, k)) (pre ++ post).toArray (xs.map fun (i, x) => (i, a.eval x)) = some (pre ++ us).toArray := by
  intro xs
  induction xs with
  | nil => intro j us pre post e _ hp; cases e; simp at hp; subst hp; simp [Instr.fill]
  | cons p xs ih =>
    obtain ⟨i, x⟩ := p
    intro j us pre post ⟨v, vs, ws, e1, e2, e3, e4, e5, e6⟩ hpre hpost
    subst e1
    subst e6
    simp only [List.map_cons, Instr.fill, ha x v e2, e3]
    have hlen : (i * k) + vs.length ≤ (pre ++ post).length := by simp [hpre, hpost, e4, Nat.add_mul]
    rw [if_neg (by simp [e4] at hlen ⊢; omega), foldl_zipIdx, fill_fold (i * k) _ 0 _ (by simpa using hlen)]
    have hput : putAt (pre ++ post) (i * k + 0) vs = (pre ++ vs) ++ post.drop vs.length := by
      simp only [putAt, Nat.add_zero, ← hpre]
      rw [List.take_left, List.drop_append]
      simp
    have hthis : (vs.toArray.toList.zipIdx 0).length = (vs.toArray.toList.zipIdx 0).length := rfl
    simp only [hput] at *
    have := ih (i + 1) ws (pre ++ vs) (post.drop vs.length) e5 (by simp [hpre, e4, Nat.add_mul]) (by simp [hpost, e4, Nat.add_mul])
    simpa [hput] using this
theorem C_buildSlice {t e k by_ n : Nat} {parts : Array (Nat × Operand)} {us z : List Value} (hop : o.op = .buildSlice t n parts) (he : elemOf? P t = some (e, k, by_)) (hz : zeroOf P e = some z) (hzk : z.length = k) (hps : rowParts fr k 0 parts.toList us) (hn : parts.toList.length = n) (hle : Nat.ble (n * k) 16777216 = true)
    (kk : ∀ b, K h [(b, cells us e)] (.slice (some ⟨b, 0, none⟩) n n)) : OPc P r o fr h L K :=
  OPc_new (ob := cells us e) (fun c => by rw [hop]; simp) fun a ha w _ => ⟨fun b => .slice (some ⟨b, 0, none⟩) n n, by
    obtain ⟨hu, i0, hi, hk, _⟩ := elemOf?_spec he
    obtain ⟨i, zv, hi', hz0, hc⟩ := zeroOf_spec hz
    rw [hi] at hi'; cases hi'
    have hle' := Nat.le_of_ble_eq_true hle
    have hlen := rowParts_len hps
    rw [hn] at hlen
    unfold execOp; rw [hop]
    have hparts : (parts.map fun (i, x) => (i, a.eval x)).toList = parts.toList.map fun (i, x) => (i, a.eval x) := by simp
    have hnot : ¬ (n * k > 2 ^ 24) := by
      have : (2 : Nat) ^ 24 = 16777216 := rfl
      omega
    simp only [Instr.buildSlice, Sem.run_bind, run_underlying' hu, Result.andThen_ok, sizeOf, typeInfo, run_program, hi, Sem.run_pure, hk, Sem.run_ite, hnot, if_false]
    by_cases h0 : n * k = 0
    · have hus : us = [] := List.eq_nil_of_length_eq_zero (by omega)
      subst hus
      have hfill := fill_row ha parts.toList 0 [] [] [] hps (by simp) (by simp [hn, h0])
      simp only [h0, if_true, Sem.run_pure, Result.andThen_ok, hparts]
      simp only [List.nil_append, List.append_nil] at hfill
      have h00 : (Array.range 0).map (fun x => (#[] : Array Value)[x % (#[] : Array Value).size]!) = #[] := by apply Array.ext <;> simp
      rw [h00, hfill]
      rfl
    · have hfill := fill_row ha parts.toList 0 us [] ((Array.range (n * k)).map fun x => z.toArray[x % z.toArray.size]!).toList hps (by simp) (by simp [hn])
      simp only [h0, if_false, zeroValue, typeInfo, Sem.run_bind, run_program, hi, Result.andThen_ok, Sem.run_pure, hz0, hc, hparts]
      simp only [List.nil_append] at hfill
      have hconv : ((Array.range (n * k)).map fun x => z.toArray[x % z.toArray.size]!).toList.toArray = (Array.range (n * k)).map fun x => z.toArray[x % z.toArray.size]! := Array.toArray_toList
      rw [hconv] at hfill
      rw [hfill]
      rfl, kk _⟩

/-! ### Parts of slices -/
theorem Q_slice {t e k by_ : Nat} {s : Operand} {lo hi : Option Operand} {b off n cap l u : Nat} (hop : o.op = .slice t s lo hi none) (hs : ev fr s = some (.slice (some ⟨b, off, none⟩) n cap)) (he : elemOf? P t = some (e, k, by_))
    (hlo : match lo with | some x => ∃ q, ev fr x = some (.int q (l : Int)) | none => l = 0) (hhi : match hi with | some x => ∃ q, ev fr x = some (.int q (u : Int)) | none => u = n) (hlu : l ≤ u) (huc : u ≤ cap) (hne : l < cap) :
    QOP P o fr h L (.slice (some ⟨b, off + l * k, none⟩) (u - l) (cap - l)) :=
  ⟨fun c => by rw [hop]; simp, fun a ha w _ => by
    obtain ⟨hu, i0, hi0, hk, _⟩ := elemOf?_spec he
    unfold execOp; rw [hop]
    have hne' : ¬ cap = l := by omega
    have huc' : ((u : Int) ≤ (cap : Int)) := by omega
    have hlu' : ((l : Int) ≤ (u : Int)) := by omega
    cases lo with
    | none =>
      subst hlo
      cases hi with
      | none =>
        subst hhi
        have h0 : ¬ cap = 0 := by omega
        simp [ha s _ hs, Instr.sliceAt, run_underlying' hu, Instr.slice, Instr.sliceBounds, sizeOf, typeInfo, hi0, hk, h0, addr_add]
      | some x =>
        obtain ⟨q, hq⟩ := hhi
        have h0 : ¬ cap = 0 := by omega
        simp [ha s _ hs, ha x _ hq, Instr.sliceAt, run_underlying' hu, Instr.slice, Instr.sliceBounds, Instr.sliceBound, asIntOf, huc, sizeOf, typeInfo, hi0, hk, h0, addr_add]
    | some y =>
      obtain ⟨q, hq⟩ := hlo
      cases hi with
      | none =>
        subst hhi
        simp [ha s _ hs, ha y _ hq, Instr.sliceAt, run_underlying' hu, Instr.slice, Instr.sliceBounds, Instr.sliceBound, asIntOf, hlu, sizeOf, typeInfo, hi0, hk, hne', addr_add]
      | some x =>
        obtain ⟨q', hq'⟩ := hhi
        simp [ha s _ hs, ha y _ hq, ha x _ hq', Instr.sliceAt, run_underlying' hu, Instr.slice, Instr.sliceBounds, Instr.sliceBound, asIntOf, huc, hlu, sizeOf, typeInfo, hi0, hk, hne', addr_add]⟩

/-! ### Numbers turned into other kinds -/
theorem Q_conv {s t : TypeId} {x : Operand} {q k : IntKind} {m : Int} (hop : o.op = .convert s t x) (hx : ev fr x = some (.int q m)) (hs : ∃ d, P.underlying s = some d) (ht : P.underlying t = some (.int k)) : QOP P o fr h L (.int k (k.wrap m)) := by
  refine ⟨fun c => by rw [hop]; simp, fun a ha w _ => ?_⟩
  obtain ⟨d, hd⟩ := hs
  unfold execOp; rw [hop]
  simp only [ha x _ hx, convert, Sem.run_bind, run_underlying' hd, run_underlying' ht, Result.andThen_ok]
  cases d <;> simp [Conv.intToInt]
theorem Q_shl {t u : TypeId} {x y : Operand} {k q : IntKind} {m n : Int} {v : Value} (hop : o.op = .binOp .shl t x y u) (hx : ev fr x = some (.int k m)) (hy : ev fr y = some (.int q n)) (hv : ∀ w, (Op.shift .shl k m q n).run P w = .ok v w) : QOP P o fr h L v :=
  ⟨fun c => by rw [hop]; simp, fun a ha w _ => by
    unfold execOp; rw [hop]
    simp [ha x _ hx, ha y _ hy, eqGuard, binOp, hv w]⟩

theorem run_equal_slice {t e : TypeId} {p : Option Addr} {n c : Nat} (ht : P.underlying t = some (.slice e)) : (Op.equal t (.slice p n c) (.slice none 0 0)).run P w = .ok p.isNone w := by
  unfold Op.equal
  rw [show Op.maxDepth = 9999 + 1 from rfl, Op.equalIn]
  cases p <;> simp [run_underlying' ht]
theorem Q_eqNil {t u e : TypeId} {x y : Operand} {p : Option Addr} {n c : Nat} (hop : o.op = .binOp .eql t x y u) (hx : ev fr x = some (.slice p n c)) (hy : ev fr y = some (.slice none 0 0)) (ht : P.underlying t = some (.slice e)) : QOP P o fr h L (.bool p.isNone) :=
  ⟨fun c => by rw [hop]; simp, fun a ha w _ => by
    unfold execOp; rw [hop]
    simp only [ha x _ hx, ha y _ hy, eqGuard, binOp, Sem.run_bind, run_equal_slice ht]
    simp⟩

/-! ### A slice that is owned -/
def Row (e k : Nat) (v : Value) (n : Nat) (us : List Value) (M : Hp) : Prop :=
  us.length = n * k ∧ ((v = .slice none 0 0 ∧ n = 0 ∧ M = []) ∨ ∃ b cap rest, v = .slice (some ⟨b, 0, none⟩) n cap ∧ M = [(b, cells (us ++ rest) e)] ∧ us.length + rest.length = cap * k ∧ n ≤ cap)
theorem Row.nil (e k : Nat) : Row e k (.slice none 0 0) 0 [] [] := ⟨by simp, .inl ⟨rfl, rfl, rfl⟩⟩
theorem Row.lit {e k n b : Nat} {us : List Value} (hl : us.length = n * k) : Row e k (.slice (some ⟨b, 0, none⟩) n n) n us [(b, cells us e)] :=
  ⟨hl, .inr ⟨b, n, [], rfl, by simp, by simp [hl], Nat.le_refl _⟩⟩
theorem Row.slice {e k n : Nat} {v : Value} {us : List Value} {M : Hp} (x : Row e k v n us M) : ∃ p cap, v = .slice p n cap := by
  obtain ⟨_, ⟨rfl, rfl, _⟩ | ⟨b, cap, rest, rfl, _⟩⟩ := x
  · exact ⟨none, 0, rfl⟩
  · exact ⟨_, cap, rfl⟩

theorem ext_drew_alloc {h : Frag} {L : Hp} {w : World} (s : Holds h L w) (ob : Obj) : Ext h L w h ((w.heap.size, ob) :: L) (w.drew.alloc ob) :=
  (Ext.same (w' := w.drew) s rfl rfl rfl rfl (Nat.le_succ _)).trans (Ext.alloc (w := w.drew) (Ext.same (w' := w.drew) s rfl rfl rfl rfl (Nat.le_succ _)).holds ob)

theorem W_append {c : Call} {s x : Operand} {t e k by_ n m cc : Nat} {v : Value} {p : Option Addr} {us ws z : List Value} {M : Hp} (L2 L3 : Hp) (hop : o.op = .call c) (hc : c.callee = .builtin .append) (ha : c.args = #[s, x]) (hat : c.argTypes = #[t, t])
    (hs : ev fr s = some v) (hx : ev fr x = some (.slice p m cc)) (he : elemOf? P t = some (e, k, by_)) (hz : zeroOf P e = some z) (hzk : z.length = k) (hrow : Row e k v n us M) (hL : L = L2 ++ M) (hs3 : List.Sublist L3 L2)
    (hsrc : m = 0 ∨ ∃ b off, p = some ⟨b, off, none⟩ ∧ Rd h L b off ws) (hws : ws.length = m * k) (h1 : ones ws = true) (hb : (n + m) * by_ ≤ 140737488355328) (hnm : n + m ≤ 9223372036854775807)
    (kk : ∀ v' M', Row e k v' (n + m) (us ++ ws) M' → K h (L3 ++ M') v') : OPw P r o fr h L K := by
  obtain ⟨hu, i0, hi, hk, hby⟩ := elemOf?_spec he
  obtain ⟨i, zv, hi', hz0, hzc⟩ := zeroOf_spec hz
  rw [hi] at hi'; cases hi'
  have hex : ∀ a : Act, (∀ x u, ev fr x = some u → a.eval x = u) → ∀ (w w' : World) (v' : Value), (Builtin.append_ #[t, t] o.type #[v, .slice p m cc]).run P w = .ok v' w' → (execOp a.eval o).run P w = .ok (.value v') w' := by
    intro a hal w w' v' hr
    unfold execOp; rw [hop]
    simp [resolve, hc, ha, hat, invoke, builtin, hal s _ hs, hal x _ hx, hr]
  have hd : ∀ c', o.op ≠ .defer c' := fun c' => by rw [hop]; simp
  intro a hal w hw
  have hw0 := hw
  rw [hL] at hw
  obtain ⟨hul, hcase⟩ := hrow
  by_cases hm : m = 0
  · subst hm
    have hws0 : ws = [] := List.eq_nil_of_length_eq_zero (by simpa using hws)
    subst hws0
    have hrow' : Row e k v (n + 0) (us ++ []) M := by simpa using ⟨hul, hcase⟩
    have hr : (Builtin.append_ #[t, t] o.type #[v, .slice p 0 cc]).run P w = .ok v w := by
      rcases hcase with ⟨rfl, rfl, _⟩ | ⟨b, cap, rest, rfl, _, _, hnc⟩
      · cases p <;> simp [Builtin.append_, run_underlying' hu, sizeOf, typeInfo, hi, Builtin.lenOf, Builtin.firstCells, loadCells, loadCellsFrom]
      · cases p <;> simp [Builtin.append_, run_underlying' hu, sizeOf, typeInfo, hi, Builtin.lenOf, Builtin.firstCells, loadCells, loadCellsFrom, hnc, storeCells]
    refine wpIn_of_value hd (hex a hal w w v hr) ⟨h, L3 ++ M, v, rfl, kk v M hrow', ?_⟩
    rw [hL]
    exact (Ext.refl hw).drop (hs3.append (List.Sublist.refl M))
  · obtain ⟨b, off, rfl, hrd⟩ := hsrc.resolve_left hm
    have hnews : ∀ (w : World), Sees h L w → ∀ j u, ws[j]? = some u → w.cell? ((⟨b, off, none⟩ : Addr).add j) = some u := fun w hw j u e => by rw [addr_add]; exact hrd.cell hw e
    have hwsl : ws.length = m * i0.size := by rw [hk]; exact hws
    rcases hcase with ⟨rfl, rfl, rfl⟩ | ⟨bv, cap, rest, rfl, rfl, hcap, hnc⟩
    · have hus : us = [] := List.eq_nil_of_length_eq_zero (by simpa using hul)
      subst hus
      have hr := run_append_nil (P := P) w t o.type e i0 zv hu hi hz0 ⟨b, off, none⟩ m cc ws hwsl (hnews w hw0.sees) (by omega) (by omega) (by simp only [Nat.zero_add] at hb; rw [hby]; omega)
      have hge := grownCap_ge w m 0 e
      refine wpIn_of_value hd (hex a hal w _ _ hr) ⟨h, L3 ++ [(w.heap.size, _)], _, rfl, kk _ [(w.heap.size, cells (ws ++ (Builtin.zeroCells zv.cells (grownCap w m 0 e - m)).toList) e)] ⟨by simpa using hws, .inr ⟨w.heap.size, grownCap w m 0 e, (Builtin.zeroCells zv.cells (grownCap w m 0 e - m)).toList, by simp, by simp, ?_, by omega⟩⟩, ?_⟩
      · simp [size_zeroCells, hzc, hzk, hws, ← Nat.add_mul]; congr 1; omega
      · rw [List.append_nil] at hw
        rw [hL, List.append_nil]
        have hx := ext_drew_alloc hw (.cells (ws.toArray ++ Builtin.zeroCells zv.cells (grownCap w m 0 e - m)) e)
        have hob : (Obj.cells (ws.toArray ++ Builtin.zeroCells zv.cells (grownCap w m 0 e - m)) e) = cells (ws ++ (Builtin.zeroCells zv.cells (grownCap w m 0 e - m)).toList) e := by
          simp [cells]
        rw [hob] at hx ⊢
        exact (hx.perm (L2 := L2 ++ [(w.heap.size, _)]) (by simpa using List.perm_append_comm)).drop (hs3.append (List.Sublist.refl _))
    · have hbv : w.heap[bv]? = some (cells (us ++ rest) e) := hw.sees.own (bv, cells (us ++ rest) e) (by simp)
      by_cases hroom : n + m ≤ cap
      · have hfit : n * i0.size + ws.length ≤ (us ++ rest).toArray.size := by
          rw [hk, hws, ← Nat.add_mul]; simp only [List.size_toArray, List.length_append, hcap]; exact Nat.mul_le_mul_right _ hroom
        have hr := run_append_room (P := P) w t o.type e i0 hu hi bv n cap (us ++ rest).toArray hbv ⟨b, off, none⟩ m cc ws hwsl (hnews w hw0.sees) (ones_mem h1) hroom hfit
        have hcont : ((us ++ rest).toArray.toList.take (n * i0.size) ++ ws ++ (us ++ rest).toArray.toList.drop (n * i0.size + ws.length)) = (us ++ ws) ++ rest.drop ws.length := by
          rw [hk, ← hul]
          simp [List.drop_append]
        rw [hcont] at hr
        have hcapk : (n + m) * k ≤ cap * k := Nat.mul_le_mul_right _ hroom
        refine wpIn_of_value hd (hex a hal w _ _ hr) ⟨h, L3 ++ [(bv, cells ((us ++ ws) ++ rest.drop ws.length) e)], _, rfl, kk _ _ ⟨by simp [hul, hws, Nat.add_mul], .inr ⟨bv, cap, rest.drop ws.length, rfl, rfl, ?_, hroom⟩⟩, ?_⟩
        · simp only [List.length_append, List.length_drop, hws, hul] at *; rw [Nat.add_mul] at hcapk; omega
        · rw [hL]
          refine (Ext.set hw (w' := w.setRow bv ((us ++ ws) ++ rest.drop ws.length).toArray) (o' := cells ((us ++ ws) ++ rest.drop ws.length) e) (b := bv) (o := cells (us ++ rest) e) (L' := L2 ++ [(bv, cells ((us ++ ws) ++ rest.drop ws.length) e)]) ⟨L2, [], rfl, rfl⟩ ?_ ?_ ?_ rfl rfl rfl rfl).drop (hs3.append (List.Sublist.refl _))
          · exact setRow_heap w bv _ _ e _ hbv
          · exact fun j hj => setRow_other w bv j _ hj
          · simp [World.setRow]
      · have holds : ∀ j u, us[j]? = some u → w.cell? ((⟨bv, 0, none⟩ : Addr).add j) = some u := fun j u ej => by
          rw [addr_add]
          have hlt := (List.getElem?_eq_some_iff.1 ej).1
          simp only [World.cell?, hbv, Nat.zero_add]
          simp [List.getElem?_append_left hlt, ej]
        have hr := run_append_grow (P := P) w t o.type e i0 zv hu hi hz0 ⟨bv, 0, none⟩ n cap us (by rw [hk]; exact hul) holds ⟨b, off, none⟩ m cc ws hwsl (hnews w hw0.sees) (by omega) (by omega) (growslice_fits (by omega) (by rw [hby]; exact hb))
        have hge := grownCap_ge w (n + m) cap e
        refine wpIn_of_value hd (hex a hal w _ _ hr) ⟨h, L3 ++ [(w.heap.size, _)], _, rfl, kk _ [(w.heap.size, cells ((us ++ ws) ++ (Builtin.zeroCells zv.cells (grownCap w (n + m) cap e - (n + m))).toList) e)] ⟨by simp [hul, hws, Nat.add_mul], .inr ⟨w.heap.size, grownCap w (n + m) cap e, _, rfl, rfl, ?_, hge⟩⟩, ?_⟩
        · simp [size_zeroCells, hzc, hzk, hws, hul, ← Nat.add_mul]; congr 1; omega
        · rw [hL]
          have hx := ext_drew_alloc hw (.cells (us.toArray ++ ws.toArray ++ Builtin.zeroCells zv.cells (grownCap w (n + m) cap e - (n + m))) e)
          have hob : (Obj.cells (us.toArray ++ ws.toArray ++ Builtin.zeroCells zv.cells (grownCap w (n + m) cap e - (n + m))) e) = cells ((us ++ ws) ++ (Builtin.zeroCells zv.cells (grownCap w (n + m) cap e - (n + m))).toList) e := by
            simp [cells]
          rw [hob] at hx ⊢
          refine (hx.drop (L2 := (w.heap.size, _) :: L2) (List.Sublist.cons_cons _ (List.sublist_append_left _ _))).perm (L2 := L2 ++ [(w.heap.size, _)]) (by simpa using List.perm_append_comm) |>.drop (hs3.append (List.Sublist.refl _))
end
end Go.Mesh
