/-
  Part MAH of the proof's ground: X3, X4, X5, X6.
-/
import Derived.Laws.StructEq
import Derived.Test.YtcfedojmmfbbeaaGreatDoorMAG
/-
  A RUN THAT THE KERNEL RECKONS: operations that give a value and leave memory as it is.
-/
set_option linter.all false
namespace Go.Mesh
open Go.RowKit
set_option linter.unusedSimpArgs false
set_option linter.unusedVariables false

def SlotsD (ρ : Nm) (fr : Tr AV) (nt : Nat) (tmps : Array Value) : Prop := tmps.size = nt ∧ ∀ i v, fr.get i = some v → ∃ u, tmps[i]? = some u ∧ DenV ρ v u
inductive DenE (ρ : Nm) : Nat → List (AV × AV) → List MapEntry → Prop
  | nil (j : Nat) : DenE ρ j [] []
  | cons {j : Nat} {k v : AV} {u w : Value} {es : List (AV × AV)} {fs : List MapEntry} : DenV ρ k u → DenV ρ v w → DenE ρ (j + 1) es fs → DenE ρ j ((k, v) :: es) (⟨u, w, j⟩ :: fs)
inductive DenO (ρ : Nm) : AO → Obj → Prop
  | cells {cs : List AV} {us : List Value} (t : TypeId) : DenL ρ cs us → DenO ρ (.cells cs t) (.cells us.toArray t (0, 0))
  | row {cs : List AV} {us : List Value} (t : TypeId) (rest : List Value) {k me C : Nat} : DenL ρ cs us → ρ.κ me = some C → us.length + rest.length = C * k → DenO ρ (.row cs t k me) (.cells (us ++ rest).toArray t (0, 0))
  | ro {cs : List AV} {us : List Value} (t t' : TypeId) (rest : List Value) (fz : Nat × Nat) : DenL ρ cs us → DenO ρ (.ro cs t) (.cells (us ++ rest).toArray t' fz)
  | roS {n d : Nat} {cs : List AV} {us : List Value} (t : TypeId) (pre rest : List Value) (fz : Nat × Nat) : ρ.κ n = some d → pre.length = d → DenL ρ cs us → DenO ρ (.roS n cs) (.cells (pre ++ us ++ rest).toArray t fz)
  | map {es : List (AV × AV)} {fs : List MapEntry} : DenE ρ 0 es fs → DenO ρ (.map es) (.map fs.toArray es.length)
  | iter {m a : Nat} (n : Nat) (seen : Bool) : ρ m = some a → DenO ρ (.iter m n seen) (.mapIter (some a) n (if seen then #[0] else #[]) n)
  | loop {fr : Tr AV} {nt : Nat} {tmps : Array Value} {d da : Nat} (fid : FuncId) (ps : List Tmp) (asg body : Code) (st : LoopState) (pend : Option Code) : SlotsD ρ fr nt tmps → ρ d = some da → DenO ρ (.loop fr nt ps asg body d st pend) (.loop { state := st, pending := pend, fn := fid, tmps, params := ps.toArray, assign := asg, body, defers := da })
  | defd (x : Option (List Deferred)) : DenO ρ .defd (.deferred x)
def AO.cs? : AO → Option (List AV)
  | .cells cs _ => some cs
  | .row cs _ _ _ => some cs
  | .ro cs _ => some cs
  | _ => none
def agree (off k : Nat) (o o' : AO) : Prop := o = o' ∨ ∃ cs cs', o.cs? = some cs ∧ o'.cs? = some cs' ∧ cs.length = cs'.length ∧ ∀ c, off ≤ c → c < off + k → cs[c]? = cs'[c]?
def Loc (ρ : Nm) (hp : Tr AO) (w : World) (n off k : Nat) : Prop := ∀ a o, ρ n = some a → hp.get n = some o → ∃ o' ob, w.heap[a]? = some ob ∧ DenO ρ o' ob ∧ agree off k o o'
def Glob (ρ : Nm) : Prop := ∀ g, g < 13 → ρ g = some g
theorem SlotsD.mono {ρ ρ' : Nm} (h : leN ρ ρ') {fr : Tr AV} {nt : Nat} {tmps : Array Value} (x : SlotsD ρ fr nt tmps) : SlotsD ρ' fr nt tmps :=
  ⟨x.1, fun i v e => let ⟨u, e', d⟩ := x.2 i v e; ⟨u, e', d.mono h⟩⟩
theorem DenE.mono {ρ ρ' : Nm} (h : leN ρ ρ') : ∀ {j : Nat} {es : List (AV × AV)} {fs : List MapEntry}, DenE ρ j es fs → DenE ρ' j es fs
  | _, _, _, .nil j => .nil j
  | _, _, _, .cons x y z => .cons (x.mono h) (y.mono h) (DenE.mono h z)
theorem DenO.mono {ρ ρ' : Nm} (h : leN ρ ρ') {o : AO} {ob : Obj} (x : DenO ρ o ob) : DenO ρ' o ob := by
  cases x with
  | cells t d => exact .cells t (d.mono h)
  | row t r d e l => exact .row t r (d.mono h) (h.2 _ _ e) l
  | ro t t' r f d => exact .ro t t' r f (d.mono h)
  | roS t p r f k l d => exact .roS t p r f (h.2 _ _ k) l (d.mono h)
  | map d => exact .map (d.mono h)
  | iter n s e => exact .iter n s (h.1 _ _ e)
  | loop f ps a b s p d e => exact .loop f ps a b s p (d.mono h) (h.1 _ _ e)
  | defd x => exact .defd x
theorem DenE.length {ρ : Nm} : ∀ {j : Nat} {es : List (AV × AV)} {fs : List MapEntry}, DenE ρ j es fs → fs.length = es.length
  | _, _, _, .nil j => rfl
  | _, _, _, .cons _ _ z => by simp [DenE.length z]
theorem DenO.cs {ρ : Nm} {o : AO} {ob : Obj} {cs : List AV} (x : DenO ρ o ob) (h : o.cs? = some cs) : ∃ us rest t fz, ob = .cells (us ++ rest).toArray t fz ∧ DenL ρ cs us := by
  cases x <;> simp only [AO.cs?, Option.some.injEq, reduceCtorEq] at h <;> subst h
  case cells us t d => exact ⟨us, [], t, (0, 0), by simp, d⟩
  case row us t r _ _ _ d _ _ => exact ⟨us, r, t, _, rfl, d⟩
  case ro us t t' r f d => exact ⟨us, r, t', _, rfl, d⟩
theorem objCells_get {hp : Tr AO} {n : Nat} {cs : List AV} (h : objCells hp n = some cs) : ∃ o, hp.get n = some o ∧ o.cs? = some cs := by
  unfold objCells at h
  split at h <;> simp only [Option.some.injEq, reduceCtorEq] at h <;> subst h
  · rename_i e; exact ⟨_, e, rfl⟩
  · rename_i e; exact ⟨_, e, rfl⟩
  · rename_i e; exact ⟨_, e, rfl⟩
theorem mapOf_get {hp : Tr AO} {n : Nat} {es : List (AV × AV)} (h : mapOf hp n = some es) : hp.get n = some (.map es) := by
  unfold mapOf at h
  split at h
  · rename_i e; cases h; exact e
  · cases h

section
variable {P : Program} {ρ : Nm} {fr : Tr AV} {nt : Nat} {hp : Tr AO} {a : Act} {w : World} {o : Oper}

theorem aev_ok (hs : SlotsD ρ fr nt a.tmps) (hg : Glob ρ) {x : Operand} {v : AV} (h : aev fr x = some v) : DenV ρ v (a.eval x) := by
  cases x with
  | tmp t =>
    obtain ⟨u, e, d⟩ := hs.2 t v h
    simp only [Act.eval, Array.getD_eq_getD_getElem?, e, Option.getD_some]; exact d
  | const c => simp only [aev, Option.some.injEq] at h; subst h; exact .ofC c
  | global g =>
    simp only [aev, bsome, bltT, Option.some.injEq] at h
    obtain ⟨h1, h2⟩ := h; subst h2
    exact .ptr 0 (hg g h1)
  | func f => simp only [aev, Option.some.injEq] at h; subst h; exact .fn f .nil .nil
theorem aevs_ok (hs : SlotsD ρ fr nt a.tmps) (hg : Glob ρ) : ∀ {xs : List Operand} {vs : List AV}, aevs fr xs = some vs → DenL ρ vs (xs.map a.eval)
  | [], vs, h => by simp only [aevs, Option.some.injEq] at h; subst h; exact .nil
  | x :: xs, vs, h => by
    simp only [aevs, Option.bind_eq_some_iff, Option.some.injEq] at h
    obtain ⟨v, h1, vs', h2, h3⟩ := h
    subst h3
    exact .cons (aev_ok hs hg h1) (aevs_ok hs hg h2)

theorem den_ptr {v : AV} {u : Value} {p : Nat × Nat} (d : DenV ρ v u) (h : v.ptr? = some p) : ∃ b, ρ p.1 = some b ∧ u = ptr b p.2 := by
  cases d <;> simp only [AV.ptr?, Option.some.injEq, reduceCtorEq] at h
  case ptr off e => subst h; exact ⟨_, e, rfl⟩
theorem den_nat {v : AV} {u : Value} {n : Nat} (d : DenV ρ v u) (h : v.nat? = some n) : ∃ k, u = .int k (n : Int) := by
  unfold AV.nat? at h
  split at h
  · cases h; cases d; exact ⟨_, rfl⟩
  · cases h
theorem den_bool {v : AV} {u : Value} {b : Bool} (d : DenV ρ v u) (h : v.bool? = some b) : u = .bool b := by
  cases d <;> simp only [AV.bool?, Option.some.injEq, reduceCtorEq] at h
  case bool => subst h; rfl
theorem den_mp {v : AV} {u : Value} {n : Nat} (d : DenV ρ v u) (h : v.mp? = some n) : ∃ b, ρ n = some b ∧ u = .map (some b) := by
  cases d <;> simp only [AV.mp?, Option.some.injEq, reduceCtorEq] at h
  case mp e => subst h; exact ⟨_, e, rfl⟩
theorem den_agg {v : AV} {u : Value} {cs : List AV} (d : DenV ρ v u) (h : v.agg? = some cs) : ∃ us, u = .agg us.toArray ∧ DenL ρ cs us := by
  cases d <;> simp only [AV.agg?, Option.some.injEq, reduceCtorEq] at h
  case agg e => subst h; exact ⟨_, rfl, e⟩
theorem den_tup {v : AV} {u : Value} {cs : List AV} (d : DenV ρ v u) (h : v.tup? = some cs) : ∃ us, u = .tuple us.toArray ∧ DenL ρ cs us := by
  cases d <;> simp only [AV.tup?, Option.some.injEq, reduceCtorEq] at h
  case tup e => subst h; exact ⟨_, rfl, e⟩

/-! The slots as a list, so that the laws of the first texts serve. -/
def frOf (a : Act) : Fr := (List.range a.tmps.size).map fun i => (i, a.tmps.getD i undef)
theorem get_frOf : ∀ (n k : Nat) (f : Nat → Value) (i : Nat), get? ((List.range' k n).map fun i => (i, f i)) i = if k ≤ i ∧ i < k + n then some (f i) else none := by
  intro n
  induction n with
  | zero => intro k f i; simp [get?]
  | succ n ih =>
    intro k f i
    simp only [List.range'_succ, List.map_cons, get?_cons, ih]
    by_cases h : k = i
    · subst h; simp
    · simp only [h, if_false]
      by_cases h2 : k + 1 ≤ i ∧ i < k + 1 + n
      · rw [if_pos h2, if_pos (by omega)]
      · rw [if_neg h2, if_neg (by omega)]
theorem ev_frOf {x : Operand} {v : AV} (hs : SlotsD ρ fr nt a.tmps) (h : aev fr x = some v) : ev (frOf a) x = some (a.eval x) := by
  cases x with
  | tmp t =>
    obtain ⟨u, e, _⟩ := hs.2 t v h
    have hlt := (Array.getElem?_eq_some_iff.1 e).1
    simp only [ev, frOf, List.range_eq_range', get_frOf, Act.eval]
    rw [if_pos (by omega)]
  | const c => rfl
  | global g => rfl
  | func f => rfl
theorem frOf_ok : ∀ x u, ev (frOf a) x = some u → a.eval x = u := by
  intro x u h
  cases x with
  | tmp t =>
    simp only [ev, frOf, List.range_eq_range', get_frOf] at h
    split at h
    · simp only [Option.some.injEq] at h; subst h; rfl
    · cases h
  | const c => simpa [ev, Act.eval] using h
  | global g => simpa [ev, Act.eval] using h
  | func f => simpa [ev, Act.eval] using h
abbrev hW (w : World) : Frag := fun b => w.heap[b]?
theorem sees_hW : Sees (hW w) [] w := ⟨fun _ _ e => e, fun _ hp => by cases hp⟩
/-- what a law of the first texts gives -/
theorem of_Q {u : Value} (q : QOP P o (frOf a) (hW w) [] u) : (execOp a.eval o).run P w = .ok (.value u) w := q.2 a frOf_ok w sees_hW

def QR (P : Program) (ρ : Nm) (a : Act) (w : World) (o : Oper) (v : AV) : Prop := ∃ u, DenV ρ v u ∧ (execOp a.eval o).run P w = .ok (.value u) w

theorem q_move (hs : SlotsD ρ fr nt a.tmps) (hg : Glob ρ) {x : Operand} {v : AV} (hop : o.op = .move x) (h : aev fr x = some v) : QR P ρ a w o v :=
  ⟨_, aev_ok hs hg h, of_Q (Q_move hop (ev_frOf hs h))⟩
theorem q_assign (hs : SlotsD ρ fr nt a.tmps) (hg : Glob ρ) {x : Operand} {v : AV} (hop : o.op = .assign x) (h : aev fr x = some v) : QR P ρ a w o v :=
  ⟨_, aev_ok hs hg h, of_Q (Q_assign hop (ev_frOf hs h))⟩
theorem q_pick (hs : SlotsD ρ fr nt a.tmps) (hg : Glob ρ) {c x y : Operand} {v : AV} (hop : o.op = .pick c x y) (h : qPick fr c x y = some v) : QR P ρ a w o v := by
  simp only [qPick, Option.bind_eq_some_iff] at h
  obtain ⟨b, h1, t, h2, h3⟩ := h
  have hc := ev_frOf hs h1
  rw [den_bool (aev_ok hs hg h1) h2] at hc
  cases t with
  | true => exact ⟨_, aev_ok hs hg h3, of_Q (Q_pick_t hop hc (ev_frOf hs h3))⟩
  | false => exact ⟨_, aev_ok hs hg h3, of_Q (Q_pick_f hop hc (ev_frOf hs h3))⟩
theorem q_not (hs : SlotsD ρ fr nt a.tmps) (hg : Glob ρ) {t : TypeId} {x : Operand} {v : AV} (hop : o.op = .unOp .not t x) (h : qNot fr x = some v) : QR P ρ a w o v := by
  simp only [qNot, Option.bind_eq_some_iff, Option.some.injEq] at h
  obtain ⟨b, h1, t, h2, h3⟩ := h
  subst h3
  have hc := ev_frOf hs h1
  rw [den_bool (aev_ok hs hg h1) h2] at hc
  exact ⟨_, .bool _, of_Q (Q_not hop hc)⟩
theorem wrapF_eq (k : IntKind) (n : Int) : wrapF k n = k.wrap n := by
  unfold wrapF
  split
  · rename_i m
    cases hb : Nat.blt m 128 with
    | false => rfl
    | true =>
      have hm := bltT.1 hb
      simp only [cond_true]
      cases k <;> simp [IntKind.wrap, IntKind.bits, IntKind.signed] <;> omega
  · rfl
theorem q_conv (hs : SlotsD ρ fr nt a.tmps) (hg : Glob ρ) {s t : TypeId} {x : Operand} {v : AV} (hop : o.op = .convert s t x) (h : qConv P fr s t x = some v) : QR P ρ a w o v := by
  simp only [qConv, Option.bind_eq_some_iff] at h
  obtain ⟨b, h1, h2⟩ := h
  have hc := ev_frOf hs h1
  have d := aev_ok hs hg h1
  split at h2
  · rename_i q m
    generalize a.eval x = u at hc d
    cases d
    split at h2
    · rename_i q1 q2 e1 e2
      cases h2
      rw [wrapF_eq]
      exact ⟨_, .int _ _, of_Q (Q_conv hop hc ⟨_, e1⟩ e2)⟩
    · cases h2
  · cases h2
theorem q_nil (hs : SlotsD ρ fr nt a.tmps) (hg : Glob ρ) {x : Operand} {v : AV} (hop : o.op = .nilCheck x) (h : qNil fr x = some v) : QR P ρ a w o v := by
  simp only [qNil, Option.bind_eq_some_iff] at h
  obtain ⟨b, h1, h2⟩ := h
  have d := aev_ok hs hg h1
  obtain ⟨u, hu⟩ : ∃ u, a.eval x = u := ⟨_, rfl⟩
  rw [hu] at d
  refine ⟨u, ?_, ?_⟩
  · split at h2 <;> first | (cases h2; exact d) | cases h2
  · unfold execOp; rw [hop]
    split at h2 <;> first | (cases d; simp [hu]; done) | cases h2
theorem q_fieldAddr (hs : SlotsD ρ fr nt a.tmps) (hg : Glob ρ) {s : TypeId} {x : Operand} {f : Nat} {v : AV} (hop : o.op = .fieldAddr s x f) (h : qFieldAddr P fr s x f = some v) : QR P ρ a w o v := by
  simp only [qFieldAddr, Option.bind_eq_some_iff, Option.some.injEq] at h
  obtain ⟨b, h1, p, h2, q, h3, h4⟩ := h
  subst h4
  obtain ⟨c, e, hu⟩ := den_ptr (aev_ok hs hg h1) h2
  have hc := ev_frOf hs h1
  rw [hu] at hc
  exact ⟨_, .ptr _ e, of_Q (Q_fieldAddr hop hc h3)⟩
theorem getPart_ok {g : Bool} {k off : Nat} {cs : List AV} {us : List Value} {v : AV} (d : DenL ρ cs us) (h : getPart g k cs off = some v) :
    (g = true ∧ off + k ≤ us.length ∧ DenV ρ v (.agg ((us.drop off).take k).toArray)) ∨ (g = false ∧ ∃ u, us[off]? = some u ∧ DenV ρ v u) := by
  cases g with
  | true =>
    simp only [getPart, cond_true, bsome, bleT, lenL_eq, Option.some.injEq, takeL_eq, dropL_eq] at h
    obtain ⟨h1, h2⟩ := h
    subst h2
    exact .inl ⟨rfl, by rw [d.length]; exact h1, .agg ((d.drop off).take k)⟩
  | false =>
    simp only [getPart, cond_false, nthL_eq] at h
    obtain ⟨u, e, hd⟩ := d.get h
    exact .inr ⟨rfl, u, e, hd⟩
theorem q_field (hs : SlotsD ρ fr nt a.tmps) (hg : Glob ρ) {s : TypeId} {x : Operand} {f : Nat} {v : AV} (hop : o.op = .field s x f) (h : qField P fr s x f = some v) : QR P ρ a w o v := by
  simp only [qField, Option.bind_eq_some_iff] at h
  obtain ⟨b, h1, cs, h2, q, h3, g, h4, h5⟩ := h
  obtain ⟨us, hu, d⟩ := den_agg (aev_ok hs hg h1) h2
  have hc := ev_frOf hs h1
  rw [hu] at hc
  obtain ⟨q1, q2⟩ := q
  obtain ⟨g1, g2⟩ := g
  rcases getPart_ok d h5 with ⟨hgt, _, hd⟩ | ⟨hgf, u, e, hd⟩
  · simp only at hgt; subst hgt
    exact ⟨_, hd, of_Q (Q_field hop hc h3 h4)⟩
  · simp only at hgf; subst hgf
    exact ⟨_, hd, of_Q (Q_field1 hop hc h3 h4 e)⟩
theorem q_extract (hs : SlotsD ρ fr nt a.tmps) (hg : Glob ρ) {x : Operand} {i : Nat} {v : AV} (hop : o.op = .extract x i) (h : qExtract fr x i = some v) : QR P ρ a w o v := by
  simp only [qExtract, Option.bind_eq_some_iff, nthL_eq] at h
  obtain ⟨b, h1, cs, h2, h3⟩ := h
  obtain ⟨us, hu, d⟩ := den_tup (aev_ok hs hg h1) h2
  have hc := ev_frOf hs h1
  rw [hu] at hc
  obtain ⟨u, e, hd⟩ := d.get h3
  exact ⟨_, hd, of_Q (Q_extract hop hc (by simpa using e))⟩
theorem load_at (hs : SlotsD ρ fr nt a.tmps) {t : TypeId} {x : Operand} {b v : AV} {g : Bool × Nat} {c d off : Nat} {cs : List AV} {pre us rest : List Value} {bt : TypeId} {fz : Nat × Nat} (hop : o.op = .load t x) (h1 : aev fr x = some b) (hu : a.eval x = ptr c (d + off)) (h4 : tyOf P t = some g) (h5 : getPart g.1 g.2 cs off = some v)
    (e3 : w.heap[c]? = some (.cells (pre ++ us ++ rest).toArray bt fz)) (hpre : pre.length = d) (dl : DenL ρ cs us) : QR P ρ a w o v := by
  have hc := ev_frOf hs h1
  rw [hu] at hc
  have hrd : ∀ vs : List Value, (∀ (j : Nat) (v : Value), vs[j]? = some v → us[off + j]? = some v) → Rd (hW w) [] c (d + off) vs := fun vs hv => ⟨_, bt, fz, .inl e3, fun j v ej => by
    have := hv j v ej
    have hlt := (List.getElem?_eq_some_iff.1 this).1
    simp only [List.getElem?_toArray]
    rw [List.append_assoc, List.getElem?_append_right (by omega), List.getElem?_append_left (by omega), ← this]
    congr 1; omega⟩
  obtain ⟨g1, k⟩ := g
  cases g1 with
  | true =>
    rcases getPart_ok dl h5 with ⟨_, hle, hd⟩ | ⟨hgf, _⟩
    · refine ⟨_, hd, of_Q (Q_load hop hc (hrd _ fun j v ej => take_drop_get ej) h4 ?_)⟩
      simp; omega
    · cases hgf
  | false =>
    rcases getPart_ok dl h5 with ⟨hgt, _⟩ | ⟨_, u, eu, hd⟩
    · cases hgt
    · refine ⟨_, hd, of_Q (Q_load1 hop hc (hrd [u] fun j v ej => ?_) h4)⟩
      cases j with
      | zero => simp at ej; subst ej; simpa using eu
      | succ j => simp at ej
theorem getPart_agree {g : Bool} {k off : Nat} {cs cs' : List AV} {v : AV} (hlen : cs.length = cs'.length) (hag : ∀ i, off ≤ i → i < off + (bif g then k else 1) → cs[i]? = cs'[i]?) (h5 : getPart g k cs off = some v) : getPart g k cs' off = some v := by
  cases g with
  | true =>
    simp only [cond_true] at hag
    rw [← h5]
    simp only [getPart, cond_true, takeL_eq, dropL_eq, lenL_eq] at h5 ⊢
    have hk := (bsome.1 h5).1
    rw [bleT] at hk
    have hlen' : off + k ≤ cs'.length := by rw [← hlen]; exact hk
    have hk' : Nat.ble (Nat.add off k) cs'.length = true := bleT.2 hlen'
    have hk'' : Nat.ble (Nat.add off k) cs.length = true := bleT.2 hk
    rw [hk', hk'']
    simp only [cond_true, Option.some.injEq, AV.agg.injEq]
    apply List.ext_getElem?
    intro i
    simp only [List.getElem?_take, List.getElem?_drop]
    split
    · exact (hag _ (by omega) (by omega)).symm
    · rfl
  | false =>
    simp only [cond_false] at hag
    rw [← h5]
    simp only [getPart, cond_false, nthL_eq]
    exact (hag _ (by omega) (by omega)).symm
theorem q_load (hs : SlotsD ρ fr nt a.tmps) (hg : Glob ρ) {t : TypeId} {x : Operand} {v : AV} (hop : o.op = .load t x) (h : qLoad P fr hp t x = some v)
    (hl : ∀ n off k, readsOf P fr o.op = some (n, off, k) → Loc ρ hp w n off k) : QR P ρ a w o v := by
  simp only [qLoad, Option.bind_eq_some_iff] at h
  obtain ⟨b, h1, ⟨off, cs⟩, h2, g, h4, h5⟩ := h
  simp only at h5
  unfold cellsOf at h2
  split at h2
  · rename_i n off'
    simp only [Option.bind_eq_some_iff, Option.some.injEq, Prod.mk.injEq] at h2
    obtain ⟨cs', h3, rfl, rfl⟩ := h2
    obtain ⟨c, e, hu⟩ := den_ptr (aev_ok hs hg h1) (p := (n, off')) rfl
    obtain ⟨o1, e1, e2⟩ := objCells_get h3
    obtain ⟨o', ob, e3, d', ag⟩ := hl n off' (bif g.1 then g.2 else 1) (by rw [hop]; simp [readsOf, h1, h4, AV.at?]) c o1 e e1
    have ⟨cs2, hcs', hlen', hag⟩ : ∃ cs2, o'.cs? = some cs2 ∧ cs'.length = cs2.length ∧ ∀ i, off' ≤ i → i < off' + (bif g.1 then g.2 else 1) → cs'[i]? = cs2[i]? := by
      rcases ag with rfl | ⟨c1, c2, q1, q2, q3⟩
      · exact ⟨cs', e2, rfl, fun _ _ _ => rfl⟩
      · rw [e2] at q1; cases q1; exact ⟨c2, q2, q3⟩
    obtain ⟨us, rest, bt, fz, rfl, dl⟩ := d'.cs hcs'
    exact load_at (d := 0) (pre := []) hs hop h1 (by rw [Nat.zero_add]; exact hu) h4 (getPart_agree hlen' hag h5) e3 rfl dl
  · rename_i n off'
    simp only [Option.bind_eq_some_iff, Option.some.injEq, Prod.mk.injEq] at h2
    obtain ⟨cs', h3, rfl, rfl⟩ := h2
    unfold roCells at h3
    split at h3
    · rename_i m cs2 e1
      rw [bsome, beqT] at h3
      obtain ⟨rfl, h3⟩ := h3
      cases h3
      have dx := aev_ok hs hg h1
      obtain ⟨ux, hux⟩ : ∃ ux, a.eval x = ux := ⟨_, rfl⟩
      rw [hux] at dx
      cases dx with
      | @ptrS _ c d _ hr hk =>
        obtain ⟨o', ob, e3, d', ag⟩ := hl _ off' (bif g.1 then g.2 else 1) (by rw [hop]; simp [readsOf, h1, h4, AV.at?]) c _ hr e1
        have : o' = .roS m cs' := by
          rcases ag with e | ⟨c1, c2, q1, q2, q3⟩
          · exact e.symm
          · cases q1
        subst this
        cases d' with
        | @roS _ d2 _ us bt pre rest fz hk2 hpre dl =>
          rw [hk] at hk2; cases hk2
          exact load_at hs hop h1 hux h4 h5 e3 hpre dl
    · cases h3
  · cases h2
end
end Go.Mesh
/-
  A RUN THAT THE KERNEL RECKONS: operators.
-/
set_option linter.all false
namespace Go.Mesh
open Go.RowKit
set_option linter.unusedSimpArgs false
set_option linter.unusedVariables false

section
variable {P : Program} {ρ : Nm} {w : World}

theorem eqB_eq : ∀ (x y : List Nat), eqB x y = (x == y)
  | [], [] => rfl
  | [], _ :: _ => rfl
  | _ :: _, [] => rfl
  | a :: x, b :: y => by
    simp only [eqB, bq, eqB_eq x y, List.cons_beq_cons]
    by_cases h : a = b <;> simp [h]
theorem toNat_beq (x y : List UInt8) : (x.map UInt8.toNat == y.map UInt8.toNat) = (x == y) := by
  rw [Bool.eq_iff_iff]
  simp only [beq_iff_eq]
  constructor
  · intro h
    induction x generalizing y with
    | nil => cases y <;> simp_all
    | cons a x ih =>
      cases y with
      | nil => simp at h
      | cons b y =>
        simp only [List.map_cons, List.cons.injEq] at h
        rw [UInt8.toNat_inj.1 h.1, ih y h.2]
  · intro h; rw [h]
theorem str_eq (a b : ByteArray) : eqB (a.data.toList.map UInt8.toNat) (b.data.toList.map UInt8.toNat) = (a.toList == b.toList) := by
  rw [eqB_eq, toNat_beq, ByteArray.toList_eq, ByteArray.toList_eq]
theorem ltB_eq : ∀ (x y : List UInt8), ltB (x.map UInt8.toNat) (y.map UInt8.toNat) = Op.bytesLess x y
  | _, [] => by cases ‹List UInt8› <;> simp [ltB, Op.bytesLess]
  | [], _ :: _ => by simp [ltB, Op.bytesLess]
  | a :: x, b :: y => by
    have h1 : Nat.blt a.toNat b.toNat = decide (a < b) := by
      rw [Bool.eq_iff_iff]; simp [bltT, UInt8.lt_iff_toNat_lt]
    simp only [List.map_cons, ltB, Op.bytesLess, h1, bq, ltB_eq x y]
    by_cases h : a < b
    · simp [h]
    · by_cases h2 : a = b
      · subst h2; simp [h]
      · have : ¬ a.toNat = b.toNat := fun e => h2 (UInt8.toNat_inj.1 e)
        simp [h, h2, this]
theorem str_lt (a b : ByteArray) : ltB (a.data.toList.map UInt8.toNat) (b.data.toList.map UInt8.toNat) = Op.bytesLess a.toList b.toList := by
  rw [ltB_eq, ByteArray.toList_eq, ByteArray.toList_eq]

/-! ### Plain structs -/
/-- the value of a row of cells -/
def valOf (P : Program) (t : TypeId) (xs : List Value) : Value :=
  match P.underlying t with
  | some (.struct _) => .agg xs.toArray
  | _ => xs.headD undef
theorem leafsF_len {rec : TypeId → Option (List Nat)} {n : Nat} (hr : ∀ t ks, rec t = some ks → ks.length = P.cellsOf t) : ∀ (fs : List Field) (o : Nat) (ks : List Nat), leafsF P rec n o fs = some ks → o + ks.length = n
  | [], o, ks, h => by
    simp only [leafsF, bsome, Option.some.injEq, beq_iff_eq] at h
    obtain ⟨h1, h2⟩ := h; subst h2; simpa using h1
  | f :: fs, o, ks, h => by
    simp only [leafsF, bsome, Option.bind_eq_some_iff, Option.some.injEq] at h
    obtain ⟨_, a, h1, b, h2, h3⟩ := h
    subst h3
    have := leafsF_len hr fs _ b h2
    have := hr _ _ h1
    simp; omega
theorem leafs_len : ∀ (d : Nat) (t : TypeId) (ks : List Nat), leafs P d t = some ks → ks.length = P.cellsOf t
  | 0, _, _, h => by cases h
  | d + 1, t, ks, h => by
    simp only [leafs] at h
    split at h
    · simp only [bsome, Option.some.injEq, beq_iff_eq] at h; obtain ⟨h1, h2⟩ := h; subst h2; simp [h1]
    · simp only [bsome, Option.some.injEq, beq_iff_eq] at h; obtain ⟨h1, h2⟩ := h; subst h2; simp [h1]
    · simp only [bsome, Option.some.injEq, beq_iff_eq] at h; obtain ⟨h1, h2⟩ := h; subst h2; simp [h1]
    · rename_i fs _
      cases hs : P.stoodInHeld t with
      | true => rw [hs] at h; cases h
      | false =>
        rw [hs] at h
        have := leafsF_len (leafs_len d) _ _ _ h
        omega
    · cases h
theorem eqVs_app : ∀ (k1 k2 : List Nat) (x1 x2 y1 y2 : List AV) (r : Bool), eqVs (k1 ++ k2) (x1 ++ x2) (y1 ++ y2) = some r → x1.length = k1.length → y1.length = k1.length → ∃ p q, eqVs k1 x1 y1 = some p ∧ eqVs k2 x2 y2 = some q ∧ r = (p && q)
  | [], k2, x1, x2, y1, y2, r, h, hx, hy => by
    have := List.eq_nil_of_length_eq_zero hx
    have := List.eq_nil_of_length_eq_zero hy
    subst_vars
    exact ⟨true, r, rfl, by simpa using h, by simp⟩
  | c :: k1, k2, [], x2, y1, y2, r, h, hx, hy => by simp at hx
  | c :: k1, k2, _ :: _, x2, [], y2, r, h, hx, hy => by simp at hy
  | c :: k1, k2, a :: x1, x2, b :: y1, y2, r, h, hx, hy => by
    simp only [List.cons_append, eqVs, Option.bind_eq_some_iff, Option.some.injEq] at h
    obtain ⟨p, h1, q, h2, h3⟩ := h
    obtain ⟨p', q', h4, h5, h6⟩ := eqVs_app k1 k2 x1 x2 y1 y2 q h2 (by simpa using hx) (by simpa using hy)
    exact ⟨p && p', q', by simp [eqVs, h1, h4], h5, by subst h3 h6; simp [Bool.and_assoc]⟩
theorem eqVs_len : ∀ (ks : List Nat) (x y : List AV) (r : Bool), eqVs ks x y = some r → x.length = ks.length ∧ y.length = ks.length
  | [], [], [], _, _ => ⟨rfl, rfl⟩
  | [], [], _ :: _, _, h => by cases h
  | [], _ :: _, _, _, h => by cases h
  | _ :: _, [], _, _, h => by cases h
  | _ :: _, _ :: _, [], _, h => by cases h
  | c :: ks, a :: x, b :: y, r, h => by
    simp only [eqVs, Option.bind_eq_some_iff, Option.some.injEq] at h
    obtain ⟨p, h1, q, h2, h3⟩ := h
    have := eqVs_len ks x y q h2
    simp [this.1, this.2]
theorem run_part {t : TypeId} {pre xs post : List Value} (hi : (P.info? t).isSome = true) (hu : (P.underlying t).isSome = true) (hk : xs.length = P.cellsOf t) (h1 : ∀ fs, P.underlying t ≠ some (.array fs 0) ∨ True)
    (hs : (∃ fs, P.underlying t = some (.struct fs)) ∨ ((∀ fs, P.underlying t ≠ some (.struct fs)) ∧ (∀ n e, P.underlying t ≠ some (.array n e)) ∧ P.cellsOf t = 1)) :
    (part t (pre ++ xs ++ post).toArray pre.length).run P w = .ok (valOf P t xs) w := by
  cases hi' : P.info? t with
  | none => rw [hi'] at hi; cases hi
  | some i =>
    have hk' : i.size = xs.length := by rw [hk]; simp [Program.cellsOf, hi']
    rcases hs with ⟨fs, hs⟩ | ⟨hs, ha, hc⟩
    · have ht : tyOf P t = some (true, i.size) := by simp [tyOf, hs, hi']
      unfold part valOf
      simp only [Sem.run_bind, run_isAgg ht, Result.andThen_ok, if_true, run_sizeOf ht, hs, Sem.run_pure, hk']
      congr 2
      simp [List.extract_eq_take_drop]
    · have ht : tyOf P t = some (false, i.size) := by
        cases hu' : P.underlying t with
        | none => rw [hu'] at hu; cases hu
        | some d =>
          unfold tyOf
          simp only [hu', hi']
          cases d <;> first | rfl | exact absurd hu' (hs _) | exact absurd hu' (ha _ _)
      have hx : ∃ x, xs = [x] := by
        match xs, hk with
        | [x], _ => exact ⟨x, rfl⟩
        | [], e => simp [hc] at e
        | _ :: _ :: _, e => simp [hc] at e
      obtain ⟨x, rfl⟩ := hx
      unfold part valOf
      simp only [Sem.run_bind, run_isAgg ht, Result.andThen_ok, Bool.false_eq_true, if_false]
      have : (pre ++ [x] ++ post).toArray[pre.length]? = some x := by simp
      rw [this]
      cases hu' : P.underlying t with
      | none => rw [hu'] at hu; cases hu
      | some d => cases d <;> first | rfl | exact absurd hu' (hs _)
theorem leafs_kind : ∀ (d : Nat) (t : TypeId) (ks : List Nat), leafs P d t = some ks → (P.underlying t).isSome = true ∧ ((∃ fs, P.underlying t = some (.struct fs)) ∨ ((∀ fs, P.underlying t ≠ some (.struct fs)) ∧ (∀ n e, P.underlying t ≠ some (.array n e)) ∧ P.cellsOf t = 1))
  | 0, _, _, h => by cases h
  | d + 1, t, ks, h => by
    simp only [leafs] at h
    split at h
    · rename_i e; simp only [bsome, Option.some.injEq, beq_iff_eq] at h; rw [e]; exact ⟨rfl, .inr ⟨by simp, by simp, h.1⟩⟩
    · rename_i e; simp only [bsome, Option.some.injEq, beq_iff_eq] at h; rw [e]; exact ⟨rfl, .inr ⟨by simp, by simp, h.1⟩⟩
    · rename_i e; simp only [bsome, Option.some.injEq, beq_iff_eq] at h; rw [e]; exact ⟨rfl, .inr ⟨by simp, by simp, h.1⟩⟩
    · rename_i e; rw [e]; exact ⟨rfl, .inl ⟨_, rfl⟩⟩
    · cases h
theorem eqV_leaf {c : Nat} {v v' : AV} {u u' : Value} {r : Bool} (h : eqV c v v' = some r) (d : DenV ρ v u) (d' : DenV ρ v' u') :
    (∃ k a b, c = 0 ∧ u = .int k a ∧ u' = .int k b ∧ r = (a == b)) ∨ (∃ a b : ByteArray, c = 1 ∧ u = .string a ∧ u' = .string b ∧ r = (a.toList == b.toList)) ∨ (∃ a b, c = 2 ∧ u = .bool a ∧ u' = .bool b ∧ r = (a == b)) := by
  unfold eqV at h
  split at h
  · simp only [bsome, beqT, Option.some.injEq, decide_eq_true_eq] at h
    obtain ⟨rfl, rfl, rfl⟩ := h
    cases d; cases d'; exact .inl ⟨_, _, _, rfl, rfl, rfl, rfl⟩
  · simp only [bsome, beqT, Option.some.injEq] at h
    obtain ⟨rfl, rfl⟩ := h
    cases d; cases d'; exact .inr (.inl ⟨_, _, rfl, rfl, rfl, str_eq _ _⟩)
  · simp only [bsome, beqT, Option.some.injEq] at h
    obtain ⟨rfl, rfl⟩ := h
    cases d; cases d'; exact .inr (.inr ⟨_, _, rfl, rfl, rfl, rfl⟩)
  · cases h
theorem DenL.split {k : Nat} {vs : List AV} {us : List Value} (d : DenL ρ vs us) : DenL ρ (vs.take k) (us.take k) ∧ DenL ρ (vs.drop k) (us.drop k) := ⟨d.take k, d.drop k⟩
theorem eqLeafs : ∀ (d : Nat) (t : TypeId) (ks : List Nat), leafs P d t = some ks → ∀ (vs vs' : List AV) (us us' : List Value) (r : Bool), eqVs ks vs vs' = some r → DenL ρ vs us → DenL ρ vs' us' →
    ∀ D, d ≤ D → (Op.equalIn D t (valOf P t us) (valOf P t us')).run P w = .ok r w
  | 0, _, _, h, _, _, _, _, _, _, _, _, _, _ => by cases h
  | d + 1, t, ks, h, vs, vs', us, us', r, he, hd, hd', D, hD => by
    obtain ⟨D, rfl⟩ : ∃ D', D = D' + 1 := ⟨D - 1, by omega⟩
    simp only [leafs] at h
    have one : ∀ c, ks = [c] → ∃ v v' u u', us = [u] ∧ us' = [u'] ∧ eqV c v v' = some r ∧ DenV ρ v u ∧ DenV ρ v' u' := by
      rintro c rfl
      obtain ⟨l1, l2⟩ := eqVs_len _ _ _ _ he
      match vs, vs', us, us', hd, hd', l1, l2, he with
      | [v], [v'], _, _, .cons x .nil, .cons y .nil, _, _, he =>
        refine ⟨v, v', _, _, rfl, rfl, ?_, x, y⟩
        simp only [eqVs, Option.bind_eq_some_iff, Option.some.injEq] at he
        obtain ⟨p, h1, q, rfl, h3⟩ := he
        simpa [h1] using h3
    split at h
    · rename_i k e
      simp only [bsome, Option.some.injEq] at h
      obtain ⟨v, v', u, u', rfl, rfl, h1, x, y⟩ := one 0 h.2.symm
      rcases eqV_leaf h1 x y with ⟨k, a, b, _, rfl, rfl, rfl⟩ | ⟨a, b, hc, _⟩ | ⟨a, b, hc, _⟩
      · simp only [valOf, e, List.headD_cons]; exact run_equalIn_int w D t k _ a b e
      · cases hc
      · cases hc
    · rename_i e
      simp only [bsome, Option.some.injEq] at h
      obtain ⟨v, v', u, u', rfl, rfl, h1, x, y⟩ := one 1 h.2.symm
      rcases eqV_leaf h1 x y with ⟨k, a, b, hc, _⟩ | ⟨a, b, _, rfl, rfl, rfl⟩ | ⟨a, b, hc, _⟩
      · cases hc
      · simp only [valOf, e, List.headD_cons]; exact run_equalIn_string w D t a b e
      · cases hc
    · rename_i e
      simp only [bsome, Option.some.injEq] at h
      obtain ⟨v, v', u, u', rfl, rfl, h1, x, y⟩ := one 2 h.2.symm
      rcases eqV_leaf h1 x y with ⟨k, a, b, hc, _⟩ | ⟨a, b, hc, _⟩ | ⟨a, b, _, rfl, rfl, rfl⟩
      · cases hc
      · cases hc
      · simp only [valOf, e, List.headD_cons]; exact run_equalIn_bool' w D t a b e
    · rename_i fs e
      cases hs : P.stoodInHeld t with
      | true => rw [hs] at h; cases h
      | false =>
        rw [hs] at h
        simp only [cond_false] at h
        have hfo : P.fieldsOf t = fs := by simp [Program.fieldsOf, e]
        simp only [valOf, e]
        rw [run_equalIn_struct w D t _ _ (by rw [hfo]; exact e) hs, hfo]
        have key : ∀ (l : List Field) (o : Nat) (ks : List Nat) (pv pv' vs vs' : List AV) (pre pre' us us' : List Value) (r : Bool), leafsF P (leafs P d) (P.cellsOf t) o l = some ks → pre.length = o → pre'.length = o → eqVs ks vs vs' = some r → DenL ρ vs us → DenL ρ vs' us' →
            (Op.eqFields D (pre ++ us).toArray (pre' ++ us').toArray l).run P w = .ok r w := by
          intro l
          induction l with
          | nil =>
            intro o ks pv pv' vs vs' pre pre' us us' r hl _ _ he _ _
            simp only [leafsF, bsome, Option.some.injEq] at hl
            obtain ⟨_, rfl⟩ := hl
            obtain ⟨l1, l2⟩ := eqVs_len _ _ _ _ he
            have := List.eq_nil_of_length_eq_zero l1
            have := List.eq_nil_of_length_eq_zero l2
            subst_vars
            simp only [eqVs, Option.some.injEq] at he; subst he
            simp [Op.eqFields]
          | cons f l ih =>
            intro o ks pv pv' vs vs' pre pre' us us' r hl hp hp' he hd hd'
            simp only [leafsF, bsome, Option.bind_eq_some_iff, Option.some.injEq, Bool.and_eq_true, bne_iff_ne, ne_eq, beq_iff_eq] at hl
            obtain ⟨⟨⟨hn, hoff⟩, hinf⟩, k1, h1, k2, h2, rfl⟩ := hl
            have hl1 := leafs_len d _ _ h1
            obtain ⟨l1, l2⟩ := eqVs_len _ _ _ _ he
            have hv : vs = vs.take k1.length ++ vs.drop k1.length := (List.take_append_drop _ _).symm
            have hv' : vs' = vs'.take k1.length ++ vs'.drop k1.length := (List.take_append_drop _ _).symm
            rw [hv, hv'] at he
            obtain ⟨p, q, e1, e2, rfl⟩ := eqVs_app k1 k2 _ _ _ _ r he (by simp [l1]) (by simp [l2])
            have hul := hd.length
            have hul' := hd'.length
            have hu : us = us.take k1.length ++ us.drop k1.length := (List.take_append_drop _ _).symm
            have hu' : us' = us'.take k1.length ++ us'.drop k1.length := (List.take_append_drop _ _).symm
            obtain ⟨hk1, hk2⟩ := leafs_kind d _ _ h1
            have ex : (pre ++ us) = pre ++ us.take k1.length ++ us.drop k1.length := by rw [List.append_assoc, ← hu]
            have ex' : (pre' ++ us') = pre' ++ us'.take k1.length ++ us'.drop k1.length := by rw [List.append_assoc, ← hu']
            have hlen1 : (us.take k1.length).length = P.cellsOf f.type := by simp at l1; simp [hul, l1, hl1]
            have hlen2 : (us'.take k1.length).length = P.cellsOf f.type := by simp at l2; simp [hul', l2, hl1]
            have p1 := run_part (P := P) (w := w) (t := f.type) (pre := pre) (xs := us.take k1.length) (post := us.drop k1.length) hinf hk1 hlen1 (fun _ => .inr trivial) hk2
            have p2 := run_part (P := P) (w := w) (t := f.type) (pre := pre') (xs := us'.take k1.length) (post := us'.drop k1.length) hinf hk1 hlen2 (fun _ => .inr trivial) hk2
            have e3 := eqLeafs d f.type k1 h1 _ _ _ _ p e1 (hd.take _) (hd'.take _) D (by omega)
            simp only [Op.eqFields, hn, ne_eq, not_false_eq_true, if_true, Sem.run_bind]
            rw [show f.offset = pre.length by omega, ex, p1]
            simp only [Result.andThen_ok]
            rw [show pre.length = pre'.length by omega, ex', p2]
            simp only [Result.andThen_ok, e3, Sem.run_ite]
            cases p with
            | false => simp
            | true =>
              simp only [Bool.not_true, Bool.false_eq_true, if_false, Bool.true_and]
              have := ih (o + P.cellsOf f.type) k2 [] [] _ _ (pre ++ us.take k1.length) (pre' ++ us'.take k1.length) _ _ q h2 (by simp [hlen1, hp]) (by simp [hlen2, hp']) e2 (hd.drop k1.length) (hd'.drop k1.length)
              simpa using this
        simpa using key fs.toList 0 ks [] [] vs vs' [] [] us us' r h rfl rfl he hd hd'
    · cases h
theorem structLeafs_eq {t : TypeId} {ks : List Nat} (h : structLeafs P t = some ks) {vs vs' : List AV} {us us' : List Value} {r : Bool} (he : eqVs ks vs vs' = some r) (hd : DenL ρ vs us) (hd' : DenL ρ vs' us') {D : Nat} (hD : 6 ≤ D) :
    (Op.equalIn D t (.agg us.toArray) (.agg us'.toArray)).run P w = .ok r w := by
  unfold structLeafs at h
  split at h
  · rename_i fs e
    have := eqLeafs (w := w) 6 t ks h vs vs' us us' r he hd hd' D hD
    simpa [valOf, e] using this
  · cases h
end
end Go.Mesh
/-
  A RUN THAT THE KERNEL RECKONS: more operations that give a value.
-/
set_option linter.all false
namespace Go.Mesh
open Go.RowKit
set_option linter.unusedSimpArgs false
set_option linter.unusedVariables false

section
variable {P : Program} {ρ : Nm} {fr : Tr AV} {nt : Nat} {hp : Tr AO} {a : Act} {w : World} {o : Oper}

theorem cmpN_ok {op : BinOp} {m n : Nat} {v : AV} (h : cmpN op m n = some v) : ∃ b, v = .bool b ∧ cmpV op (m : Int) (n : Int) = some (.bool b) := by
  unfold cmpN at h
  split at h <;> simp only [Option.some.injEq, reduceCtorEq] at h <;> subst h
  · refine ⟨_, rfl, ?_⟩
    simp only [cmpV, Option.some.injEq, Value.bool.injEq]
    rw [Bool.eq_iff_iff]; simp [bltT]
  · refine ⟨_, rfl, ?_⟩
    simp only [cmpV, Option.some.injEq, Value.bool.injEq]
    rw [Bool.eq_iff_iff]; simp [bleT]
  · refine ⟨_, rfl, ?_⟩
    simp only [cmpV, Option.some.injEq, Value.bool.injEq]
    rw [Bool.eq_iff_iff]; simp [bltT]
  · refine ⟨_, rfl, ?_⟩
    simp only [cmpV, Option.some.injEq, Value.bool.injEq]
    rw [Bool.eq_iff_iff]; simp [bleT]
  · refine ⟨_, rfl, ?_⟩
    simp only [cmpV, Option.some.injEq, Value.bool.injEq]
    rw [Bool.eq_iff_iff]; simp [beqT, Int.ofNat_inj]
  · refine ⟨_, rfl, ?_⟩
    simp only [cmpV, Option.some.injEq, Value.bool.injEq]
    rw [Bool.eq_iff_iff]; simp only [bne_iff_ne, ne_eq, Bool.not_eq_true', Int.ofNat_inj]
    cases hb : Nat.beq m n with
    | true => have := beqT.1 hb; simp [this]
    | false => simp; intro e; rw [beqT.2 e] at hb; cases hb
theorem cmpI_ok {op : BinOp} {m n : Int} {v : AV} (h : cmpI op m n = some v) : ∃ b, v = .bool b ∧ cmpV op m n = some (.bool b) := by
  unfold cmpI at h
  split at h
  · exact cmpN_ok h
  · split at h
    · rename_i b e; cases h; exact ⟨b, rfl, e⟩
    · cases h

def GB (P : Program) (w : World) (op : BinOp) (t : TypeId) (x y : Operand) (u u' : Value) (v : Value) : Prop := ((do eqGuard op t x y u u'; binOp op t u u') : Sem Value).run P w = .ok v w
theorem binOp_run {op : BinOp} {t q : TypeId} {x y : Operand} {v : Value} (hop : o.op = .binOp op t x y q) (h : GB P w op t x y (a.eval x) (a.eval y) v) : (execOp a.eval o).run P w = .ok (.value v) w := by
  unfold execOp; rw [hop]
  simp only [GB, Sem.run_bind] at h
  simp only [Sem.run_bind]
  rw [h]
  rfl
theorem guard_other {op : BinOp} {t : TypeId} {x y : Operand} {u u' : Value} (h : ∀ (c c' : Value), (u = .nilIface → u' ≠ .nilIface) ∧ (∀ xs ys, u = .agg xs → u' ≠ .agg ys)) : (eqGuard op t x y u u').run P w = .ok () w := by
  have h := h undef undef
  cases op
  case eql => cases u <;> cases u' <;> first | rfl | exact absurd rfl (h.1 rfl) | exact absurd rfl (h.2 _ _ rfl)
  case neq => cases u <;> cases u' <;> first | rfl | exact absurd rfl (h.1 rfl) | exact absurd rfl (h.2 _ _ rfl)
  all_goals rfl
theorem binI_ok {op : BinOp} {t : TypeId} {x y : Operand} {k : IntKind} {m n : Int} {v : AV} (h : binI op k m n = some v) (hns : op ≠ .shl ∧ op ≠ .shr) : ∃ u, DenV ρ v u ∧ GB P w op t x y (.int k m) (.int k n) u := by
  have hg : (eqGuard op t x y (.int k m) (.int k n)).run P w = .ok () w := guard_other fun _ _ => ⟨by simp, by simp⟩
  unfold GB
  simp only [Sem.run_bind, hg, Result.andThen_ok]
  unfold binI at h
  split at h
  · cases h; rw [wrapF_eq]; exact ⟨_, .int _ _, by simp [binOp, Op.intArith]⟩
  · cases h; rw [wrapF_eq]; exact ⟨_, .int _ _, by simp [binOp, Op.intArith]⟩
  · cases h; rw [wrapF_eq]; exact ⟨_, .int _ _, by simp [binOp, Op.intArith]⟩
  · cases h; exact ⟨_, .int _ _, by simp [binOp, Op.intBits]⟩
  · cases h; exact ⟨_, .int _ _, by simp [binOp, Op.intBits]⟩
  · cases h
  · cases h
  · obtain ⟨b, rfl, hc⟩ := cmpI_ok h
    refine ⟨_, .bool b, ?_⟩
    cases op <;> simp [cmpV] at hc <;> subst hc <;> simp [binOp, Op.intCmp]
theorem shA_ok {op : BinOp} {t : TypeId} {x y : Operand} {k q : IntKind} {m n : Nat} {v : AV} (h : shA op k m n = some v) : ∃ u, DenV ρ v u ∧ GB P w op t x y (.int k m) (.int q n) u := by
  have hg : (eqGuard op t x y (.int k m) (.int q n)).run P w = .ok () w := guard_other fun _ _ => ⟨by simp, by simp⟩
  unfold GB
  simp only [Sem.run_bind, hg, Result.andThen_ok]
  have h0 : ¬ ((n : Int) < 0) := by omega
  unfold shA at h
  split at h
  · cases h; rw [wrapF_eq]
    refine ⟨_, .int _ _, ?_⟩
    simp only [binOp, Op.shift, h0, if_false, Int.toNat_natCast, Sem.run_pure]
    congr 3
  · cases h
    refine ⟨_, .int _ _, ?_⟩
    simp only [binOp, Op.shift, h0, if_false, Int.toNat_natCast, Sem.run_pure]
    congr 2
    rw [Int.fdiv_eq_ediv_of_nonneg _ (by have : (0 : Int) ≤ ((2 ^ (min n k.bits) : Nat) : Int) := Int.natCast_nonneg _; simpa using this)]
    show (m : Int) / 2 ^ min n k.bits = ((m / 2 ^ min n k.bits : Nat) : Int)
    rw [Int.natCast_ediv]; simp
  · cases h
theorem strOp_ok {op : BinOp} {t : TypeId} {x y : Operand} {b c : ByteArray} {v : AV} (h : binS op (b.data.toList.map UInt8.toNat) (c.data.toList.map UInt8.toNat) = some v) : ∃ u, DenV ρ v u ∧ GB P w op t x y (.string b) (.string c) u := by
  have hg : (eqGuard op t x y (.string b) (.string c)).run P w = .ok () w := guard_other fun _ _ => ⟨by simp, by simp⟩
  unfold GB
  simp only [Sem.run_bind, hg, Result.andThen_ok]
  unfold binS at h
  split at h
  · simp only [bsome, bleT, lenL_eq, Option.some.injEq] at h
    obtain ⟨h1, rfl⟩ := h
    refine ⟨.string (b ++ c), ?_, ?_⟩
    · have e : (b ++ c).data.toList.map UInt8.toNat = b.data.toList.map UInt8.toNat ++ c.data.toList.map UInt8.toNat := by
        rw [ByteArray.data_append, Array.toList_append, List.map_append]
      rw [← e]; exact .str _
    · have h2 : b.size + c.size ≤ 9223372036854775807 := by
        have : (b.data.toList.map UInt8.toNat).length + (c.data.toList.map UInt8.toNat).length ≤ 9223372036854775807 := h1
        rw [List.length_map, List.length_map, Array.length_toList, Array.length_toList] at this; exact this
      have h3 : ¬ (((b.size + c.size : Nat) : Int) > IntKind.i64.max) := by
        have : IntKind.i64.max = 9223372036854775807 := by decide
        rw [this]; omega
      simp only [binOp, Op.stringOp, h3, if_false, Sem.run_pure]
  · cases h; rw [str_eq]; exact ⟨_, .bool _, by simp [binOp, Op.stringOp]⟩
  · cases h; rw [str_eq]; exact ⟨_, .bool _, by simp [binOp, Op.stringOp]⟩
  · cases h; rw [str_lt]; exact ⟨_, .bool _, by simp [binOp, Op.stringOp]⟩
  · cases h
/-- '==' by the type alone -/
theorem eqA_ok {t : TypeId} {v v' : AV} {u u' : Value} {b : Bool} (h : eqA P t v v' = some b) (d : DenV ρ v u) (d' : DenV ρ v' u') : (Op.equal t u u').run P w = .ok b w := by
  have unf : ∀ u u', Op.equal t u u' = Op.equalIn (9999 + 1) t u u' := fun _ _ => rfl
  unfold eqA at h
  split at h
  · simp only [Option.bind_eq_some_iff] at h
    obtain ⟨ks, h1, h2⟩ := h
    cases d with
    | agg d =>
      cases d' with
      | agg d' => exact structLeafs_eq h1 h2 d d' (by decide)
  · split at h
    · rename_i e; cases h; cases d; cases d'; exact run_equal_bool _ _ e
    · cases h
  · split at h
    · rename_i e; cases h; cases d; cases d'; rw [unf, Op.equalIn]; simp [run_underlying' e]
    · cases h
  · split at h
    · rename_i e; cases h; cases d; cases d'; rw [unf, Op.equalIn]; simp [run_underlying' e]
    · cases h
  · split at h
    · rename_i e; cases h; cases d; cases d'; rw [unf, Op.equalIn]; simp [run_underlying' e]
    · cases h
  · split at h
    · rename_i e; cases h; cases d; cases d'; rw [unf, Op.equalIn]; simp [run_underlying' e]
    · cases h
  · split at h
    · rename_i e; cases h; cases d; cases d'; rw [unf, Op.equalIn]; simp [run_underlying' e]
    · cases h
  · split at h
    · rename_i e; cases h; cases d; cases d'; rw [unf, Op.equalIn]; simp [run_underlying' e]
    · cases h
  · split at h
    · rename_i e; cases h; cases d; cases d'; rw [unf, Op.equalIn]; simp [run_underlying' e]
    · cases h
  · cases h
/-- no two numbers, nor two strings -/
def notNum (u u' : Value) : Prop := (∀ k n k' n', u = .int k n → u' ≠ .int k' n') ∧ (∀ s s', u = .string s → u' ≠ .string s')
theorem binOp_eq {op : BinOp} {t : TypeId} {u u' : Value} {b c : Bool} (he : (Op.equal t u u').run P w = .ok b w) (hx : eqOp op b = some (.bool c)) (hn : (∃ xs ys, u = .agg xs ∧ u' = .agg ys) ∨ (∃ x y, u = .bool x ∧ u' = .bool y) ∨ (∃ f x y, u = .func f x y) ∨ u = .nilFunc ∨ (∃ r, u = .map r) ∨ (∃ p, u = .pointer p) ∨ (∃ p l c, u = .slice p l c) ∨ u = .nilIface) :
    (binOp op t u u').run P w = .ok (.bool c) w := by
  unfold eqOp at hx
  split at hx
  · cases hx
    rcases hn with ⟨xs, ys, rfl, rfl⟩ | ⟨x, y, rfl, rfl⟩ | ⟨f, x, y, rfl⟩ | rfl | ⟨r, rfl⟩ | ⟨p, rfl⟩ | ⟨p, l, c, rfl⟩ | rfl <;> simp [binOp, he]
  · cases hx
    rcases hn with ⟨xs, ys, rfl, rfl⟩ | ⟨x, y, rfl, rfl⟩ | ⟨f, x, y, rfl⟩ | rfl | ⟨r, rfl⟩ | ⟨p, rfl⟩ | ⟨p, l, c, rfl⟩ | rfl <;> simp [binOp, he]
  · cases hx
theorem eqA_shape {t : TypeId} {v v' : AV} {u u' : Value} {b : Bool} (h : eqA P t v v' = some b) (d : DenV ρ v u) (d' : DenV ρ v' u') :
    ((∃ xs ys, u = .agg xs ∧ u' = .agg ys ∧ ∃ cs, v = .agg cs) ∨ (u = .nilIface ∧ u' = .nilIface ∧ v = .lit .nilIface) ∨ ((u ≠ .nilIface) ∧ (∀ xs, u ≠ .agg xs))) ∧
    ((∃ xs ys, u = .agg xs ∧ u' = .agg ys) ∨ (∃ x y, u = .bool x ∧ u' = .bool y) ∨ (∃ f x y, u = .func f x y) ∨ u = .nilFunc ∨ (∃ r, u = .map r) ∨ (∃ p, u = .pointer p) ∨ (∃ p l c, u = .slice p l c) ∨ u = .nilIface) := by
  unfold eqA at h
  split at h <;> first | cases h | (cases d; cases d'; simp)
theorem q_bin (hs : SlotsD ρ fr nt a.tmps) (hg : Glob ρ) {op : BinOp} {t q : TypeId} {x y : Operand} {v : AV} (hop : o.op = .binOp op t x y q) (h : qBin P fr op t x y = some v) : QR P ρ a w o v := by
  simp only [qBin, Option.bind_eq_some_iff] at h
  obtain ⟨vx, h1, vy, h2, h3⟩ := h
  have dx := aev_ok hs hg h1
  have dy := aev_ok hs hg h2
  suffices hh : ∃ u, DenV ρ v u ∧ GB P w op t x y (a.eval x) (a.eval y) u by
    obtain ⟨u, d, g⟩ := hh
    exact ⟨u, d, binOp_run hop g⟩
  generalize a.eval x = ux at dx
  generalize a.eval y = uy at dy
  have other : ∀ b r, eqA P t vx vy = some b → eqOp op b = some r → (vx = .lit .nilIface → hasConst x y = true) → ((∃ cs, vx = .agg cs) → P.eqGuardType P.depth t = false) → r = v → ∃ u, DenV ρ v u ∧ GB P w op t x y ux uy u := by
    intro b r he hx hni hag hrv
    subst hrv
    obtain ⟨c, rfl⟩ : ∃ c, r = .bool c := by
      unfold eqOp at hx
      split at hx <;> first | (cases hx; exact ⟨_, rfl⟩) | cases hx
    obtain ⟨sh, hn⟩ := eqA_shape he dx dy
    refine ⟨_, .bool c, ?_⟩
    unfold GB
    have hbo := binOp_eq (w := w) (eqA_ok he dx dy) hx hn
    rcases sh with ⟨xs, ys, rfl, rfl, hc⟩ | ⟨rfl, rfl, hc⟩ | ⟨h5, h6⟩
    · simp only [Sem.run_bind, run_eqGuard_agg w op t x y xs ys (hag hc), Result.andThen_ok, hbo]
    · have hgd : (eqGuard op t x y .nilIface .nilIface).run P w = .ok () w := by
        have hh := hni hc
        unfold eqGuard
        cases x <;> cases y <;> simp [hasConst] at hh <;> cases op <;> simp
      simp only [Sem.run_bind, hgd, Result.andThen_ok, hbo]
    · have hgd : (eqGuard op t x y ux uy).run P w = .ok () w := guard_other fun _ _ => ⟨fun e => absurd e h5, fun xs _ e => absurd e (h6 xs)⟩
      simp only [Sem.run_bind, hgd, Result.andThen_ok, hbo]
  unfold binX at h3
  split at h3
  · cases dx; cases dy
    unfold binInt at h3
    cases hsh : isSh op with
    | true =>
      simp only [hsh, cond_true] at h3
      unfold shI at h3
      split at h3
      · exact shA_ok h3
      · cases h3
    | false =>
      simp only [hsh, cond_false, bsome, decide_eq_true_eq] at h3
      obtain ⟨rfl, h3⟩ := h3
      exact binI_ok h3 ⟨fun e => (by subst e; cases hsh), fun e => (by subst e; cases hsh)⟩
  · cases dx; cases dy; exact strOp_ok h3
  · simp only [bsome, Option.bind_eq_some_iff] at h3
    obtain ⟨hc, b, h4, h5⟩ := h3
    exact other b v h4 h5 (fun _ => hc) (fun ⟨cs, e⟩ => by cases e) rfl
  · simp only [bsome, Option.bind_eq_some_iff, Bool.not_eq_true'] at h3
    obtain ⟨hc, b, h4, h5⟩ := h3
    exact other b v h4 h5 (fun e => by cases e) (fun _ => hc) rfl
  · rename_i hni hns hno1 hno2
    simp only [Option.bind_eq_some_iff] at h3
    obtain ⟨b, h4, h5⟩ := h3
    refine other b v h4 h5 (fun e => ?_) (fun ⟨cs, e⟩ => ?_) rfl
    · subst e; exact ((by assumption : AV.lit Value.nilIface = AV.lit Value.nilIface → False) rfl).elim
    · subst e; exact ((by assumption : ∀ (cs' : List AV), AV.agg cs = AV.agg cs' → False) cs rfl).elim
end
end Go.Mesh
/-
  A RUN THAT THE KERNEL RECKONS: the rest of the operations that give a value.
-/
set_option linter.all false
namespace Go.Mesh
open Go.RowKit
set_option linter.unusedSimpArgs false
set_option linter.unusedVariables false

section
variable {P : Program} {ρ : Nm} {fr : Tr AV} {nt : Nat} {hp : Tr AO} {a : Act} {w : World} {o : Oper}

theorem arrOf_spec {t e : TypeId} {n k : Nat} {g : Bool} (h : arrOf P t = some (n, e, g, k)) : P.underlying t = some (.array n e) ∧ tyOf P e = some (g, k) := by
  unfold arrOf at h
  split at h
  · rename_i n' e' hu
    simp only [Option.bind_eq_some_iff, Option.some.injEq, Prod.mk.injEq] at h
    obtain ⟨⟨g', k'⟩, h1, rfl, rfl, rfl, rfl⟩ := h
    exact ⟨hu, h1⟩
  · cases h
theorem q_indexAddr (hs : SlotsD ρ fr nt a.tmps) (hg : Glob ρ) {t : TypeId} {x i : Operand} {v : AV} (hop : o.op = .indexAddr t x i) (h : qIndexAddr P fr t x i = some v) : QR P ρ a w o v := by
  simp only [qIndexAddr, Option.bind_eq_some_iff] at h
  obtain ⟨vi, h1, j, h2, vx, h3, h4⟩ := h
  obtain ⟨q, hi⟩ := den_nat (aev_ok hs hg h1) h2
  have hci := ev_frOf hs h1
  rw [hi] at hci
  have dx := aev_ok hs hg h3
  have hcx := ev_frOf hs h3
  split at h4
  · rename_i n off len cap ex
    simp only [Option.bind_eq_some_iff, bsome, bltT, Option.some.injEq] at h4
    obtain ⟨⟨e, k, by_⟩, h5, h6, rfl⟩ := h4
    generalize a.eval x = ux at dx hcx
    cases dx with
    | sl off len cap c ex hr _ _ _ => exact ⟨_, .ptr _ hr, of_Q (Q_index hop hcx hci h5 rfl h6)⟩
  · rename_i n off
    simp only [Option.bind_eq_some_iff, bsome, bltT, Option.some.injEq] at h4
    obtain ⟨⟨len, e, g, k⟩, h5, h6, rfl⟩ := h4
    obtain ⟨hu, ht⟩ := arrOf_spec h5
    obtain ⟨ux, hux⟩ : ∃ ux, a.eval x = ux := ⟨_, rfl⟩
    rw [hux] at dx
    cases dx with
    | ptr off hr =>
      refine ⟨_, .ptr _ hr, ?_⟩
      have h6' : j < len := h6
      unfold execOp; rw [hop]
      simp only [Instr.indexAt, hi, hux, asIntOf, Sem.run_bind, Sem.run_pure, Result.andThen_ok, run_underlying' hu, Instr.sureAddr]
      have hc : (0 : Int) ≤ (j : Int) ∧ (j : Int) < (len : Int) := by omega
      simp [hc, h6', run_sizeOf ht, addr_add]
  · rename_i n len cap
    simp only [Option.bind_eq_some_iff, bsome, bltT, Option.some.injEq] at h4
    obtain ⟨⟨e, k, by_⟩, h5, h6, rfl⟩ := h4
    generalize a.eval x = ux at dx hcx
    cases dx with
    | slS len cap c hr hk => exact ⟨_, .ptrS _ hr hk, of_Q (Q_index hop hcx hci h5 rfl h6)⟩
  · cases h4
theorem byte_get (b : ByteArray) (j : Nat) : b[j]? = b.data.toList[j]? := by
  show (if h : j < b.size then some (b.get j h) else none) = _
  by_cases h : j < b.data.size
  · have h' : j < b.size := h
    rw [dif_pos h']
    simp [ByteArray.get, h]
  · have h' : ¬ j < b.size := h
    rw [dif_neg h']
    have : b.data.toList.length ≤ j := by simpa using Nat.le_of_not_lt h
    exact (List.getElem?_eq_none this).symm
theorem q_index (hs : SlotsD ρ fr nt a.tmps) (hg : Glob ρ) {t : TypeId} {x i : Operand} {v : AV} (hop : o.op = .index t x i) (h : qIndex P fr t x i = some v) : QR P ρ a w o v := by
  simp only [qIndex, Option.bind_eq_some_iff] at h
  obtain ⟨vi, h1, j, h2, vx, h3, h4⟩ := h
  obtain ⟨q, hi⟩ := den_nat (aev_ok hs hg h1) h2
  have dx := aev_ok hs hg h3
  obtain ⟨ux, hux⟩ : ∃ ux, a.eval x = ux := ⟨_, rfl⟩
  rw [hux] at dx
  split at h4
  · split at h4
    · rename_i hu
      simp only [Option.bind_eq_some_iff, nthL_eq, Option.some.injEq] at h4
      obtain ⟨b, h5, rfl⟩ := h4
      cases dx with
      | str ba =>
        simp only [List.getElem?_map, Option.map_eq_some_iff] at h5
        obtain ⟨y, h6, rfl⟩ := h5
        refine ⟨_, .int _ _, ?_⟩
        unfold execOp; rw [hop]
        simp only [Instr.index, hi, hux, asIntOf, Sem.run_bind, Sem.run_pure, Result.andThen_ok, run_underlying' hu]
        have h0 : (0 : Int) ≤ (j : Int) := by omega
        simp only [h0, if_true, Int.toNat_natCast, byte_get, h6]
        rfl
    · cases h4
  · simp only [Option.bind_eq_some_iff, bsome, bltT] at h4
    obtain ⟨⟨len, e, g, k⟩, h5, h6, h7⟩ := h4
    obtain ⟨hu, ht⟩ := arrOf_spec h5
    have h6' : j < len := h6
    have hc : (0 : Int) ≤ (j : Int) ∧ (j : Int) < (len : Int) := by omega
    cases dx with
    | @agg cs us d =>
      rcases getPart_ok d h7 with ⟨hgt, hle, hd⟩ | ⟨hgf, u, e1, hd⟩
      · simp only at hgt; subst hgt
        refine ⟨_, hd, ?_⟩
        unfold execOp; rw [hop]
        simp only [Instr.index, hi, hux, asIntOf, Sem.run_bind, Sem.run_pure, Result.andThen_ok, run_underlying' hu, Sem.run_ite, hc, and_self, if_true, run_sizeOf ht, part, run_isAgg ht, Int.toNat_natCast]
        congr 3
        simp [List.extract_eq_take_drop]
      · simp only at hgf; subst hgf
        refine ⟨u, hd, ?_⟩
        unfold execOp; rw [hop]
        simp only [Instr.index, hi, hux, asIntOf, Sem.run_bind, Sem.run_pure, Result.andThen_ok, run_underlying' hu, Sem.run_ite, hc, and_self, if_true, run_sizeOf ht, part, run_isAgg ht, Int.toNat_natCast, Bool.false_eq_true, if_false]
        have e2 : us.toArray[j * k]? = some u := by simpa using e1
        simp only [e2]
        rfl
  · cases h4
theorem zeroA_spec {t : TypeId} {z : List AV} (h : zeroA P t = some z) : ∃ l, zeroOf P t = some l ∧ DenL ρ z l := by
  simp only [zeroA, Option.bind_eq_some_iff, Option.some.injEq] at h
  obtain ⟨l, h1, rfl⟩ := h
  exact ⟨l, h1, .ofVs l⟩
theorem fillS_ok (hs : SlotsD ρ fr nt a.tmps) (hg : Glob ρ) {t : TypeId} : ∀ (xs : List (Nat × Operand)) (z cs : List AV) (l : List Value), fillS P fr t xs z = some cs → DenL ρ z l → ∃ ps, partsOk P (frOf a) t xs ps ∧ fillOk l.length ps = true ∧ DenL ρ cs (fillL l ps)
  | [], z, cs, l, h, d => by simp only [fillS, Option.some.injEq] at h; subst h; exact ⟨[], rfl, rfl, d⟩
  | (f, x) :: xs, z, cs, l, h, d => by
    simp only [fillS, Option.bind_eq_some_iff, bsome, beqT, bleT, lenL_eq] at h
    obtain ⟨v, h1, ⟨ft, fo⟩, h2, ⟨g, k⟩, h3, h4, h5, h6⟩ := h
    obtain ⟨us, e1, d1⟩ := (aev_ok hs hg h1).cells'
    have hl := d1.length
    have hz := d.length
    have hle : fo + v.cells.length ≤ z.length := by simp only at h4; rw [h4]; exact h5
    obtain ⟨ps, p1, p2, p3⟩ := fillS_ok hs hg xs _ cs (putAt l fo us) h6 (d.put d1 hle)
    have hput : (putAt l fo us).length = l.length := putAt_length (by rw [hl, hz]; exact hle)
    refine ⟨(fo, us) :: ps, ⟨a.eval x, us, ft, fo, g, k, ps, ev_frOf hs h1, h2, h3, e1, by rw [hl]; exact h4, p1, rfl⟩, ?_, p3⟩
    simp only [fillOk, Bool.and_eq_true]
    exact ⟨bleT.2 (by rw [hl, hz]; exact hle), by rw [← hput]; exact p2⟩
theorem fillR_ok (hs : SlotsD ρ fr nt a.tmps) (hg : Glob ρ) {k : Nat} : ∀ (xs : List (Nat × Operand)) (z cs : List AV) (l : List Value), fillR k fr xs z = some cs → DenL ρ z l → ∃ us, Instr.fill (fun i => some (i * k, k)) l.toArray (xs.map fun (i, x) => (i, a.eval x)) = some us.toArray ∧ DenL ρ cs us
  | [], z, cs, l, h, d => by simp only [fillR, Option.some.injEq] at h; subst h; exact ⟨l, rfl, d⟩
  | (i, x) :: xs, z, cs, l, h, d => by
    simp only [fillR, Option.bind_eq_some_iff, bsome, beqT, bleT, lenL_eq] at h
    obtain ⟨v, h1, h4, h5, h6⟩ := h
    obtain ⟨us, e1, d1⟩ := (aev_ok hs hg h1).cells'
    have hl := d1.length
    have hz := d.length
    have h5' : i * k + k ≤ z.length := h5
    have hle : i * k + v.cells.length ≤ z.length := by rw [h4]; exact h5
    obtain ⟨us', p1, p2⟩ := fillR_ok hs hg xs _ cs (putAt l (i * k) us) h6 (d.put d1 hle)
    refine ⟨us', ?_, p2⟩
    simp only [List.map_cons, Instr.fill, e1]
    have hsz : us.toArray.size = k := by simp [hl, h4]
    have hz' : i * k + k ≤ l.length := by omega
    rw [if_neg (by
      intro hh
      simp only [Bool.or_eq_true, decide_eq_true_eq] at hh
      rcases hh with hh | hh
      · exact hh hsz
      · rw [hsz, List.size_toArray] at hh; omega), foldl_zipIdx, fill_fold (i * k) _ 0 _ (by
        have : us.toArray.toList.length = k := by simpa using hsz
        rw [this]; simpa using hz')]
    simpa using p1
theorem q_build (hs : SlotsD ρ fr nt a.tmps) (hg : Glob ρ) {t : TypeId} {ps : Array (Nat × Operand)} {v : AV} (hop : o.op = .build t ps) (h : qBuild P fr t ps = some v) : QR P ρ a w o v := by
  unfold qBuild at h
  split at h
  · simp only [bsome, Option.bind_eq_some_iff, Option.some.injEq] at h
    obtain ⟨hk, z, h1, cs, h2, rfl⟩ := h
    obtain ⟨l, hl, dl⟩ := zeroA_spec (ρ := ρ) h1
    obtain ⟨qs, p1, p2, p3⟩ := fillS_ok hs hg ps.toList z cs l h2 dl
    exact ⟨_, .agg p3, of_Q (Q_build hop hk hl p1 p2)⟩
  · rename_i n e hu
    simp only [Option.bind_eq_some_iff, Option.some.injEq] at h
    obtain ⟨⟨g, k⟩, h0, z, h1, cs, h2, rfl⟩ := h
    obtain ⟨l, hl, dl⟩ := zeroA_spec (ρ := ρ) h1
    obtain ⟨us, p1, p2⟩ := fillR_ok hs hg ps.toList z cs l h2 dl
    obtain ⟨i, zv, hi, hz0, hc⟩ := zeroOf_spec hl
    refine ⟨_, .agg p2, ?_⟩
    unfold execOp; rw [hop]
    have hparts : (ps.map fun (i, x) => (i, a.eval x)).toList = ps.toList.map fun (i, x) => (i, a.eval x) := by simp
    simp only [Instr.build, zeroValue, typeInfo, Sem.run_bind, run_program, hi, Result.andThen_ok, Sem.run_pure, hz0, run_underlying' hu, run_sizeOf h0, hc, hparts, p1]
  · cases h
theorem aevs_evs (hs : SlotsD ρ fr nt a.tmps) : ∀ {xs : List Operand} {vs : List AV}, aevs fr xs = some vs → evs (frOf a) xs (xs.map a.eval)
  | [], _, _ => rfl
  | x :: xs, vs, h => by
    simp only [aevs, Option.bind_eq_some_iff, Option.some.injEq] at h
    obtain ⟨v, h1, vs', h2, h3⟩ := h
    exact ⟨a.eval x, xs.map a.eval, ev_frOf hs h1, aevs_evs hs h2, rfl⟩
theorem q_func (hs : SlotsD ρ fr nt a.tmps) (hg : Glob ρ) {f : Fn} {xs ys : Array Operand} {v : AV} (hop : o.op = .makeFunc f xs ys) (h : qFunc fr f xs ys = some v) : QR P ρ a w o v := by
  unfold qFunc at h
  split at h
  · simp only [Option.bind_eq_some_iff, Option.some.injEq] at h
    obtain ⟨as, h1, bs, h2, rfl⟩ := h
    exact ⟨_, .fn _ (aevs_ok hs hg h1) (aevs_ok hs hg h2), of_Q (Q_makeFunc hop (aevs_evs hs h1) (aevs_evs hs h2))⟩
  · cases h
theorem q_iface (hs : SlotsD ρ fr nt a.tmps) (hg : Glob ρ) {t : TypeId} {x : Operand} {v : AV} (hop : o.op = .makeInterface t x) (h : qIface P fr t x = some v) : QR P ρ a w o v := by
  unfold qIface at h
  split at h
  · cases h
  · rename_i d hni hu
    simp only [Option.bind_eq_some_iff, Option.some.injEq] at h
    obtain ⟨vx, h1, rfl⟩ := h
    refine ⟨_, .ifc t (aev_ok hs hg h1), ?_⟩
    unfold execOp; rw [hop]
    simp only [Instr.makeInterface, Sem.run_bind, run_underlying' hu, Result.andThen_ok]
    cases d <;> first | rfl | exact absurd hu (hni _)
  · cases h
theorem q_assert (hs : SlotsD ρ fr nt a.tmps) (hg : Glob ρ) {t u : TypeId} {x : Operand} {v : AV} (hop : o.op = .typeAssert x t u false) (h : qAssert P fr x u = some v) : QR P ρ a w o v := by
  unfold qAssert at h
  split at h
  · cases h
  · rename_i d hni hu
    simp only [Option.bind_eq_some_iff] at h
    obtain ⟨vx, h1, h2⟩ := h
    have dx := aev_ok hs hg h1
    obtain ⟨ux, hux⟩ : ∃ ux, a.eval x = ux := ⟨_, rfl⟩
    rw [hux] at dx
    split at h2
    · simp only [bsome, beqT, Option.some.injEq] at h2
      obtain ⟨rfl, rfl⟩ := h2
      cases dx with
      | ifc t dv =>
        refine ⟨_, dv, ?_⟩
        unfold execOp; rw [hop]
        simp only [Instr.typeAssert, hux, Sem.run_bind, run_underlying' hu, Result.andThen_ok]
        cases d <;> first | simp | exact absurd hu (hni _)
    · cases h2
  · cases h
end
end Go.Mesh
