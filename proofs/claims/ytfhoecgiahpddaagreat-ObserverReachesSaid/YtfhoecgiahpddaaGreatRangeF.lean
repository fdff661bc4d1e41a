/-
  RANGES OVER FUNCTIONS: what a call of yield comes to; an iterator's contract; the statement; a function that holds such a statement.
-/
import Derived.Test.YtfhoecgiahpddaaGreatMaps
set_option linter.all false
namespace Go.Mesh
open Go.RowKit

section
variable {P : Program} {r : Option Nat} {N : Nat} {h : Frag} {L : Hp} {D : List Nat} {fr : Fr} {o : Oper} {K : OCont}

def YSpec (P : Program) (l : Nat) (args : Array Value) (h : Frag) (L : Hp) (R : OCont) : Prop :=
  ∀ w, Holds h L w → ∃ fn tmps assign body, (Instr.yield l args).run P w = .ok (.round l fn tmps assign body) w ∧
    RoundIn (FW none) 0 P l fn tmps assign body w (fun e w' => ∃ v h' L', e = .returned v ∧ R h' L' v ∧ Ext h L w h' L' w')

theorem OPw_yield {c : Call} {l : Nat} {fo : Operand} {vs : List Value} {R : OCont} (hop : o.op = .call c) (hc : c.callee = .value fo) (hf : ev fr fo = some (.func (.yield l) #[] #[])) (hvs : evs fr c.args.toList vs)
    (x : YSpec P l vs.toArray h L R) (k : ∀ h' L' v, le h h' → R h' L' v → K h' L' v) : OPw P r o fr h L K := by
  intro a ha w hw
  have hd : ∀ c', o.op ≠ .defer c' := fun c' => by rw [hop]; simp
  have hargs : c.args.map a.eval = vs.toArray := evs_map' ha hvs
  obtain ⟨fn, tmps, assign, body, hy, hr⟩ := x w hw
  have hrun : (execOp a.eval o).run P w = .ok (.round l fn tmps assign body) w := by
    unfold execOp
    rw [hop]
    simp only [Sem.run_bind, resolve, hc, hargs, ha fo _ hf, Deferred.ofValue, Sem.run_pure, Result.andThen_ok, invoke]
    simpa using hy
  refine ⟨fun _ _ => trivial, ?_⟩
  rw [Oper.semAt_eq _ _ _ hd, hrun]
  refine ⟨fun e => by simp [FW] at e, ?_⟩
  have hr' : RoundIn (FW r) 0 P l fn tmps assign body w (fun e w' => ∃ v h' L', e = .returned v ∧ R h' L' v ∧ Ext h L w h' L' w') := hr
  refine hr'.mono fun e w' ⟨v, h', L', he, q, y⟩ => ?_
  subst he
  exact ⟨h', L', v, rfl, k _ _ _ y.le q, y⟩

/-- An iterator: it hands the items to yield, one after the other, until yield says no. -/
def Iter {α : Type} (P : Program) (g : FuncId) (cap : Array Value) (h : Frag) (enc : Frag → α → Array Value → Prop) (items : List α) : Prop :=
  ∀ (l : Nat) (J : List α → Frag → Hp → Prop) (Jx : Frag → Hp → Prop) (h0 : Frag) (L0 : Hp), le h h0 →
    (∀ pre x vals h' L', le h0 h' → J pre h' L' → (pre ++ [x]) <+: items → enc h' x vals → YSpec P l vals h' L' (fun h'' L'' v => (v = .bool true ∧ J (pre ++ [x]) h'' L'') ∨ (v = .bool false ∧ Jx h'' L''))) →
    J [] h0 L0 → FSpec P g (#[.func (.yield l) #[] #[]] ++ cap) h0 L0 (fun h' L' _ => J items h' L' ∨ Jx h' L')

theorem WP.framed {c : Code} {Q : Post} (M : Hp) (x : WP P r N c h L D fr Q) : WP P r N c h (L ++ M) D fr (fun e h' L' D' fr' => ∃ L1, L' = L1 ++ M ∧ Q e h' L1 D' fr') :=
  fun a w fa hw => wpIn_mono (x a w fa (hw.drop (List.sublist_append_left _ _))) fun _ _ _ ⟨h', L', D', fr', q, f, e⟩ => ⟨h', L' ++ M, D', fr', ⟨L', rfl, q⟩, f, e.framed hw⟩

/-- The slots of the loop's variables. -/
def parFr (fr : Fr) : List Tmp → List Value → Fr
  | t :: ts, v :: vs => parFr ((t, v) :: fr) ts vs
  | _, _ => fr
def parOk (N : Nat) : List Tmp → Bool
  | [] => true
  | t :: ts => Nat.blt t N && parOk N ts
theorem parFr_ok {N : Nat} {D : List Nat} : ∀ (ts : List Tmp) (vs : List Value) (fr : Fr) (a : Act), ts.length = vs.length → parOk N ts = true → FrOk N D fr a →
    FrOk N D (parFr fr ts vs) { a with tmps := ((ts.zip vs).foldl (fun tmps (p : Tmp × Value) => tmps.setIfInBounds p.1 p.2) a.tmps) }
  | [], [], fr, a, _, _, f => f
  | t :: ts, v :: vs, fr, a, hl, hp, f => by
    simp only [parOk, Bool.and_eq_true] at hp
    have := parFr_ok ts vs ((t, v) :: fr) (a.put (some t) v) (by simpa using hl) hp.2 (f.put (dst := some t) hp.1 v)
    simpa [parFr, Act.put] using this
  | [], _ :: _, _, _, hl, _, _ => by simp at hl
  | _ :: _, [], _, _, hl, _, _ => by simp at hl

/-- How a round may be left. -/
def jumpOf : Exit → Option Code
  | .ret => some .ret
  | .exit id => some (.exit id)
  | _ => none
/-- What a round must come to. -/
def bodyQ {α : Type} (I : List α → Frag → Hp → Prop) (Ix : Exit → Frag → Hp → Prop) (pre : List α) : Post := fun e h' L' _ _ => match e with
  | .normal => I pre h' L'
  | .ret => Ix .ret h' L'
  | .exit id => Ix (.exit id) h' L'
  | _ => False

def recO (fn : FuncId) (tmps : Array Value) (ps : Array Tmp) (assign body : Code) (d : Nat) (st : LoopState) (pend : Option Code) : Obj := .loop { state := st, pending := pend, fn, tmps, params := ps, assign, body, defers := d }

theorem run_getObj_loop {w : World} {l : Nat} {rec : Loop} (hl : w.heap[l]? = some (.loop rec)) : (Instr.getLoop l).run P w = .ok rec w := by
  unfold Instr.getLoop
  simp [getObj, Sem.run, hl]
theorem run_setObj_loop {w : World} {l : Nat} {rec : Loop} {ob : Obj} (hl : w.heap[l]? = some (.loop rec)) : (setObj l ob).run P w = .ok () { w with heap := w.heap.setIfInBounds l ob } := by
  simp [setObj, Sem.run, hl]
theorem Ext.setLast {M : Hp} {l : Nat} {o o' : Obj} {w : World} (hw : Holds h (L ++ (l, o) :: M) w) : Ext h (L ++ (l, o) :: M) w h (L ++ (l, o') :: M) { w with heap := w.heap.setIfInBounds l o' } := by
  have hlt := hw.lt (p := (l, o)) (by simp)
  refine Ext.set hw (b := l) (o := o) (o' := o') ⟨L, M, rfl, rfl⟩ ?_ ?_ ?_ rfl rfl rfl rfl
  · simp at hlt; simp [hlt]
  · intro j hj; simp [Array.getElem?_setIfInBounds_ne (Ne.symm hj)]
  · simp

theorem WP_rangeFunc {α : Type} {go : Operand} {ps : Array Tmp} {assign body : Code} {g : FuncId} {cap : Array Value} {fn : Func} {enc : Frag → α → Array Value → Prop} {items : List α} {Q : Post}
    (hf : ev fr go = some (.func (.func g) #[] cap)) (hfn : P.funcs[g]? = some fn) (hn : fn.name ≠ "runtime.NumGoroutine") (hb : fn.body.isSome = true) (it : Iter P g cap h enc items) (henc : ∀ h x vals, enc h x vals → vals.size = ps.size) (hps : parOk N ps.toList = true)
    (I : List α → Frag → Hp → Prop) (Ix : Exit → Frag → Hp → Prop) (h0 : I [] h L)
    (round : ∀ l pre x vals h' L', le h h' → I pre h' L' → (pre ++ [x]) <+: items → enc h' x vals → WP P (some l) N assign h' L' [] (parFr fr ps.toList vals.toList)
      (thenQ (fun h'' L'' D'' fr'' => D'' = [] ∧ WP P (some l) N body h'' L'' [] fr'' (bodyQ I Ix (pre ++ [x]))) (fun _ _ _ _ _ => False)))
    (done : ∀ d h' L', le h h' → I items h' L' → Q .normal h' (L' ++ [(d, .deferred (some []))]) (d :: D) fr)
    (left : ∀ d e h' L', le h h' → Ix e h' L' → (jumpOf e).isSome = true → Q e h' (L' ++ [(d, .deferred (some []))]) (d :: D) fr) : WP P none N (.rangeFunc go ps assign body) h L D fr Q := by
  intro a w fa hw
  refine wpIn_rangeFunc fun fnid _ => ?_
  -- the block for deferred calls, the record
  let d := w.heap.size
  let w1 : World := { w with heap := w.heap.push (.deferred (some [])) }
  have e1 := Ext.alloc hw (.deferred (some []))
  let l := w1.heap.size
  let w2 : World := { w1 with heap := w1.heap.push (recO fnid a.tmps ps assign body d .ready none) }
  have e2 := Ext.alloc e1.holds (recO fnid a.tmps ps assign body d .ready none)
  have e12 : Ext h L w h (L ++ [(l, recO fnid a.tmps ps assign body d .ready none), (d, .deferred (some []))]) w2 :=
    (e1.trans e2).perm (L2 := L ++ [(l, recO fnid a.tmps ps assign body d .ready none), (d, .deferred (some []))]) (List.perm_append_comm (l₁ := L) (l₂ := [(l, recO fnid a.tmps ps assign body d .ready none), (d, .deferred (some []))]))
  refine ⟨l, [{ target := .collected d, args := #[] }], w2, { target := .fn (.func g) cap, args := #[.func (.yield l) #[] #[]] }, w2, g, #[.func (.yield l) #[] #[]] ++ cap, w2, ?_, ?_, fun _ _ => trivial, ?_, fun e => by simp [FW] at e, ?_⟩
  · show (Instr.enterLoop fnid a.tmps ps assign body none).run P w = _
    simp [Instr.enterLoop, recO, d, w1, w2, l]
  · have hgo := fa.eval hf
    have hconst : ∀ v, a.eval (.const v) = v := fun _ => rfl
    simp [resolve, rangeCall, hgo, Deferred.ofValue, hconst]
  · have hbn : fn.body.isNone = false := by
      cases hx : fn.body with
      | none => rw [hx] at hb; cases hb
      | some _ => rfl
    simp only [invoke, callFunc, Sem.run_bind, run_program, Result.andThen_ok, hfn]
    simp [hn, hbn]
  -- the iterator
  let J : List α → Frag → Hp → Prop := fun pre h' L' => ∃ Lu, L' = Lu ++ [(l, recO fnid a.tmps ps assign body d .ready none), (d, .deferred (some []))] ∧ I pre h' Lu
  let Jx : Frag → Hp → Prop := fun h' L' => ∃ e Lu c, jumpOf e = some c ∧ L' = Lu ++ [(l, recO fnid a.tmps ps assign body d .done (some c)), (d, .deferred (some []))] ∧ Ix e h' Lu
  have hcall := it l J Jx h (L ++ [(l, recO fnid a.tmps ps assign body d .ready none), (d, .deferred (some []))]) (le_refl h) ?_ ⟨L, rfl, h0⟩
  · refine callsIn_FW ((hcall w2 e12.holds).mono fun e w3 ⟨v, h3, L3, he, q, x3⟩ => ?_)
    subst he
    have e3 := e12.trans x3
    rcases q with ⟨Lu, rfl, hi⟩ | ⟨ex, Lu, c, hj, rfl, hi⟩
    · have hl3 := x3.holds.sees.own (l, recO fnid a.tmps ps assign body d .ready none) (by simp)
      have e4 := Ext.setLast (o' := recO fnid a.tmps ps assign body d .exhausted none) x3.holds
      refine ⟨none, { w3 with heap := w3.heap.setIfInBounds l (recO fnid a.tmps ps assign body d .exhausted none) }, ?_, ?_⟩
      · simp only [Instr.endLoop, Sem.run_bind, run_getObj_loop hl3, Result.andThen_ok, recO]
        simp [run_setObj_loop hl3]
      · have e5 := (e3.trans e4).drop (L2 := Lu ++ [(d, .deferred (some []))]) (List.Sublist.append (List.Sublist.refl _) (List.Sublist.cons _ (List.Sublist.refl _)))
        refine ⟨h3, Lu ++ [(d, .deferred (some []))], d :: D, fr, done d h3 Lu e3.le hi, ⟨?_, fa.size, fa.slots⟩, e5⟩
        simp [fa.defers, marks]
    · have hl3 := x3.holds.sees.own (l, recO fnid a.tmps ps assign body d .done (some c)) (by simp)
      have e4 := Ext.setLast (o' := recO fnid a.tmps ps assign body d .exhausted (some c)) x3.holds
      refine ⟨some c, { w3 with heap := w3.heap.setIfInBounds l (recO fnid a.tmps ps assign body d .exhausted (some c)) }, ?_, ?_⟩
      · simp only [Instr.endLoop, Sem.run_bind, run_getObj_loop hl3, Result.andThen_ok, recO]
        simp [run_setObj_loop hl3]
      · have e5 := (e3.trans e4).drop (L2 := Lu ++ [(d, .deferred (some []))]) (List.Sublist.append (List.Sublist.refl _) (List.Sublist.cons _ (List.Sublist.refl _)))
        have hq := left d ex h3 Lu e3.le hi (by rw [hj]; rfl)
        have hfr : FrOk N (d :: D) fr { a with defers := [{ target := .collected d, args := #[] }] ++ a.defers } := ⟨by simp [fa.defers, marks], fa.size, fa.slots⟩
        cases ex <;> simp only [jumpOf, Option.some.injEq] at hj <;> try (cases hj)
        · exact wpIn_exit ⟨h3, _, d :: D, fr, hq, hfr, e5⟩
        · exact wpIn_ret ⟨h3, _, d :: D, fr, hq, hfr, e5⟩
  -- a round
  · rintro pre x vals h' L' hle ⟨Lu, rfl, hi⟩ hpre hev wy hwy
    have hl := hwy.sees.own (l, recO fnid a.tmps ps assign body d .ready none) (by simp)
    refine ⟨fnid, (ps.zip vals).foldl (fun tmps (t, v) => tmps.setIfInBounds t v) a.tmps, assign, body, ?_, ?_⟩
    · simp only [Instr.yield, Sem.run_bind, run_getObj_loop hl, Result.andThen_ok, henc _ _ _ hev]
      simp
    · refine roundIn_of_wpIn trivial ?_
      have hround := (round l pre x vals h' Lu hle hi hpre hev).framed [(l, recO fnid a.tmps ps assign body d .ready none), (d, .deferred (some []))]
      have hfa : FrOk N [] (parFr fr ps.toList vals.toList) { tmps := (ps.zip vals).foldl (fun tmps (t, v) => tmps.setIfInBounds t v) a.tmps, defers := [] } := by
        have h1 := parFr_ok (N := N) (D := []) ps.toList vals.toList fr { tmps := a.tmps, defers := [] } (by have := henc _ _ _ hev; simp [this]) hps ⟨rfl, fa.size, fa.slots⟩
        have h2 : (ps.zip vals).foldl (fun tmps (p : Tmp × Value) => tmps.setIfInBounds p.1 p.2) a.tmps = ((ps.toList.zip vals.toList).foldl (fun tmps (p : Tmp × Value) => tmps.setIfInBounds p.1 p.2) a.tmps) := by
          rw [← Array.foldl_toList]; simp
        show FrOk N [] _ ⟨(ps.zip vals).foldl (fun tmps (p : Tmp × Value) => tmps.setIfInBounds p.1 p.2) a.tmps, []⟩
        rw [h2]; exact h1
      refine wpIn_mono (hround _ wy hfa hwy) fun e a1 w3 ⟨h1, L1, D1, fr1, ⟨Lu1, eL1, q⟩, f1, x1⟩ => ?_
      subst eL1
      cases e with
      | normal =>
        obtain ⟨rfl, q⟩ := q
        have hl1 := x1.holds.sees.own (l, recO fnid a.tmps ps assign body d .ready none) (by simp)
        have eb := Ext.setLast (o' := recO fnid a.tmps ps assign body d .busy none) x1.holds
        refine ⟨{ w3 with heap := w3.heap.setIfInBounds l (recO fnid a.tmps ps assign body d .busy none) }, ?_, ?_⟩
        · simp only [Instr.beginRound, Sem.run_bind, run_getObj_loop hl1, Result.andThen_ok, recO]
          simp [run_setObj_loop hl1]
        · have hbody := q.framed [(l, recO fnid a.tmps ps assign body d .busy none), (d, .deferred (some []))]
          refine wpIn_mono (hbody a1 _ f1 eb.holds) fun e a2 w4 ⟨h2, L2, D2, fr2, ⟨Lu2, eL2, q2⟩, f2, x2⟩ => ?_
          subst eL2
          have hl2 := x2.holds.sees.own (l, recO fnid a.tmps ps assign body d .busy none) (by simp)
          have tot := (x1.trans eb).trans x2
          cases e with
          | normal =>
            have ee := Ext.setLast (o' := recO fnid a.tmps ps assign body d .ready none) x2.holds
            refine ⟨.bool true, { w4 with heap := w4.heap.setIfInBounds l (recO fnid a.tmps ps assign body d .ready none) }, ?_, ⟨_, h2, _, rfl, .inl ⟨rfl, Lu2, rfl, q2⟩, tot.trans ee⟩⟩
            simp only [Instr.endRound, Sem.run_bind, run_getObj_loop hl2, Result.andThen_ok, recO]
            simp [run_setObj_loop hl2]
          | ret =>
            have ee := Ext.setLast (o' := recO fnid a.tmps ps assign body d .done (some .ret)) x2.holds
            refine ⟨.bool false, { w4 with heap := w4.heap.setIfInBounds l (recO fnid a.tmps ps assign body d .done (some .ret)) }, ?_, ⟨_, h2, _, rfl, .inr ⟨rfl, .ret, Lu2, .ret, rfl, rfl, q2⟩, tot.trans ee⟩⟩
            simp only [Instr.endRound, Sem.run_bind, run_getObj_loop hl2, Result.andThen_ok, recO]
            simp [run_setObj_loop hl2]
          | exit id =>
            have ee := Ext.setLast (o' := recO fnid a.tmps ps assign body d .done (some (.exit id))) x2.holds
            refine ⟨.bool false, { w4 with heap := w4.heap.setIfInBounds l (recO fnid a.tmps ps assign body d .done (some (.exit id))) }, ?_, ⟨_, h2, _, rfl, .inr ⟨rfl, .exit id, Lu2, .exit id, rfl, rfl, q2⟩, tot.trans ee⟩⟩
            simp only [Instr.endRound, Sem.run_bind, run_getObj_loop hl2, Result.andThen_ok, recO]
            simp [run_setObj_loop hl2]
          | goto t => exact q2.elim
          | panic ch => exact q2.elim
          | outgrown => exact q2.elim
      | ret => exact q.elim
      | exit id => exact q.elim
      | goto t => exact q.elim
      | panic ch => exact q.elim
      | outgrown => exact q.elim

/-! ### A function that holds such a statement -/
def dObj (d : Nat) : Nat × Obj := (d, .deferred (some []))
theorem leavesM {fn : Func} {R : Ending → World → Prop} {tmps : Array Value} : ∀ (D : List Nat) (h : Frag) (L2 : Hp) (w0 w : World) (h0 : Frag) (L0 : Hp), Ext h0 L0 w0 h (L2 ++ D.map dObj) w →
    (∀ w', Ext h0 L0 w0 h L2 w' → ∃ v, (results fn tmps).run P w' = .ok v w' ∧ R (.returned v) w') → LeavesInM (FW none) 0 P fn tmps R (marks D) .returning w := by
  intro D
  induction D with
  | nil => intro h L2 w0 w h0 L0 e k; exact k w (by simpa using e)
  | cons d D ih =>
    intro h L2 w0 w h0 L0 e k
    have hd := e.holds.sees.own (d, .deferred (some [])) (by simp [dObj])
    have e2 := Ext.setLast (L := L2) (M := D.map dObj) (l := d) (o := .deferred (some [])) (o' := .deferred none) (by simpa [dObj] using e.holds)
    refine ⟨by simp, .inl ⟨d, { w with heap := w.heap.setIfInBounds d (.deferred none) }, rfl, ?_, ?_⟩⟩
    · simp [Instr.takeDeferred, getObj, setObj, Sem.run, hd]
    · refine ih h L2 w0 _ h0 L0 ?_ k
      have e3 : Ext h0 L0 w0 h (L2 ++ (d, .deferred none) :: D.map dObj) { w with heap := w.heap.setIfInBounds d (.deferred none) } := by
        have e' : Ext h0 L0 w0 h (L2 ++ (d, .deferred (some [])) :: D.map dObj) w := by simpa [dObj] using e
        exact e'.trans e2
      exact e3.drop (List.Sublist.append (List.Sublist.refl _) (List.Sublist.cons _ (List.Sublist.refl _)))

def retM (P : Program) (fn : Func) (R : OCont) : Post := fun e h' L' D' fr' => (e = .ret ∨ e = .normal) ∧ ∃ vs L2, L' = L2 ++ D'.map dObj ∧ resVals P h' L2 fr' fn.results.toList vs ∧ ∀ w, Holds h' L2 w → ∃ h3 L3, Ext h' L2 w h3 L3 w ∧ R h3 L3 (resOf vs)
theorem spec_ofM {f : FuncId} {fn : Func} {c : Code} {vs : List Value} {args : Array Value} {R : OCont} (hf : P.funcs[f]? = some fn) (hn : fn.ntmps = N) (hb : fn.body = some c) (ha : args = vs.toArray) (hN : Nat.ble vs.length N = true)
    (x : WP P none N c h L [] (argFr vs 0) (retM P fn R)) : FSpec P f args h L R := by
  subst hn; subst ha
  intro w hw
  have hN' : vs.length ≤ fn.ntmps := Nat.le_of_ble_eq_true hN
  have key : ∀ (e : Exit) (a' : Act) (w' : World), lift fn.ntmps h L w (retM P fn R) e a' w' → bodyPostM (FW none) 0 P fn (fun e w' => ∃ v h' L', e = .returned v ∧ R h' L' v ∧ Ext h L w h' L' w') e a' w' := by
    rintro e a' w' ⟨h', L', D', fr', ⟨he, us, L2, rfl, hr, q⟩, fa, y⟩
    have hlv := leavesM (P := P) (fn := fn) (tmps := a'.tmps) (R := fun e w' => ∃ v h' L', e = .returned v ∧ R h' L' v ∧ Ext h L w h' L' w') D' h' L2 w w' h L y (fun w2 e2 => ⟨resOf us, results_eq (N := fn.ntmps) (D := D') (fr := fr') (a := a') fa e2.holds.sees hr, by obtain ⟨h3, L3, e3, q⟩ := q w2 e2.holds; exact ⟨_, h3, L3, rfl, q, e2.trans e3⟩⟩)
    have hdf := fa.defers
    rcases he with he | he <;> subst he <;> simp only [bodyPostM] <;> rw [hdf] <;> exact hlv
  refine calls_of_FW (r := none) (n := 0) (callsIn_of_wp_marks hf hb trivial (wpIn_mono (x _ w ⟨rfl, by simp; omega, fun i v e => ?_⟩ hw) key) rfl)
  obtain ⟨_, h2⟩ := argFr_get vs 0 i v e
  simp only [Nat.sub_zero] at h2
  have hlt := (List.getElem?_eq_some_iff.1 h2).1
  rw [Array.getElem?_append_left (by simpa using hlt)]
  simpa using h2
end
end Go.Mesh
