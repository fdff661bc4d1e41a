/-
  A REGION THAT DRAWS ITS ORDER: operations that yield one value wherever what is known holds are taken first, in the order of the text; where one other operation alone is ready it is taken; where several are, each is.
-/
import Derived.Test.YtfhoecgiahpddaaGreatSteps
set_option linter.all false
namespace Go.Mesh
open Go.RowKit

def calmOp : Op → Bool
  | .store .. | .mapUpdate .. | .insert .. | .mapEntry .. | .entryStore .. | .next .. | .ready _ | .go _ | .defer _ | .panic _ | .send .. | .recv .. | .select .. => false
  | .call { callee := .builtin b, .. } => match b with | .len | .cap | .min | .max => true | _ => false
  | _ => true
theorem calmOp_defer {o : Op} (h : calmOp o = true) : ∀ c, o ≠ .defer c := fun c e => by subst e; cases h
theorem calmOp_select {o : Op} (h : calmOp o = true) : ∀ c b, o ≠ .select c b := fun c b e => by subst e; cases h

section
variable {P : Program} {r : Option Nat} {N : Nat} {D : List Nat} {ops : Array Oper}

def STEPa (P : Program) (r : Option Nat) (ops : Array Oper) (i : Nat) (a : Act) (h : Frag) (L : Hp) (KK : Act → Frag → Hp → Prop) : Prop :=
  match ops[i]? with
  | none => KK a h L
  | some o => if Region.wanted o (yielded ops a.tmps) then
      ∀ w, Holds h L w → o.wpIn (FW r) 0 P a w (fun a' w' => ∃ h' L', KK a' h' L' ∧ Ext h L w h' L' w' ∧ (calmOp o.op = true → ∀ w1, Sees h' L' w1 → Sees h L w1)) (fun _ _ _ => False)
    else KK (a.put o.dst undef) h L

def ANYa (P : Program) (r : Option Nat) (ops : Array Oper) (E : Act → Frag → Hp → Prop) : Nat → Array Bool → Act → Frag → Hp → Prop
  | 0, listed, a, h, L => Region.ready .any ops listed = [] ∧ E a h L
  | fuel + 1, listed, a, h, L => (Region.ready .any ops listed = [] → E a h L) ∧ ∀ i ∈ Region.ready .any ops listed, STEPa P r ops i a h L (ANYa P r ops E fuel (listed.setIfInBounds i true))

theorem STEPa.mono {i : Nat} {a : Act} {h : Frag} {L : Hp} {KK KK' : Act → Frag → Hp → Prop} (hk : ∀ a h L, KK a h L → KK' a h L) (x : STEPa P r ops i a h L KK) : STEPa P r ops i a h L KK' := by
  unfold STEPa at *
  cases ho : ops[i]? with
  | none => simp only [ho] at x ⊢; exact hk _ _ _ x
  | some o =>
    simp only [ho] at x ⊢
    split
    · rename_i hw
      simp only [hw, if_true] at x
      exact fun w hh => Oper.wpIn_mono (fun a' w' ⟨h', L', k, e⟩ => ⟨h', L', hk _ _ _ k, e⟩) (x w hh)
    · rename_i hw
      simp only [hw] at x
      exact hk _ _ _ x

theorem ANYa_sound {E : Act → Frag → Hp → Prop} {h0 : Frag} {L0 : Hp} {w0 : World} : ∀ (fuel : Nat) (listed : Array Bool) (a : Act) (h : Frag) (L : Hp) (w : World), ANYa P r ops E fuel listed a h L → Ext h0 L0 w0 h L w →
    wpAnyIn (FW r) 0 P .any ops (fun e a' w' => e = .normal ∧ ∃ h' L', E a' h' L' ∧ Ext h0 L0 w0 h' L' w') fuel listed a w := by
  intro fuel
  induction fuel with
  | zero => exact fun listed a h L w x e => ⟨x.1, rfl, h, L, x.2, e⟩
  | succ fuel ih =>
    intro listed a h L w x e
    refine ⟨fun hr => ⟨rfl, h, L, x.1 hr, e⟩, fun i hi => ?_⟩
    have hs := x.2 i hi
    unfold STEPa at hs
    unfold wpOpIn
    cases ho : ops[i]? with
    | none => simp only [ho] at hs ⊢; exact ih _ _ _ _ _ hs e
    | some o =>
      simp only [ho] at hs ⊢
      split
      · rename_i hw
        simp only [hw, if_true] at hs
        exact Oper.wpIn_monoQ (Oper.wpIn_mono (fun a' w' ⟨h', L', k, e1, _⟩ => ih _ _ _ _ _ k (e.trans e1)) (hs w e.holds))
      · rename_i hw
        simp only [hw] at hs
        exact ⟨fun _ _ => trivial, ih _ _ _ _ _ hs e⟩

/-- Operation o yields v in state a, wherever h and L are seen. -/
def Yv (P : Program) (ops : Array Oper) (o : Oper) (v : Value) (a : Act) (h : Frag) (L : Hp) : Prop :=
  (Region.wanted o (yielded ops a.tmps) = true ∧ (∀ c, o.op ≠ .defer c) ∧ ∀ w, Sees h L w → (execOp a.eval o).run P w = .ok (.value v) w) ∨ (Region.wanted o (yielded ops a.tmps) = false ∧ v = undef)

theorem Yv.step {i : Nat} {o : Oper} {v : Value} {a : Act} {h : Frag} {L : Hp} {KK : Act → Frag → Hp → Prop} (hi : ops[i]? = some o) (y : Yv P ops o v a h L) (k : KK (a.put o.dst v) h L) : STEPa P r ops i a h L KK := by
  unfold STEPa
  simp only [hi]
  rcases y with ⟨hw, hd, hr⟩ | ⟨hw, rfl⟩
  · simp only [hw, if_true]
    exact fun w hh => wpIn_of_value hd (hr w hh.sees) ⟨h, L, k, .refl hh, fun _ _ s => s⟩
  · simp only [hw, Bool.false_eq_true, if_false]; exact k
theorem Yv.keep {o oj : Oper} {v u : Value} {a : Act} {h h' : Frag} {L L' : Hp} (hs : ∀ cs b, o.op ≠ .select cs b) (h3 : ∀ d, oj.dst = some d → d ∉ o.looksAt ops) (y : Yv P ops o v a h L) (hS : ∀ w, Sees h' L' w → Sees h L w) :
    Yv P ops o v (a.put oj.dst u) h' L' := by
  unfold Yv at *
  rw [wanted_put o a oj.dst u h3, execOp_put o hs a oj.dst u h3]
  exact y.imp (fun ⟨a1, a2, a3⟩ => ⟨a1, a2, fun w hw => a3 w (hS w hw)⟩) id
theorem Act.put_defers (a : Act) (dst : Option Tmp) (v : Value) (ds : List Deferred) : ({ a.put dst v with defers := ds } : Act) = ({ a with defers := ds } : Act).put dst v := by cases dst <;> rfl
theorem Act.defers_put (a : Act) (dst : Option Tmp) (v : Value) : (a.put dst v).defers = a.defers := by cases dst <;> rfl

theorem STEPa_put {j : Nat} {oi oj : Oper} {v : Value} {a : Act} {h : Frag} {L : Hp} {KK : Act → Frag → Hp → Prop} (hj : ops[j]? = some oj) (hap : oi.apart ops oj = true) (hcj : calmOp oj.op = true) (hsi : ∀ cs b, oi.op ≠ .select cs b)
    (y : Yv P ops oi v a h L) (x : STEPa P r ops j (a.put oi.dst v) h L KK) : STEPa P r ops j a h L (fun a' h' L' => Yv P ops oi v a' h' L' ∧ KK (a'.put oi.dst v) h' L') := by
  obtain ⟨h1, h2, h3⟩ := Oper.apart_spec hap
  unfold STEPa at *
  simp only [hj] at *
  rw [wanted_put oj a oi.dst v h1] at x
  split
  · rename_i hw
    simp only [hw, if_true] at x
    intro w hh
    have xx := x w hh
    refine ⟨fun _ _ => trivial, ?_⟩
    have hx := xx.2
    rw [Oper.semAt_eq _ _ _ (calmOp_defer hcj)] at hx ⊢
    rw [execOp_put oj (calmOp_select hcj) a oi.dst v h1] at hx
    have key : ∀ (u : Value) (w' : World), (∃ h' L', KK ((a.put oi.dst v).put oj.dst u) h' L' ∧ Ext h L w h' L' w' ∧ (calmOp oj.op = true → ∀ w1, Sees h' L' w1 → Sees h L w1)) →
        ∃ h' L', (Yv P ops oi v (a.put oj.dst u) h' L' ∧ KK ((a.put oj.dst u).put oi.dst v) h' L') ∧ Ext h L w h' L' w' ∧ (calmOp oj.op = true → ∀ w1, Sees h' L' w1 → Sees h L w1) := by
      rintro u w' ⟨h', L', k, e, hc⟩
      refine ⟨h', L', ⟨y.keep hsi h3 (hc hcj), ?_⟩, e, hc⟩
      rw [← Act.put_comm a v u h2]; exact k
    revert hx
    cases hres : (execOp a.eval oj).run P w with
    | ok z w' =>
      intro hx
      cases z <;> simp only [Oper.uponIn] at hx ⊢ <;>
        first
          | exact key _ _ hx
          | exact ⟨hx.1, CallsIn.mono hx.2 (fun e w'' he => by cases e <;> first | exact key _ _ he | exact he)⟩
          | exact ⟨hx.1, RowsIn.mono hx.2 (fun _ _ he => key _ _ he)⟩
          | exact ⟨hx.1, RoundIn.mono hx.2 (fun e w'' he => by cases e <;> first | exact key _ _ he | exact he)⟩
          | skip
      case defer d =>
        rw [Act.defers_put, Act.put_defers] at hx
        obtain ⟨h', L', k, e, hc⟩ := hx
        refine ⟨h', L', ⟨?_, ?_⟩, e, hc⟩
        · exact Yv.keep (a := { a with defers := d :: a.defers }) hsi h3 y (hc hcj)
        · rw [← Act.put_comm { a with defers := d :: a.defers } v undef h2]; exact k
    | halt z w' =>
      intro hx
      cases z <;> simp only [Oper.uponIn] at hx ⊢ <;> exact hx
  · rename_i hw
    simp only [hw] at x
    exact ⟨y.keep hsi h3 (fun _ s => s), by rw [← Act.put_comm a v undef h2]; exact x⟩

/-- Is i among what j waits for, directly or through others? -/
def anc (ops : Array Oper) (i : Nat) : Nat → Nat → Bool
  | 0, _ => false
  | f + 1, j => match ops[j]? with
    | none => false
    | some o => o.after.any fun e => Region.binds .any e && (e.on == i || anc ops i f e.on)
def Closed (ops : Array Oper) (listed : Array Bool) : Prop :=
  ∀ j o, ops[j]? = some o → listed.getD j false = true → ∀ e ∈ o.after, Region.binds .any e = true → listed.getD e.on false = true
theorem anc_listed {listed : Array Bool} (hc : Closed ops listed) {i : Nat} : ∀ (f j : Nat) (o : Oper), ops[j]? = some o → (∀ e ∈ o.after, Region.binds .any e = true → listed.getD e.on false = true) → anc ops i f j = true → listed.getD i false = true := by
  intro f
  induction f with
  | zero => intro j o _ _ h; cases h
  | succ f ih =>
    intro j o ho hall h
    simp only [anc, ho, Array.any_eq_true] at h
    obtain ⟨k, hk, h⟩ := h
    simp only [Bool.and_eq_true, Bool.or_eq_true, beq_iff_eq] at h
    have hm : o.after[k] ∈ o.after := Array.getElem_mem hk
    have hl := hall _ hm h.1
    rcases h.2 with h2 | h2
    · rw [← h2]; exact hl
    · cases ho2 : ops[o.after[k].on]? with
      | none =>
        cases f with
        | zero => cases h2
        | succ f => simp [anc, ho2] at h2
      | some o2 => exact ih _ o2 ho2 (hc _ o2 ho2 hl) h2

def okFirst (ops : Array Oper) (listed : Array Bool) (i : Nat) : Bool :=
  match ops[i]? with
  | none => false
  | some oi => calmOp oi.op && (List.range ops.size).all fun j => j == i || listed.getD j true || anc ops i ops.size j || (match ops[j]? with | none => true | some oj => oi.apart ops oj && calmOp oj.op)

theorem ANYa_first {E : Act → Frag → Hp → Prop} {i : Nat} {oi : Oper} {v : Value} (hi : ops[i]? = some oi) (hsi : ∀ cs b, oi.op ≠ .select cs b) :
    ∀ (fuel : Nat) (listed : Array Bool) (a : Act) (h : Frag) (L : Hp), Closed ops listed →
      (∀ j oj, ops[j]? = some oj → j ≠ i → listed.getD j true = false → anc ops i ops.size j = false → oi.apart ops oj = true ∧ calmOp oj.op = true) →
      i ∈ Region.ready .any ops listed → Yv P ops oi v a h L → ANYa P r ops E fuel (listed.setIfInBounds i true) (a.put oi.dst v) h L → ANYa P r ops E (fuel + 1) listed a h L := by
  intro fuel
  induction fuel with
  | zero =>
    intro listed a h L _ _ hr hy H
    refine ⟨fun e => (by rw [e] at hr; cases hr), fun j hj => ?_⟩
    by_cases hji : j = i
    · subst hji; exact hy.step hi H
    · have := ready_mono hj hji
      rw [H.1] at this
      cases this
  | succ fuel ih =>
    intro listed a h L hc hfree hr hy H
    refine ⟨fun e => (by rw [e] at hr; cases hr), fun j hj => ?_⟩
    by_cases hji : j = i
    · subst hji; exact hy.step hi H
    · have h1 := H.2 j (ready_mono hj hji)
      obtain ⟨hjun, oj, hoj, hall⟩ := mem_ready.1 hj
      have hiun := (mem_ready.1 hr).1
      have hnl : listed.getD i false ≠ true := fun e => by
        rcases Nat.lt_or_ge i listed.size with h' | h'
        · simp [h'] at hiun e; rw [hiun] at e; cases e
        · simp [Array.getElem?_eq_none h'] at e
      have hanc : anc ops i ops.size j = false := by
        cases ha : anc ops i ops.size j with
        | false => rfl
        | true => exact absurd (anc_listed hc _ _ oj hoj hall ha) hnl
      obtain ⟨hap, hcj⟩ := hfree j oj hoj hji hjun hanc
      have h2 := STEPa_put hoj hap hcj hsi hy h1
      have hc' : Closed ops (listed.setIfInBounds j true) := by
        intro k o ho hl e he hb
        by_cases hjk : j = k
        · subst hjk
          rw [hoj] at ho; cases ho
          exact getD_set_true (hall e he hb)
        · rw [getD_set_ne false hjk] at hl
          exact getD_set_true (hc k o ho hl e he hb)
      have hfree' : ∀ k ok, ops[k]? = some ok → k ≠ i → (listed.setIfInBounds j true).getD k true = false → anc ops i ops.size k = false → oi.apart ops ok = true ∧ calmOp ok.op = true := fun k ok hk hki hun hno => by
        refine hfree k ok hk hki ?_ hno
        by_cases hjk : j = k
        · subst hjk; exact hjun
        · rw [getD_set_ne true hjk] at hun; exact hun
      refine STEPa.mono (fun a' h' L' h3 => ih (listed.setIfInBounds j true) a' h' L' hc' hfree' (ready_mono hr (Ne.symm hji)) h3.1 ?_) h2
      rw [Array.setIfInBounds_comm _ _ hji]
      exact h3.2

/-! ### The words for a proof -/
/-- Which operations have come up, as a Bool over their numbers. -/
def ANY (P : Program) (r : Option Nat) (N : Nat) (D : List Nat) (ops : Array Oper) (fuel : Nat) (listed : Array Bool) (h : Frag) (L : Hp) (fr : Fr) (C : Frag → Hp → Fr → Prop) : Prop :=
  ∀ a, FrOk N D fr a → ANYa P r ops (fun a' h' L' => ∃ fr', FrOk N D fr' a' ∧ C h' L' fr') fuel listed a h L

def closedB (ops : Array Oper) (listed : Array Bool) : Bool :=
  (List.range ops.size).all fun j => !listed.getD j false || (match ops[j]? with | none => true | some o => o.after.all fun e => !Region.binds .any e || listed.getD e.on false)
theorem closed_of {listed : Array Bool} (hc : closedB ops listed = true) : Closed ops listed := by
  intro j o ho hl e he hb
  unfold closedB at hc
  rw [List.all_eq_true] at hc
  have hj : j < ops.size := (Array.getElem?_eq_some_iff.1 ho).1
  have := hc j (List.mem_range.2 hj)
  simp only [ho, hl, Bool.not_true, Bool.false_or] at this
  rw [Array.all_eq_true'] at this
  have := this e he
  simpa [hb] using this

/-- i may be taken first: what is asked of the region, by the kernel. -/
def firstB (ops : Array Oper) (listed : Array Bool) (i : Nat) : Bool :=
  closedB ops listed && okFirst ops listed i && (Region.ready .any ops listed).contains i

variable {h : Frag} {L : Hp} {fr : Fr} {C : Frag → Hp → Fr → Prop} {fuel : Nat} {listed : Array Bool}

theorem first_parts {i : Nat} {o : Oper} (hi : ops[i]? = some o) (hf : firstB ops listed i = true) : Closed ops listed ∧ (∀ cs b, o.op ≠ .select cs b) ∧ i ∈ Region.ready .any ops listed ∧
    (∀ j oj, ops[j]? = some oj → j ≠ i → listed.getD j true = false → anc ops i ops.size j = false → o.apart ops oj = true ∧ calmOp oj.op = true) := by
  unfold firstB okFirst at hf
  simp only [Bool.and_eq_true, hi] at hf
  obtain ⟨⟨h1, h2, h3⟩, h4⟩ := hf
  refine ⟨closed_of h1, calmOp_select h2, by simpa using h4, fun j oj hj hne hun han => ?_⟩
  rw [List.all_eq_true] at h3
  have := h3 j (List.mem_range.2 (Array.getElem?_eq_some_iff.1 hj).1)
  simp only [hj, hun, han, Bool.or_false, Bool.or_eq_true, beq_iff_eq, Bool.and_eq_true] at this
  rcases this with h | h
  · exact absurd h hne
  · exact h

theorem WP_draw {id : Nat} {Q : Post} (hm : P.follows .mixedOrders = true) (x : ANY P r N D ops ops.size (Array.replicate ops.size false) h L fr (fun h' L' fr' => Q .normal h' L' D fr')) : WP P r N (.region id ops true) h L D fr Q := by
  intro a w fa hw
  refine wpIn_region_any hm ?_
  have hs := ANYa_sound (h0 := h) (L0 := L) (w0 := w) ops.size (Array.replicate ops.size false) a h L { w with drawn := w.drawn + 1 } (x a fa) (Ext.same hw rfl rfl rfl rfl (Nat.le_succ _))
  have mono : ∀ (Q1 Q2 : Exit → Act → World → Prop), (∀ e a w, Q1 e a w → Q2 e a w) → ∀ (n : Nat) (l : Array Bool) (a : Act) (w : World), wpAnyIn (FW r) 0 P .any ops Q1 n l a w → wpAnyIn (FW r) 0 P .any ops Q2 n l a w := by
    intro Q1 Q2 hq n
    induction n with
    | zero => exact fun l a w y => ⟨y.1, hq _ _ _ y.2⟩
    | succ n ih =>
      intro l a w y
      refine ⟨fun e => hq _ _ _ (y.1 e), fun i hi => ?_⟩
      have yi := y.2 i hi
      unfold wpOpIn at yi ⊢
      cases ho : ops[i]? with
      | none => simp only [ho] at yi ⊢; exact ih _ _ _ yi
      | some o =>
        simp only [ho] at yi ⊢
        split
        · rename_i hw'
          simp only [hw', if_true] at yi
          refine ⟨yi.1, ?_⟩
          have hx := yi.2
          have hout : LetsOut Q1 → LetsOut Q2 := fun ⟨a₀, w₀, q⟩ => ⟨a₀, w₀, hq _ _ _ q⟩
          revert hx
          generalize (o.semAt (FW r).round a.eval).run P w = res
          intro hx
          cases res with
          | ok z w' =>
            cases z <;> simp only [Oper.uponIn] at hx ⊢ <;>
              first
                | exact ih _ _ _ hx
                | exact ⟨hx.1, CallsIn.mono hx.2 (fun e w'' he => by cases e <;> first | exact ih _ _ _ he | exact hq _ _ _ he | exact hout he)⟩
                | exact ⟨hx.1, RowsIn.mono hx.2 (fun _ _ he => ih _ _ _ he)⟩
                | exact ⟨hx.1, RoundIn.mono hx.2 (fun e w'' he => by cases e <;> first | exact ih _ _ _ he | exact hq _ _ _ he | exact hout he)⟩
          | halt z w' => cases z <;> simp only [Oper.uponIn] at hx ⊢ <;> exact hq _ _ _ hx
        · rename_i hw'
          simp only [hw'] at yi
          exact ⟨yi.1, ih _ _ _ yi.2⟩
  exact mono _ _ (fun e a' w' ⟨he, h', L', ⟨fr', f', q⟩, e1⟩ => by subst he; exact ⟨h', L', D, fr', q, f', e1⟩) _ _ _ _ hs

theorem ANY_done (hr : Region.ready .any ops listed = []) (x : C h L fr) : ANY P r N D ops fuel listed h L fr C := by
  intro a fa
  cases fuel with
  | zero => exact ⟨hr, fr, fa, x⟩
  | succ n => exact ⟨fun _ => ⟨fr, fa, x⟩, fun i hi => by rw [hr] at hi; cases hi⟩
theorem ANY_q {o : Oper} {v : Value} (i : Nat) (hi : ops[i]? = some o) (hf : firstB ops listed i = true) (hg : o.guard = none) (hd : dstOk N o.dst = true) (q : QOP P o fr h L v)
    (x : ANY P r N D ops fuel (listed.setIfInBounds i true) h L (putd fr o.dst v) C) : ANY P r N D ops (fuel + 1) listed h L fr C := by
  intro a fa
  obtain ⟨h1, h2, h3, h4⟩ := first_parts hi hf
  exact ANYa_first hi h2 fuel listed a h L h1 h4 h3 (.inl ⟨by simp [Region.wanted, hg], q.1, q.2 a (fun _ _ e => fa.eval e)⟩) (x _ (fa.put hd v))
theorem ANY_gq {o oj : Oper} {v : Value} {j d : Nat} {want : Bool} (i : Nat) (hi : ops[i]? = some o) (hf : firstB ops listed i = true) (hg : o.guard = some (j, want)) (hj : ops[j]? = some oj) (hdj : oj.dst = some d)
    (hv : get? fr d = some (.bool want)) (hd : dstOk N o.dst = true) (q : QOP P o fr h L v)
    (x : ANY P r N D ops fuel (listed.setIfInBounds i true) h L (putd fr o.dst v) C) : ANY P r N D ops (fuel + 1) listed h L fr C := by
  intro a fa
  obtain ⟨h1, h2, h3, h4⟩ := first_parts hi hf
  have hy := yielded_of (ops := ops) fa hj hdj hv
  exact ANYa_first hi h2 fuel listed a h L h1 h4 h3 (.inl ⟨by simp [Region.wanted, hg, hy], q.1, q.2 a (fun _ _ e => fa.eval e)⟩) (x _ (fa.put hd v))
theorem ANY_gn {o oj : Oper} {j d : Nat} {want : Bool} (i : Nat) (hi : ops[i]? = some o) (hf : firstB ops listed i = true) (hg : o.guard = some (j, want)) (hj : ops[j]? = some oj) (hdj : oj.dst = some d)
    (hv : get? fr d = some (.bool (!want))) (hd : dstOk N o.dst = true)
    (x : ANY P r N D ops fuel (listed.setIfInBounds i true) h L (putd fr o.dst undef) C) : ANY P r N D ops (fuel + 1) listed h L fr C := by
  intro a fa
  obtain ⟨h1, h2, h3, h4⟩ := first_parts hi hf
  have hy := yielded_of (ops := ops) fa hj hdj hv
  exact ANYa_first hi h2 fuel listed a h L h1 h4 h3 (.inr ⟨by simp only [Region.wanted, hg, hy]; cases want <;> rfl, rfl⟩) (x _ (fa.put hd undef))

/-- One operation at a time, where each that is ready is met. -/
def STEP (P : Program) (r : Option Nat) (N : Nat) (D : List Nat) (ops : Array Oper) (i : Nat) (h : Frag) (L : Hp) (fr : Fr) (C : Frag → Hp → Fr → Prop) : Prop :=
  ∀ a, FrOk N D fr a → STEPa P r ops i a h L (fun a' h' L' => ∃ fr', FrOk N D fr' a' ∧ C h' L' fr')
theorem ANY_one (i : Nat) (hr : Region.ready .any ops listed = [i]) (x : STEP P r N D ops i h L fr (fun h' L' fr' => ANY P r N D ops fuel (listed.setIfInBounds i true) h' L' fr' C)) : ANY P r N D ops (fuel + 1) listed h L fr C := by
  intro a fa
  refine ⟨(fun e => by rw [hr] at e; cases e), fun j hj => ?_⟩
  rw [hr, List.mem_singleton] at hj
  subst hj
  exact (x a fa).mono fun a' h' L' ⟨fr', f', k⟩ => k a' f'
theorem ANY_two (i j : Nat) (hr : Region.ready .any ops listed = [i, j]) (x : STEP P r N D ops i h L fr (fun h' L' fr' => ANY P r N D ops fuel (listed.setIfInBounds i true) h' L' fr' C))
    (y : STEP P r N D ops j h L fr (fun h' L' fr' => ANY P r N D ops fuel (listed.setIfInBounds j true) h' L' fr' C)) : ANY P r N D ops (fuel + 1) listed h L fr C := by
  intro a fa
  refine ⟨(fun e => by rw [hr] at e; cases e), fun k hk => ?_⟩
  rw [hr] at hk
  simp only [List.mem_cons, List.not_mem_nil, or_false] at hk
  rcases hk with rfl | rfl
  · exact (x a fa).mono fun a' h' L' ⟨fr', f', k⟩ => k a' f'
  · exact (y a fa).mono fun a' h' L' ⟨fr', f', k⟩ => k a' f'
theorem STEP_c {o : Oper} {i : Nat} (hi : ops[i]? = some o) (hg : o.guard = none) (hd : dstOk N o.dst = true) (x : OPc P r o fr h L (fun h' M v => C h' (M ++ L) (putd fr o.dst v))) : STEP P r N D ops i h L fr C := by
  intro a fa
  unfold STEPa
  simp only [hi, Region.wanted, hg, if_true]
  exact fun w hw => Oper.wpIn_mono (fun a' w' ⟨h', M, v, e, k, x1⟩ => ⟨h', M ++ L, ⟨_, by rw [e]; exact fa.put hd v, k⟩, x1, fun _ w1 s => s.mono x1.le (fun p hp => List.mem_append_right _ hp)⟩) (x a (fun _ _ e => fa.eval e) w hw)
theorem STEP_w {o : Oper} {i : Nat} (hi : ops[i]? = some o) (hg : o.guard = none) (hc : calmOp o.op = false) (hd : dstOk N o.dst = true) (x : OPw P r o fr h L (fun h' L' v => C h' L' (putd fr o.dst v))) : STEP P r N D ops i h L fr C := by
  intro a fa
  unfold STEPa
  simp only [hi, Region.wanted, hg, if_true]
  exact fun w hw => Oper.wpIn_mono (fun a' w' ⟨h', L', v, e, k, x1⟩ => ⟨h', L', ⟨_, by rw [e]; exact fa.put hd v, k⟩, x1, fun hx => by rw [hc] at hx; cases hx⟩) (x a (fun _ _ e => fa.eval e) w hw)
theorem STEP_gc {o oj : Oper} {i j d : Nat} {want : Bool} (hi : ops[i]? = some o) (hg : o.guard = some (j, want)) (hj : ops[j]? = some oj) (hdj : oj.dst = some d) (hv : get? fr d = some (.bool want)) (hd : dstOk N o.dst = true)
    (x : OPc P r o fr h L (fun h' M v => C h' (M ++ L) (putd fr o.dst v))) : STEP P r N D ops i h L fr C := by
  intro a fa
  have hy := yielded_of (ops := ops) fa hj hdj hv
  unfold STEPa
  simp only [hi, Region.wanted, hg, hy, beq_self_eq_true, if_true]
  exact fun w hw => Oper.wpIn_mono (fun a' w' ⟨h', M, v, e, k, x1⟩ => ⟨h', M ++ L, ⟨_, by rw [e]; exact fa.put hd v, k⟩, x1, fun _ w1 s => s.mono x1.le (fun p hp => List.mem_append_right _ hp)⟩) (x a (fun _ _ e => fa.eval e) w hw)
/-- An operation that may take over what is owned, so that it is seen still. -/
def OPv (P : Program) (r : Option Nat) (o : Oper) (fr : Fr) (h : Frag) (L : Hp) (K : OCont) : Prop :=
  ∀ a : Act, (∀ x u, ev fr x = some u → a.eval x = u) → ∀ w, Holds h L w →
    o.wpIn (FW r) 0 P a w (fun a' w' => ∃ h' L' v, a' = a.put o.dst v ∧ K h' L' v ∧ Ext h L w h' L' w' ∧ ∀ w1, Sees h' L' w1 → Sees h L w1) (fun _ _ _ => False)
theorem STEP_v {o : Oper} {i : Nat} (hi : ops[i]? = some o) (hg : o.guard = none) (hd : dstOk N o.dst = true) (x : OPv P r o fr h L (fun h' L' v => C h' L' (putd fr o.dst v))) : STEP P r N D ops i h L fr C := by
  intro a fa
  unfold STEPa
  simp only [hi, Region.wanted, hg, if_true]
  exact fun w hw => Oper.wpIn_mono (fun a' w' ⟨h', L', v, e, k, x1, x2⟩ => ⟨h', L', ⟨_, by rw [e]; exact fa.put hd v, k⟩, x1, fun _ => x2⟩) (x a (fun _ _ e => fa.eval e) w hw)
theorem OPw_of_v {o : Oper} {K : OCont} (x : OPv P r o fr h L K) : OPw P r o fr h L K :=
  fun a ha w hw => Oper.wpIn_mono (fun _ _ ⟨h', L', v, e, k, x1, _⟩ => ⟨h', L', v, e, k, x1⟩) (x a ha w hw)
end
end Go.Mesh
