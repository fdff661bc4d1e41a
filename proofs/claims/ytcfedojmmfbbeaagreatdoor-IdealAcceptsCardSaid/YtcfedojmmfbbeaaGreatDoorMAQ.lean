/-
  Part MAQ of the proof's ground: X27, Draws2, DrawsL, Draws3, Draws4, Draws5, Run, Ia.
-/
import Derived.Test.YtcfedojmmfbbeaaGreatDoorMAD
import Derived.Test.YtcfedojmmfbbeaaGreatDoorMAF
import Derived.Test.YtcfedojmmfbbeaaGreatDoorMAP
/-
  IdealAccepts: the example holds: as a contract.
-/
set_option linter.all false
namespace Go.Proofs.YtcfedojmmfbbeaaGreatDoor
open Go.Mesh Go Go.RowKit
set_option linter.all false
set_option maxRecDepth 100000
/-! ### Data, as cells -/
mutual
def vd : DataW Unit → List Value
  | .lit (.int k n) => [.int k n]
  | .lit (.string b) => [.string ⟨b.toArray⟩]
  | .lit (.bool b) => [.bool b]
  | .agg ds => vds ds
  | _ => []
def vds : List (DataW Unit) → List Value
  | [] => []
  | d :: ds => vd d ++ vds ds
end
mutual
theorem dc_den {ρ : Nm} : ∀ (d : DataW Unit), DenL ρ (dc d) (vd d)
  | .lit l => by
    cases l with
    | int k n => exact .cons (.int k n) .nil
    | string b =>
      have := DenV.str (ρ := ρ) ⟨b.toArray⟩
      exact .cons (by simpa using this) .nil
    | bool b => exact .cons (.bool b) .nil
    | float k n => exact .nil
    | nil => exact .nil
  | .agg ds => by simp only [dc, vd]; exact dcs_den ds
  | .nil => .nil
  | .ptr d => .nil
  | .slice a b => .nil
  | .iface t d => .nil
  | .map es => .nil
  | .held h => .nil
theorem dcs_den {ρ : Nm} : ∀ (ds : List (DataW Unit)), DenL ρ (dcs ds) (vds ds)
  | [] => .nil
  | d :: ds => by simp only [dcs, vds]; exact (dc_den d).append (dcs_den ds)
end
def elv : DataW Unit → List Value
  | .slice ds _ => vds ds
  | _ => []
theorem els_den {ρ : Nm} (d : DataW Unit) : DenL ρ (els d) (elv d) := by
  cases d <;> first | exact .nil | exact dcs_den _
/-- what is known of the package-level variables -/
structure Gl (h : Frag) : Prop where
  last : ∃ o, h 12 = some o
  codes : ∃ rest t fz, h 0 = some (.cells (vd Rows.laid_refmesh_checker_codes ++ rest).toArray t fz)
  forms : ∃ rest t fz, h 2 = some (.cells (vd Rows.laid_refmesh_syntax_forms ++ rest).toArray t fz)
  words : ∃ b off cap rest t fz pre rest2 t2 fz2, h 10 = some (.cells (([.slice (some ⟨b, off, none⟩) kwN cap] : List Value) ++ rest).toArray t fz) ∧ kwN ≤ cap ∧ h b = some (.cells (pre ++ elv Rows.laid_refmesh_lexer_keywords ++ rest2).toArray t2 fz2) ∧ pre.length = off
theorem Gl.mono {h h' : Frag} (x : Gl h) (hl : le h h') : Gl h' := by
  obtain ⟨⟨o, h1⟩, ⟨r1, t1, f1, h2⟩, ⟨r2, t2, f2, h3⟩, b, off, cap, rest, t, fz, pre, rest2, t2', fz2, h4, h5, h6, h7⟩ := x
  exact ⟨⟨o, hl _ _ h1⟩, ⟨r1, t1, f1, hl _ _ h2⟩, ⟨r2, t2, f2, hl _ _ h3⟩, b, off, cap, rest, t, fz, pre, rest2, t2', fz2, hl _ _ h4, h5, hl _ _ h6, h7⟩
/-- the state in which the run begins, as a world has it -/
theorem rep0 {h : Frag} {L : Hp} {w : World} (x : Gl h) (hw : Holds h L w) : ∃ ρ, (∀ B, Rep B w.heap.size ρ s0 w) ∧ ∀ n a, ρ n = some a → n < 30 := by
  obtain ⟨⟨o, h1⟩, ⟨r1, t1, f1, h2⟩, ⟨r2, t2, f2, h3⟩, b, off, cap, rest, t, fz, pre, rest2, t2', fz2, h4, h5, h6, h7⟩ := x
  have hs := hw.sees.pers
  have e12 := (Array.getElem?_eq_some_iff.1 (hs _ _ h1)).1
  have eb := (Array.getElem?_eq_some_iff.1 (hs _ _ h6)).1
  let ρ : Nm := ⟨fun n => if n < 13 then some n else if n = 13 then some b else none, fun n => if n = 13 then some off else none⟩
  have hρ : ∀ n a, ρ n = some a → n < 14 ∧ (n < 13 ∧ a = n ∨ n = 13 ∧ a = b) := fun n a e => by
    simp only [ρ] at e
    by_cases h1 : n < 13
    · rw [if_pos h1] at e; cases e; exact ⟨by omega, .inl ⟨h1, rfl⟩⟩
    · rw [if_neg h1] at e
      by_cases h2 : n = 13
      · rw [if_pos h2] at e; cases e; exact ⟨by omega, .inr ⟨h2, rfl⟩⟩
      · rw [if_neg h2] at e; cases e
  refine ⟨ρ, fun B => ⟨fun g hg => by simp [ρ, hg], fun n h1 h2 => ?_, Nat.le_refl _, Nat.le_refl _, fun n o a e r => ?_, fun n a h1 r => ?_, fun n a h1 r => ?_, fun n m o o' a h1 h2 e1 e2 r1 r2 => ?_⟩, fun n a e => by have := (hρ n a e).1; omega⟩
  · have h1 : 30 ≤ n := h1
    have q1 : ¬ n < 13 := by omega
    have q2 : ¬ n = 13 := by omega
    simp [ρ, q1, q2]
  · rcases addB_get glB .lf n with ⟨q1, _⟩ | ⟨p, q1, q2, q3⟩
    · have e' : (addB glB .lf).get n = some o := e
      rw [q1] at e'; cases e'
    · have e' : (addB glB .lf).get n = some o := e
      rw [q3] at e'; cases e'
      subst q2
      simp only [glB, List.mem_cons, List.not_mem_nil, or_false] at q1
      rcases q1 with rfl | rfl | rfl | rfl
      · have : a = 0 := by rcases (hρ _ _ r).2 with ⟨_, e⟩ | ⟨e, _⟩; exact e; cases e
        subst this
        exact ⟨_, hs _ _ h2, .ro _ t1 r1 f1 (dc_den _)⟩
      · have : a = 2 := by rcases (hρ _ _ r).2 with ⟨_, e⟩ | ⟨e, _⟩; exact e; cases e
        subst this
        exact ⟨_, hs _ _ h3, .ro _ t2 r2 f2 (dc_den _)⟩
      · have : a = 10 := by rcases (hρ _ _ r).2 with ⟨_, e⟩ | ⟨e, _⟩; exact e; cases e
        subst this
        exact ⟨_, hs _ _ h4, .ro _ t rest fz (.cons (.slS kwN kwN cap (by simp [ρ]) (by simp [ρ])) .nil)⟩
      · have : a = b := by rcases (hρ _ _ r).2 with ⟨e, _⟩ | ⟨_, e⟩; omega; exact e
        subst this
        exact ⟨_, hs _ _ h6, .roS t2' pre rest2 fz2 (d := off) (by simp [ρ]) h7 (els_den _)⟩
  · have := (hρ n a r).1; have h1 : 30 ≤ n := h1; omega
  · rcases (hρ n a r).2 with ⟨q1, rfl⟩ | ⟨_, rfl⟩
    · omega
    · exact eb
  · have := (hρ n a r1).1; have h1 : 30 ≤ n := h1; omega
theorem dom0 : DomS s0 := fun n h => by
  have h : 30 ≤ n := h
  show (addB glB .lf).get n = none
  rcases addB_get glB .lf n with ⟨q1, _⟩ | ⟨p, q1, q2, q3⟩
  · rw [q1]; rfl
  · simp only [glB, List.mem_cons, List.not_mem_nil, or_false] at q1
    rcases q1 with rfl | rfl | rfl | rfl <;> (simp only at q2; omega)
theorem isT_some {r : Option (AV × St)} (h : isT r = true) : ∃ s, r = some (.bool true, s) := by
  unfold isT at h
  split at h
  · exact ⟨_, rfl⟩
  · cases h
theorem awake_ends : ∃ s, runF Tryz.prog 311 168 (cutM [(21, c21), (22, c22)]) 60 (.fn 4 [] []) [] s0 = some (.bool true, s) := isT_some awake_run
theorem f4_body : Tryz.f4.body.isNone = false := rfl
/-- THE EXAMPLE HOLDS. -/
theorem awake_f {h : Frag} {L : Hp} (x : Gl h) : FSpec Tryz.prog 4 #[] h L (fun h' L' v => h' = h ∧ L' = L ∧ v = .bool true) := by
  intro w hw
  obtain ⟨ρ, hr, hlt⟩ := rep0 x hw
  obtain ⟨s1, e⟩ := awake_ends
  obtain ⟨fn, first, cap, huf, hinv⟩ := runF_ok env m_ok 60 _ _ _ _ _ e s1.next w.heap.size ρ w _ [] (hr s1.next) dom0 (Nat.le_refl _) (DenV.fn 4 .nil .nil) .nil
  simp only [Value.func.injEq] at huf
  obtain ⟨rfl, rfl, rfl⟩ := huf
  have hent : (invoke (.fn (.func 4) #[]) (#[] ++ ([] : List Value).toArray)).run Tryz.prog w = .ok (.enter 4 #[]) w := by
    have hn := env.name 4 _ Tryz.func4
    simp only [invoke, callFunc, Sem.run_bind, run_program, Result.andThen_ok, Tryz.func4]
    simp [hn, f4_body]
  have he2 : ([] : List Value).toArray = #[] := rfl
  rw [he2] at hinv hent
  rcases hinv with ⟨v1, w3, e1, _⟩ | ⟨f', args', e1, hcalls⟩ | ⟨l1, fn1, tm1, as1, bo1, e1, _⟩
  · rw [hent] at e1; cases e1
  · rw [hent] at e1
    simp only [Result.ok.injEq, Next.enter.injEq] at e1
    obtain ⟨⟨rfl, rfl⟩, _⟩ := e1
    refine hcalls.mono fun e w' ⟨u, he, ρ', l, du, g⟩ => ?_
    cases du
    subst he
    have hun : ∀ e b, e ∈ l → ρ e.1 ≠ some b := fun e b he hr' => by
      have h1 := hlt _ _ hr'
      have h2 := g.hpf.low e he
      have h2 : 30 ≤ e.1 := h2
      omega
    have hfr : ∀ b, b < w.heap.size → w'.heap[b]? = w.heap[b]? := fun b hb => g.frame b hb fun e he => hun e b he
    refine ⟨.bool true, h, L, rfl, ⟨rfl, rfl, rfl⟩, le_refl h, ⟨⟨fun b o e => ?_, fun p hp => ?_⟩, hw.nodup, hw.apart⟩, g.size, fun b hb _ => hfr b hb, fun b o e => .inl e, fun p hp => .inr (mem_ids hp), g.os, g.tape, g.output, g.drawn⟩
    · rw [hfr b (hw.pers_lt e)]; exact hw.sees.pers b o e
    · rw [hfr p.1 (hw.lt hp)]; exact hw.sees.own p hp
  · rw [hent] at e1; cases e1
end Go.Proofs.YtcfedojmmfbbeaaGreatDoor
/-
  A REGION THAT DRAWS ITS ORDER, SECOND PART: an operation that reads only what nobody writes may be taken first whatever the others do; two operations that are ready at once.
-/
set_option linter.all false
namespace Go.Mesh
open Go.RowKit
set_option linter.unusedVariables false
section
variable {P : Program} {r : Option Nat} {N : Nat} {D : List Nat} {ops : Array Oper}
def tameOp : Op → Bool
  | .defer _ => false
  | .select .. => false
  | _ => true
theorem tameOp_defer {o : Op} (h : tameOp o = true) : ∀ c, o ≠ .defer c := fun c e => by subst e; cases h
theorem tameOp_select {o : Op} (h : tameOp o = true) : ∀ c b, o ≠ .select c b := fun c b e => by subst e; cases h
theorem sees_pers {h h' : Frag} {L' : Hp} (hl : le h h') (w : World) (s : Sees h' L' w) : Sees h [] w := ⟨fun b o e => s.pers b o (hl b o e), by simp⟩
theorem STEPa_putP {j : Nat} {oi oj : Oper} {v : Value} {a : Act} {h0 h : Frag} {L : Hp} {KK : Act → Frag → Hp → Prop} (h00 : le h0 h) (hj : ops[j]? = some oj) (hap : oi.apart ops oj = true) (hcj : tameOp oj.op = true) (hsi : ∀ cs b, oi.op ≠ .select cs b)
    (y : Yv P ops oi v a h0 []) (x : STEPa P r ops j (a.put oi.dst v) h L KK) : STEPa P r ops j a h L (fun a' h' L' => le h0 h' ∧ Yv P ops oi v a' h0 [] ∧ KK (a'.put oi.dst v) h' L') := by
  obtain ⟨h1, h2, h3⟩ := Oper.apart_spec hap
  unfold STEPa at *
  simp only [hj] at *
  rw [wanted_put oj a oi.dst v h1] at x
  split
  · rename_i hw
    simp only [hw, if_true] at x
    intro w hh
    have xx := x w hh
    refine ⟨fun _ _ => trivial, ?_⟩
    have hx := xx.2
    rw [Oper.semAt_eq _ _ _ (tameOp_defer hcj)] at hx ⊢
    rw [execOp_put oj (tameOp_select hcj) a oi.dst v h1] at hx
    have key : ∀ (u : Value) (w' : World), (∃ h' L', KK ((a.put oi.dst v).put oj.dst u) h' L' ∧ Ext h L w h' L' w' ∧ (calmOp oj.op = true → ∀ w1, Sees h' L' w1 → Sees h L w1)) →
        ∃ h' L', (le h0 h' ∧ Yv P ops oi v (a.put oj.dst u) h0 [] ∧ KK ((a.put oj.dst u).put oi.dst v) h' L') ∧ Ext h L w h' L' w' ∧ (calmOp oj.op = true → ∀ w1, Sees h' L' w1 → Sees h L w1) := by
      rintro u w' ⟨h', L', k, e, hc⟩
      refine ⟨h', L', ⟨le_trans h00 e.le, y.keep hsi h3 (fun _ s => s), ?_⟩, e, hc⟩
      rw [← Act.put_comm a v u h2]; exact k
    revert hx
    cases hres : (execOp a.eval oj).run P w with
    | ok z w' =>
      intro hx
      cases z <;> simp only [Oper.uponIn] at hx ⊢ <;>
        first
          | exact key _ _ hx
          | exact ⟨hx.1, CallsIn.mono hx.2 (fun e w'' he => by cases e <;> first | exact key _ _ he | exact he)⟩
          | exact ⟨hx.1, RowsIn.mono hx.2 (fun _ _ he => key _ _ he)⟩
          | exact ⟨hx.1, RoundIn.mono hx.2 (fun e w'' he => by cases e <;> first | exact key _ _ he | exact he)⟩
          | skip
      case defer d =>
        rw [Act.defers_put, Act.put_defers] at hx
        obtain ⟨h', L', k, e, hc⟩ := hx
        refine ⟨h', L', ⟨le_trans h00 e.le, ?_, ?_⟩, e, hc⟩
        · exact Yv.keep (a := { a with defers := d :: a.defers }) hsi h3 y (fun _ s => s)
        · rw [← Act.put_comm { a with defers := d :: a.defers } v undef h2]; exact k
    | halt z w' =>
      intro hx
      cases z <;> simp only [Oper.uponIn] at hx ⊢ <;> exact hx
  · rename_i hw
    simp only [hw] at x
    exact ⟨h00, y.keep hsi h3 (fun _ s => s), by rw [← Act.put_comm a v undef h2]; exact x⟩
theorem YvP.step {i : Nat} {o : Oper} {v : Value} {a : Act} {h0 h : Frag} {L : Hp} {KK : Act → Frag → Hp → Prop} (h00 : le h0 h) (hi : ops[i]? = some o) (y : Yv P ops o v a h0 []) (k : KK (a.put o.dst v) h L) : STEPa P r ops i a h L KK := by
  refine Yv.step hi ?_ k
  exact y.imp (fun ⟨a1, a2, a3⟩ => ⟨a1, a2, fun w hw => a3 w (sees_pers h00 w hw)⟩) id
theorem ANYa_firstP {E : Act → Frag → Hp → Prop} {h0 : Frag} {i : Nat} {oi : Oper} {v : Value} (hi : ops[i]? = some oi) (hsi : ∀ cs b, oi.op ≠ .select cs b) :
    ∀ (fuel : Nat) (listed : Array Bool) (a : Act) (h : Frag) (L : Hp), le h0 h → Closed ops listed →
      (∀ j oj, ops[j]? = some oj → j ≠ i → listed.getD j true = false → anc ops i ops.size j = false → oi.apart ops oj = true ∧ tameOp oj.op = true) →
      i ∈ Region.ready .any ops listed → Yv P ops oi v a h0 [] → ANYa P r ops E fuel (listed.setIfInBounds i true) (a.put oi.dst v) h L → ANYa P r ops E (fuel + 1) listed a h L := by
  intro fuel
  induction fuel with
  | zero =>
    intro listed a h L h00 _ _ hr hy H
    refine ⟨fun e => (by rw [e] at hr; cases hr), fun j hj => ?_⟩
    by_cases hji : j = i
    · subst hji; exact YvP.step h00 hi hy H
    · have := ready_mono hj hji
      rw [H.1] at this
      cases this
  | succ fuel ih =>
    intro listed a h L h00 hc hfree hr hy H
    refine ⟨fun e => (by rw [e] at hr; cases hr), fun j hj => ?_⟩
    by_cases hji : j = i
    · subst hji; exact YvP.step h00 hi hy H
    · have h1 := H.2 j (ready_mono hj hji)
      obtain ⟨hjun, oj, hoj, hall⟩ := mem_ready.1 hj
      have hiun := (mem_ready.1 hr).1
      have hnl : listed.getD i false ≠ true := fun e => by
        rcases Nat.lt_or_ge i listed.size with h' | h'
        · simp [h'] at hiun e; rw [hiun] at e; cases e
        · simp [Array.getElem?_eq_none h'] at e
      have hanc : anc ops i ops.size j = false := by
        cases ha : anc ops i ops.size j with
        | false => rfl
        | true => exact absurd (anc_listed hc _ _ oj hoj hall ha) hnl
      obtain ⟨hap, hcj⟩ := hfree j oj hoj hji hjun hanc
      have h2 := STEPa_putP h00 hoj hap hcj hsi hy h1
      have hc' : Closed ops (listed.setIfInBounds j true) := by
        intro k o ho hl e he hb
        by_cases hjk : j = k
        · subst hjk
          rw [hoj] at ho; cases ho
          exact getD_set_true (hall e he hb)
        · rw [getD_set_ne false hjk] at hl
          exact getD_set_true (hc k o ho hl e he hb)
      have hfree' : ∀ k ok, ops[k]? = some ok → k ≠ i → (listed.setIfInBounds j true).getD k true = false → anc ops i ops.size k = false → oi.apart ops ok = true ∧ tameOp ok.op = true := fun k ok hk hki hun hno => by
        refine hfree k ok hk hki ?_ hno
        by_cases hjk : j = k
        · subst hjk; exact hjun
        · rw [getD_set_ne true hjk] at hun; exact hun
      refine STEPa.mono (fun a' h' L' h3 => ih (listed.setIfInBounds j true) a' h' L' h3.1 hc' hfree' (ready_mono hr (Ne.symm hji)) h3.2.1 ?_) h2
      rw [Array.setIfInBounds_comm _ _ hji]
      exact h3.2.2
/-- i may be taken first, if it reads only what nobody writes -/
def firstP (ops : Array Oper) (listed : Array Bool) (i : Nat) : Bool :=
  closedB ops listed && (match ops[i]? with
    | none => false
    | some oi => tameOp oi.op && (List.range ops.size).all fun j => j == i || listed.getD j true || anc ops i ops.size j || (match ops[j]? with | none => true | some oj => oi.apart ops oj && tameOp oj.op)) && (Region.ready .any ops listed).contains i
variable {h : Frag} {L : Hp} {fr : Fr} {C : Frag → Hp → Fr → Prop} {fuel n m m' : Nat} {l : List Oper} {o : Oper}
theorem firstP_parts {listed : Array Bool} {i : Nat} {o : Oper} (hi : ops[i]? = some o) (hf : firstP ops listed i = true) : Closed ops listed ∧ (∀ cs b, o.op ≠ .select cs b) ∧ i ∈ Region.ready .any ops listed ∧
    (∀ j oj, ops[j]? = some oj → j ≠ i → listed.getD j true = false → anc ops i ops.size j = false → o.apart ops oj = true ∧ tameOp oj.op = true) := by
  unfold firstP at hf
  simp only [Bool.and_eq_true, hi] at hf
  obtain ⟨⟨h1, h2, h3⟩, h4⟩ := hf
  refine ⟨closed_of h1, tameOp_select h2, by simpa using h4, fun j oj hj hne hun han => ?_⟩
  rw [List.all_eq_true] at h3
  have := h3 j (List.mem_range.2 (Array.getElem?_eq_some_iff.1 hj).1)
  simp only [hj, hun, han, Bool.or_false, Bool.or_eq_true, beq_iff_eq, Bool.and_eq_true] at this
  rcases this with h | h
  · exact absurd h hne
  · exact h
theorem A_qp {v : Value} {d i : Nat} (hd : o.dst = some d) (hN : Nat.blt d N = true) (hg : o.guard = none) (q : QOP P o fr h [] v) (hm : m ||| 2 ^ i = m') (hf : firstP l.toArray (lst n m) i = true)
    (x : ANY P r N D l.toArray fuel (lst n m') h L ((d, v) :: fr) C) : ANYo P r N D l (fuel + 1) n m i o h L fr C := by
  intro hi a fa
  obtain ⟨h1, h2, h3, h4⟩ := firstP_parts hi hf
  have x' := x (a.put o.dst v) (by have := fa.put (dst := o.dst) (dstOk_of hd hN) v; rw [hd] at this ⊢; exact this)
  rw [← lst_set hm] at x'
  exact ANYa_firstP (h0 := h) hi h2 fuel (lst n m) a h L (le_refl _) h1 h4 h3 (.inl ⟨by simp [Region.wanted, hg], q.1, q.2 a (fun _ _ e => fa.eval e)⟩) x'
theorem A_loadp {d i b off : Nat} {t : TypeId} {p : Operand} (hop : o.op = .load t p) (hp : ev fr p = some (ptr b off)) (hd : o.dst = some d) (hN : Nat.blt d N = true) (hg : o.guard = none) (hm : m ||| 2 ^ i = m') (hf : firstP l.toArray (lst n m) i = true)
    (x : LG P h [] b off t (fun v => ANY P r N D l.toArray fuel (lst n m') h L ((d, v) :: fr) C)) : ANYo P r N D l (fuel + 1) n m i o h L fr C :=
  let ⟨_, q, k⟩ := x; A_qp hd hN hg (Q_loadL hop hp q) hm hf k
/-- two are ready: each may be the next -/
theorem A_two (i j : Nat) {oi oj : Oper} {mi mj : Nat} (hi : nth l i = some oi) (hj : nth l j = some oj) (hr : Region.ready .any l.toArray (lst n m) = [i, j]) (hmi : m ||| 2 ^ i = mi) (hmj : m ||| 2 ^ j = mj)
    (x : STEP P r N D l.toArray i h L fr (fun h' L' fr' => ANY P r N D l.toArray fuel (lst n mi) h' L' fr' C)) (y : STEP P r N D l.toArray j h L fr (fun h' L' fr' => ANY P r N D l.toArray fuel (lst n mj) h' L' fr' C)) : ANY P r N D l.toArray (fuel + 1) (lst n m) h L fr C :=
  have _ := hi
  have _ := hj
  ANY_two i j hr (by rw [lst_set hmi]; exact x) (by rw [lst_set hmj]; exact y)
theorem T_c {d i : Nat} (hi : nth l i = some o) (hd : o.dst = some d) (hN : Nat.blt d N = true) (hg : o.guard = none) {C' : Frag → Hp → Fr → Prop} (x : OPc P r o fr h L (fun h' M v => C' h' (M ++ L) ((d, v) :: fr))) : STEP P r N D l.toArray i h L fr C' :=
  STEP_c (by rw [nth_eq] at hi; simpa using hi) hg (dstOk_of hd hN) (by rw [hd]; exact x)
theorem T_w {d i : Nat} (hi : nth l i = some o) (hd : o.dst = some d) (hN : Nat.blt d N = true) (hg : o.guard = none) (hc : calmOp o.op = false) {C' : Frag → Hp → Fr → Prop} (x : OPw P r o fr h L (fun h' L' v => C' h' L' ((d, v) :: fr))) : STEP P r N D l.toArray i h L fr C' :=
  STEP_w (by rw [nth_eq] at hi; simpa using hi) hg hc (dstOk_of hd hN) (by rw [hd]; exact x)
/-- owned blocks that an operation only reads -/
theorem OPw_keepM {K : OCont} (A M B : Hp) (hL : L = A ++ (M ++ B)) (x : ∀ h', le h h' → (∀ p, p ∈ M → h' p.1 = some p.2) → OPw P r o fr h' (A ++ B) K) : OPw P r o fr h L K := by
  subst hL
  intro a ha w hw
  obtain ⟨h', e0, hm⟩ := keepAt hw
  exact Oper.wpIn_mono (fun _ _ ⟨h2, L', v, e, k, e1⟩ => ⟨h2, L', v, e, k, e0.trans e1⟩) (x h' e0.le hm a ha w e0.holds)
end
end Go.Mesh
/-
  A REGION THAT DRAWS ITS ORDER: the question whether an operation may be taken first, asked of what has not come up alone (quick in large regions).
-/
set_option linter.all false
namespace Go.Mesh
open Go.RowKit
set_option linter.unusedVariables false
def ancL (ops : Array Oper) (listed : Array Bool) (i : Nat) : Nat → Nat → Bool
  | 0, _ => false
  | f + 1, j => bif listed.getD j false then false else match ops[j]? with
    | none => false
    | some o => o.after.any fun e => Region.binds .any e && (e.on == i || ancL ops listed i f e.on)
theorem ancL_anc {ops : Array Oper} {listed : Array Bool} {i : Nat} : ∀ (f j : Nat), ancL ops listed i f j = true → anc ops i f j = true
  | 0, _, h => by cases h
  | f + 1, j, h => by
    unfold ancL at h
    cases hl : listed.getD j false with
    | true => rw [hl] at h; cases h
    | false =>
      rw [hl] at h
      simp only [cond_false] at h
      unfold anc
      cases ho : ops[j]? with
      | none => rw [ho] at h; cases h
      | some o =>
        rw [ho] at h
        simp only at h ⊢
        rw [Array.any_eq_true] at h ⊢
        obtain ⟨k, hk, h⟩ := h
        refine ⟨k, hk, ?_⟩
        rw [Bool.and_eq_true, Bool.or_eq_true] at h ⊢
        exact ⟨h.1, h.2.imp id (ancL_anc f _)⟩
def firstL (ops : Array Oper) (listed : Array Bool) (i : Nat) : Bool :=
  closedB ops listed && (match ops[i]? with
    | none => false
    | some oi => calmOp oi.op && (List.range ops.size).all fun j => j == i || listed.getD j true || ancL ops listed i ops.size j || (match ops[j]? with | none => true | some oj => oi.apart ops oj && calmOp oj.op)) && (Region.ready .any ops listed).contains i
theorem fbL {ops : Array Oper} {listed : Array Bool} {i : Nat} (h : firstL ops listed i = true) : firstB ops listed i = true := by
  unfold firstL at h
  unfold firstB okFirst
  cases hi : ops[i]? with
  | none => rw [hi] at h; simp at h
  | some oi =>
    rw [hi] at h
    simp only [Bool.and_eq_true] at h ⊢
    obtain ⟨⟨h1, h2, h3⟩, h4⟩ := h
    refine ⟨⟨h1, h2, ?_⟩, h4⟩
    rw [List.all_eq_true] at h3 ⊢
    intro j hj
    have := h3 j hj
    simp only [Bool.or_eq_true] at this ⊢
    rcases this with ((a | a) | a) | a
    · exact .inl (.inl (.inl a))
    · exact .inl (.inl (.inr a))
    · exact .inl (.inr (ancL_anc _ _ a))
    · exact .inr a
end Go.Mesh
/-
  A REGION THAT DRAWS ITS ORDER, THIRD PART: owned blocks that are only read from here on.
-/
set_option linter.all false
namespace Go.Mesh
open Go.RowKit
set_option linter.unusedVariables false
section
variable {P : Program} {r : Option Nat} {N : Nat} {D : List Nat} {ops : Array Oper} {h : Frag} {L : Hp} {fr : Fr} {C : Frag → Hp → Fr → Prop} {fuel : Nat} {listed : Array Bool}
def readyG (ops : Array Oper) (listed : Array Bool) : Bool :=
  !(Region.ready .any ops listed).isEmpty && (Region.ready .any ops listed).all fun i => match ops[i]? with
    | some o => o.guard.isNone
    | none => false
theorem ANY_keepM' (hr : readyG ops listed = true) (A M B : Hp) (hL : L = A ++ (M ++ B)) (x : ∀ h', le h h' → (∀ p, p ∈ M → h' p.1 = some p.2) → ANY P r N D ops (fuel + 1) listed h' (A ++ B) fr C) : ANY P r N D ops (fuel + 1) listed h L fr C := by
  subst hL
  intro a fa
  unfold readyG at hr
  rw [Bool.and_eq_true, List.all_eq_true] at hr
  refine ⟨fun e => by rw [e] at hr; simp at hr, fun i hi => ?_⟩
  have hg := hr.2 i hi
  unfold STEPa
  cases ho : ops[i]? with
  | none => rw [ho] at hg; cases hg
  | some o =>
    simp only [ho] at hg ⊢
    have hg' : o.guard = none := by simpa using hg
    simp only [Region.wanted, hg', if_true]
    intro w hw
    obtain ⟨h', e0, hm⟩ := keepAt hw
    have y := (x h' e0.le hm a fa).2 i hi
    unfold STEPa at y
    simp only [ho, Region.wanted, hg', if_true] at y
    refine Oper.wpIn_mono (fun a' w' ⟨h2, L2, k, e, hc⟩ => ⟨h2, L2, k, e0.trans e, fun hcalm w1 s => ?_⟩) (y w e0.holds)
    have s1 := hc hcalm w1 s
    refine ⟨fun b o' hb => s1.pers b o' (e0.le b o' hb), fun p hp => ?_⟩
    rcases List.mem_append.1 hp with h1 | h1
    · exact s1.own p (by simp [h1])
    · rcases List.mem_append.1 h1 with h1 | h1
      · exact s1.pers _ _ (hm p h1)
      · exact s1.own p (by simp [h1])
/-- the step of the operation at a place -/
def STEPo (P : Program) (r : Option Nat) (N : Nat) (D : List Nat) (l : List Oper) (i : Nat) (o : Oper) (h : Frag) (L : Hp) (fr : Fr) (C : Frag → Hp → Fr → Prop) : Prop := nth l i = some o → STEP P r N D l.toArray i h L fr C
variable {l : List Oper} {o : Oper} {i d : Nat} {C' : Frag → Hp → Fr → Prop}
theorem T_at (hi : nth l i = some o) (x : STEPo P r N D l i o h L fr C') : STEP P r N D l.toArray i h L fr C' := x hi
theorem T_cO (hd : o.dst = some d) (hN : Nat.blt d N = true) (hg : o.guard = none) (x : OPc P r o fr h L (fun h' M v => C' h' (M ++ L) ((d, v) :: fr))) : STEPo P r N D l i o h L fr C' := fun hi => T_c hi hd hN hg x
theorem T_wO (hd : o.dst = some d) (hN : Nat.blt d N = true) (hg : o.guard = none) (hc : calmOp o.op = false) (x : OPw P r o fr h L (fun h' L' v => C' h' L' ((d, v) :: fr))) : STEPo P r N D l i o h L fr C' := fun hi => T_w hi hd hN hg hc x
end
end Go.Mesh
/-
  A REGION THAT DRAWS ITS ORDER, FOURTH PART: the same question for a pair.
-/
set_option linter.all false
namespace Go.Mesh
open Go.RowKit
set_option linter.unusedVariables false
def firstPL (ops : Array Oper) (listed : Array Bool) (i : Nat) : Bool :=
  closedB ops listed && (match ops[i]? with
    | none => false
    | some oi => tameOp oi.op && (List.range ops.size).all fun j => j == i || listed.getD j true || ancL ops listed i ops.size j || (match ops[j]? with | none => true | some oj => oi.apart ops oj && tameOp oj.op)) && (Region.ready .any ops listed).contains i
theorem fpL {ops : Array Oper} {listed : Array Bool} {i : Nat} (h : firstPL ops listed i = true) : firstP ops listed i = true := by
  unfold firstPL at h
  unfold firstP
  cases hi : ops[i]? with
  | none => rw [hi] at h; simp at h
  | some oi =>
    rw [hi] at h
    simp only [Bool.and_eq_true] at h ⊢
    obtain ⟨⟨h1, h2, h3⟩, h4⟩ := h
    refine ⟨⟨h1, h2, ?_⟩, h4⟩
    rw [List.all_eq_true] at h3 ⊢
    intro j hj
    have := h3 j hj
    simp only [Bool.or_eq_true] at this ⊢
    rcases this with ((a | a) | a) | a
    · exact .inl (.inl (.inl a))
    · exact .inl (.inl (.inr a))
    · exact .inl (.inr (ancL_anc _ _ a))
    · exact .inr a
end Go.Mesh
/-
  A REGION THAT DRAWS ITS ORDER, FIFTH PART: what holds whatever the order is.
-/
set_option linter.all false
namespace Go.Mesh
open Go.RowKit
set_option linter.unusedVariables false
section
variable {P : Program} {r : Option Nat} {N : Nat} {D : List Nat} {C : Frag → Hp → Fr → Prop} {l : List Oper} {n : Nat} {o : Oper} {h : Frag} {L : Hp} {fr : Fr}
/-- every order comes to the end 'full' -/
def famB (ops : Array Oper) (n full : Nat) : Nat → Nat → Bool
  | 0, m => Nat.beq m full && (Region.ready .any ops (lst n m)).isEmpty
  | f + 1, m => !(Region.ready .any ops (lst n m)).isEmpty && (Region.ready .any ops (lst n m)).all fun i => famB ops n full f (m ||| 2 ^ i)
def ddN : List Nat → List Nat
  | [] => []
  | x :: l => bif (ddN l).any (Nat.beq x) then ddN l else x :: ddN l
theorem mem_ddN {x : Nat} : ∀ {l : List Nat}, x ∈ l → x ∈ ddN l
  | [], h => by cases h
  | y :: l, h => by
    unfold ddN
    cases hb : (ddN l).any (Nat.beq y) with
    | true =>
      rw [cond_true]
      rcases List.mem_cons.1 h with e | e
      · subst e
        obtain ⟨z, hz, e⟩ := List.any_eq_true.1 hb
        rw [Nat.eq_of_beq_eq_true e]; exact hz
      · exact mem_ddN e
    | false =>
      rw [cond_false]
      rcases List.mem_cons.1 h with e | e
      · subst e; exact List.mem_cons_self ..
      · exact List.mem_cons_of_mem _ (mem_ddN e)
/-- the same, set by set -/
def famC (ops : Array Oper) (n full : Nat) : Nat → List Nat → Bool
  | 0, ms => ms.all fun m => Nat.beq m full && (Region.ready .any ops (lst n m)).isEmpty
  | f + 1, ms => ms.all (fun m => !(Region.ready .any ops (lst n m)).isEmpty) && famC ops n full f (ddN (ms.flatMap fun m => (Region.ready .any ops (lst n m)).map fun i => m ||| 2 ^ i))
theorem famC_famB {ops : Array Oper} {full : Nat} : ∀ (f : Nat) (ms : List Nat), famC ops n full f ms = true → ∀ m, m ∈ ms → famB ops n full f m = true
  | 0, ms, h, m, hm => by
    unfold famC at h
    unfold famB
    exact List.all_eq_true.1 h m hm
  | f + 1, ms, h, m, hm => by
    unfold famC at h
    unfold famB
    rw [Bool.and_eq_true, List.all_eq_true] at h
    rw [Bool.and_eq_true, List.all_eq_true]
    refine ⟨h.1 m hm, fun i hi => famC_famB f _ h.2 _ (mem_ddN ?_)⟩
    exact List.mem_flatMap.2 ⟨m, hm, List.mem_map.2 ⟨i, hi, rfl⟩⟩
/-- a family of facts, one for each set of what has come up -/
theorem ANY_fam {full : Nat} (I : Nat → Frag → Hp → Fr → Prop) (hstep : ∀ m h L fr i, i ∈ Region.ready .any l.toArray (lst n m) → I m h L fr → STEP P r N D l.toArray i h L fr (fun h' L' fr' => I (m ||| 2 ^ i) h' L' fr'))
    (hfin : ∀ h L fr, I full h L fr → C h L fr) : ∀ (f m : Nat) (h : Frag) (L : Hp) (fr : Fr), famB l.toArray n full f m = true → I m h L fr → ANY P r N D l.toArray f (lst n m) h L fr C
  | 0, m, h, L, fr, hB, hI => by
    unfold famB at hB
    rw [Bool.and_eq_true] at hB
    have e := Nat.eq_of_beq_eq_true hB.1
    subst e
    intro a fa
    exact ⟨by simpa using hB.2, fr, fa, hfin h L fr hI⟩
  | f + 1, m, h, L, fr, hB, hI => by
    unfold famB at hB
    rw [Bool.and_eq_true, List.all_eq_true] at hB
    intro a fa
    refine ⟨fun e => by rw [e] at hB; simp at hB, fun i hi => ?_⟩
    rw [lst_set rfl]
    exact (hstep m h L fr i hi hI a fa).mono fun a' h' L' ⟨fr', f', k⟩ => ANY_fam I hstep hfin f _ h' L' fr' (hB.2 i hi) k a' f'
theorem T_q {v : Value} {d i : Nat} {C' : Frag → Hp → Fr → Prop} (hi : nth l i = some o) (hd : o.dst = some d) (hN : Nat.blt d N = true) (hg : o.guard = none) (q : QOP P o fr h L v) (x : C' h L ((d, v) :: fr)) : STEP P r N D l.toArray i h L fr C' := by
  intro a fa
  refine Yv.step (by rw [nth_eq] at hi; simpa using hi) (.inl ⟨by simp [Region.wanted, hg], q.1, q.2 a (fun _ _ e => fa.eval e)⟩) ⟨(d, v) :: fr, ?_, x⟩
  have := fa.put (dst := o.dst) (dstOk_of hd hN) v
  rw [hd] at this ⊢
  exact this
theorem T_w0 {i : Nat} {C' : Frag → Hp → Fr → Prop} (hi : nth l i = some o) (hd : o.dst = none) (hg : o.guard = none) (hc : calmOp o.op = false) (x : OPw P r o fr h L (fun h' L' _ => C' h' L' fr)) : STEP P r N D l.toArray i h L fr C' :=
  STEP_w (by rw [nth_eq] at hi; simpa using hi) hg hc (dstOk_none hd) (by rw [hd]; exact x)
/-- what an operation makes is only read from there on -/
theorem OPc_frozen {K : OCont} (x : OPc P r o fr h L (fun h' M v => ∀ h'', le h' h'' → (∀ p, p ∈ M → h'' p.1 = some p.2) → K h'' [] v)) : OPc P r o fr h L K := by
  intro a ha w hw
  refine Oper.wpIn_mono (fun a' w' ⟨h', M, v, e, k, z⟩ => ?_) (x a ha w hw)
  obtain ⟨h'', e0, hm⟩ := keepAt (A := []) (M := M) (B := L) z.holds
  exact ⟨h'', [], v, e, k h'' e0.le hm, z.trans e0⟩
theorem tb_set {m i j : Nat} (h : (m ||| 2 ^ i).testBit j = true) : j = i ∨ m.testBit j = true := by
  rw [Nat.testBit_or, Nat.testBit_two_pow, Bool.or_eq_true, decide_eq_true_eq] at h
  exact h.elim .inr fun e => .inl e.symm
/-- what must have come up before -/
def preB (ops : Array Oper) (n i : Nat) (js : List Nat) : Bool := js.all fun j => Nat.blt j n && (match ops[i]? with | some o => o.after.any fun e => Region.binds .any e && Nat.beq e.on j | none => false)
theorem lst_getD {m j : Nat} (hj : j < n) (d : Bool) : (lst n m).getD j d = m.testBit j := by
  simp [lst, Array.getD, hj]
theorem ready_pre {ops : Array Oper} {m i : Nat} (hi : i ∈ Region.ready .any ops (lst n m)) (js : List Nat) (hp : preB ops n i js = true) : ∀ j, j ∈ js → m.testBit j = true := by
  intro j hj
  obtain ⟨hun, o, ho, hall⟩ := mem_ready.1 hi
  unfold preB at hp
  rw [List.all_eq_true] at hp
  have h1 := hp j hj
  rw [Bool.and_eq_true, ho] at h1
  obtain ⟨h1, h2⟩ := h1
  simp only at h2
  rw [Array.any_eq_true] at h2
  obtain ⟨k, hk, h2⟩ := h2
  rw [Bool.and_eq_true] at h2
  have h3 := hall _ (Array.getElem_mem hk) h2.1
  have e := Nat.eq_of_beq_eq_true h2.2
  rw [e, lst_getD (Nat.blt_eq.mp h1)] at h3
  exact h3
theorem ready_un {ops : Array Oper} {m i : Nat} (hi : i ∈ Region.ready .any ops (lst n m)) (hn : i < n) : m.testBit i = false := by
  obtain ⟨hun, _⟩ := mem_ready.1 hi
  have : (lst n m).getD i true = false := by simpa using hun
  rwa [lst_getD hn] at this
theorem ready_lt {ops : Array Oper} {m i : Nat} (hi : i ∈ Region.ready .any ops (lst n m)) : i < ops.size := by
  obtain ⟨_, o, ho, _⟩ := mem_ready.1 hi
  exact (Array.getElem?_eq_some_iff.1 ho).1
theorem tb_mono {m i j : Nat} (h : m.testBit j = true) : (m ||| 2 ^ i).testBit j = true := by
  rw [Nat.testBit_or, h]; rfl
theorem FrSub.push {d : Nat} {v : Value} : ∀ {f fr : Fr}, FrSub f fr → get? f d = none → FrSub f ((d, v) :: fr)
  | [], _, _, _ => trivial
  | (s, u) :: f, fr, ⟨h1, h2⟩, hn => by
    rw [get?_cons] at hn
    have hsd : ¬ s = d := fun e => by rw [if_pos e] at hn; cases hn
    rw [if_neg hsd] at hn
    exact ⟨by rw [get?_cons, if_neg (Ne.symm hsd)]; exact h1, FrSub.push h2 hn⟩
end
end Go.Mesh
/-
  WHAT THE KERNEL HAS RUN, as a contract: a function that is run from what is known of memory.
-/
set_option linter.all false
namespace Go.Proofs.YtcfedojmmfbbeaaGreatDoor
open Go.Mesh Go Go.RowKit
set_option linter.all false
set_option maxRecDepth 100000
theorem run_f {h : Frag} {L : Hp} {g : FuncId} {fn : Func} {M : FuncId → List AV → St → Option (AV × St)} {s s1 : St} {av : AV} {al : List AV} {us : List Value} (hP : Tryz.prog.funcs[g]? = some fn) (hb : fn.body.isNone = false) (hM : MOk Tryz.prog M) (hs : 30 ≤ s.next) (hD : DomS s)
    (hrep : ∀ w, Holds h L w → ∃ ρ, (∀ B, Rep B w.heap.size ρ s w) ∧ (∀ n a, ρ n = some a → n < 30) ∧ DenL ρ al us)
    (e : runF Tryz.prog 311 168 M 60 (.fn g [] []) al s = some (av, s1)) : FSpec Tryz.prog g us.toArray h L (fun h' L' v => h' = h ∧ L' = L ∧ ∃ ρ, DenV ρ av v) := by
  intro w hw
  obtain ⟨ρ, hr, hlt, hda⟩ := hrep w hw
  obtain ⟨fn', first, cap, huf, hinv⟩ := runF_ok env hM 60 _ _ _ _ _ e s1.next w.heap.size ρ w _ us (hr s1.next) hD (Nat.le_refl _) (DenV.fn g .nil .nil) hda
  simp only [Value.func.injEq] at huf
  obtain ⟨rfl, rfl, rfl⟩ := huf
  have hent : (invoke (.fn (.func g) (([] : List Value).toArray)) (([] : List Value).toArray ++ us.toArray)).run Tryz.prog w = .ok (.enter g us.toArray) w := by
    have hn := env.name g _ hP
    simp only [invoke, callFunc, Sem.run_bind, run_program, Result.andThen_ok, hP]
    simp [hn, hb]
  rcases hinv with ⟨v1, w3, e1, _⟩ | ⟨f', args', e1, hcalls⟩ | ⟨l1, fn1, tm1, as1, bo1, e1, _⟩
  · rw [hent] at e1; cases e1
  · rw [hent] at e1
    simp only [Result.ok.injEq, Next.enter.injEq] at e1
    obtain ⟨⟨rfl, rfl⟩, _⟩ := e1
    refine hcalls.mono fun e w' ⟨u, he, ρ', l, du, g⟩ => ?_
    subst he
    have hun : ∀ e b, e ∈ l → ρ e.1 ≠ some b := fun e b he hr' => by
      have h1 := hlt _ _ hr'
      have h2 := g.hpf.low e he
      have h2 : 30 ≤ e.1 := h2
      omega
    have hfr : ∀ b, b < w.heap.size → w'.heap[b]? = w.heap[b]? := fun b hb => g.frame b hb fun e he => hun e b he
    refine ⟨u, h, L, rfl, ⟨rfl, rfl, ρ', du⟩, le_refl h, ⟨⟨fun b o e => ?_, fun p hp => ?_⟩, hw.nodup, hw.apart⟩, g.size, fun b hb _ => hfr b hb, fun b o e => .inl e, fun p hp => .inr (mem_ids hp), g.os, g.tape, g.output, g.drawn⟩
    · rw [hfr b (hw.pers_lt e)]; exact hw.sees.pers b o e
    · rw [hfr p.1 (hw.lt hp)]; exact hw.sees.own p hp
  · rw [hent] at e1; cases e1
/-! ### Values that name no block -/
mutual
def cvv : AV → Option Value
  | .bool b => some (.bool b)
  | .int k n => some (.int k n)
  | .str s => some (.string ⟨(s.map UInt8.ofNat).toArray⟩)
  | .lit v => some v
  | .fn f al bs => match cvs al, cvs bs with | some us, some vs => some (.func (.func f) us.toArray vs.toArray) | _, _ => none
  | .agg cs => match cvs cs with | some us => some (.agg us.toArray) | none => none
  | .tup cs => match cvs cs with | some us => some (.tuple us.toArray) | none => none
  | _ => none
def cvs : List AV → Option (List Value)
  | [] => some []
  | v :: vs => match cvv v, cvs vs with | some u, some us => some (u :: us) | _, _ => none
end
theorem bytes_back (ba : ByteArray) : (⟨((ba.data.toList.map UInt8.toNat).map UInt8.ofNat).toArray⟩ : ByteArray) = ba := by
  have : (ba.data.toList.map UInt8.toNat).map UInt8.ofNat = ba.data.toList := by
    rw [List.map_map]
    conv => rhs; rw [← List.map_id ba.data.toList]
    refine List.map_congr_left fun x _ => ?_
    simp
  rw [this]
mutual
theorem cvv_ok {ρ : Nm} : ∀ {v : AV} {u w : Value}, DenV ρ v u → cvv v = some w → u = w
  | _, _, _, .bool b, e => by simp only [cvv, Option.some.injEq] at e; exact e
  | _, _, _, .int k n, e => by simp only [cvv, Option.some.injEq] at e; exact e
  | _, _, _, .str ba, e => by simp only [cvv, Option.some.injEq, bytes_back] at e; exact e
  | _, _, _, .lit v, e => by simp only [cvv, Option.some.injEq] at e; exact e
  | _, _, _, .fn f x y, e => by
    simp only [cvv] at e
    split at e
    · rename_i us vs h1 h2
      simp only [Option.some.injEq] at e
      rw [cvs_ok x h1, cvs_ok y h2]; exact e
    · cases e
  | _, _, _, .agg x, e => by
    simp only [cvv] at e
    split at e
    · rename_i us h1
      simp only [Option.some.injEq] at e
      rw [cvs_ok x h1]; exact e
    · cases e
  | _, _, _, .tup x, e => by
    simp only [cvv] at e
    split at e
    · rename_i us h1
      simp only [Option.some.injEq] at e
      rw [cvs_ok x h1]; exact e
    · cases e
  | _, _, _, .ptr .., e => by simp only [cvv] at e; cases e
  | _, _, _, .sl .., e => by simp only [cvv] at e; cases e
  | _, _, _, .slS .., e => by simp only [cvv] at e; cases e
  | _, _, _, .ptrS .., e => by simp only [cvv] at e; cases e
  | _, _, _, .em .., e => by simp only [cvv] at e; cases e
  | _, _, _, .mp .., e => by simp only [cvv] at e; cases e
  | _, _, _, .yld .., e => by simp only [cvv] at e; cases e
  | _, _, _, .ifc .., e => by simp only [cvv] at e; cases e
theorem cvs_ok {ρ : Nm} : ∀ {vs : List AV} {us ws : List Value}, DenL ρ vs us → cvs vs = some ws → us = ws
  | _, _, _, .nil, e => by simp only [cvs, Option.some.injEq] at e; exact e
  | _, _, _, .cons x y, e => by
    simp only [cvs] at e
    split at e
    · rename_i u us h1 h2
      simp only [Option.some.injEq] at e
      rw [cvv_ok x h1, cvs_ok y h2]; exact e
    · cases e
end
/-! ### Nothing known -/
def sE : St := ⟨.lf, 0, 30, .lf, []⟩
theorem domE : DomS sE := fun n _ => rfl
def GB (h : Frag) : Prop := ∃ o, h 12 = some o
theorem GB.up {h h' : Frag} (x : GB h) (hl : le h h') : GB h' := let ⟨o, e⟩ := x; ⟨o, hl _ _ e⟩
theorem Gl.gb {h : Frag} (x : Gl h) : GB h := x.last
theorem repE {h : Frag} {L : Hp} {w : World} (hg : GB h) (hw : Holds h L w) : ∃ ρ, (∀ B, Rep B w.heap.size ρ sE w) ∧ (∀ n a, ρ n = some a → n < 30) ∧ DenL ρ [] [] := by
  obtain ⟨o, h1⟩ := hg
  have e12 := (Array.getElem?_eq_some_iff.1 (hw.sees.pers _ _ h1)).1
  let ρ : Nm := ⟨fun n => if n < 13 then some n else none, fun n => none⟩
  have hρ : ∀ n a, ρ n = some a → n < 13 ∧ a = n := fun n a e => by
    simp only [ρ] at e
    by_cases h1 : n < 13
    · rw [if_pos h1] at e; cases e; exact ⟨h1, rfl⟩
    · rw [if_neg h1] at e; cases e
  refine ⟨ρ, fun B => ⟨fun g hg => by simp [ρ, hg], fun n h1 h2 => ?_, Nat.le_refl _, Nat.le_refl _, fun n o a e r => ?_, fun n a h1 r => ?_, fun n a h1 r => ?_, fun n m o o' a h1 h2 e1 e2 r1 r2 => ?_⟩, fun n a e => by have := (hρ n a e).1; omega, .nil⟩
  · have h1 : 30 ≤ n := h1
    have q1 : ¬ n < 13 := by omega
    simp [ρ, q1]
  · cases e
  · have := (hρ n a r).1; have h1 : 30 ≤ n := h1; omega
  · obtain ⟨q1, rfl⟩ := hρ n a r
    omega
  · have := (hρ n a r1).1; have h1 : 30 ≤ n := h1; omega
theorem run_p {h : Frag} {g : FuncId} {fn : Func} {u : Value} (hg : GB h) (hP : Tryz.prog.funcs[g]? = some fn) (hb : fn.body.isNone = false) (e : (runF Tryz.prog 311 168 (cutM []) 60 (.fn g [] []) [] sE).bind (fun r => cvv r.1) = some u) : PSpec Tryz.prog g #[] h (fun _ v => v = u) := by
  obtain ⟨⟨av, s1⟩, h1, h2⟩ := Option.bind_eq_some_iff.1 e
  have hM : MOk Tryz.prog (cutM []) := cutM_ok (fun p hp => by cases hp)
  have := run_f (h := h) (L := []) (g := g) (us := []) hP hb hM (Nat.le_refl _) domE (fun w hw => repE hg hw) h1
  exact FSpec.mono this fun h' L' v _ ⟨e1, e2, ρ, d⟩ => ⟨e2, cvv_ok d h2⟩
end Go.Proofs.YtcfedojmmfbbeaaGreatDoor
/-
  CONTRACTS: the operations of the byte code; instructions that are valid.
-/
set_option linter.all false
namespace Go.Mesh
open Go.RowKit
section
variable {P : Program} {r : Option Nat} {h : Frag} {L : Hp} {fr : Fr} {o : Oper}
theorem Q_indexA {t e : TypeId} {x i : Operand} {len k : Nat} {j : Int} {l : List Value} (hop : o.op = .index t x i) (hx : ev fr x = some (.agg l.toArray)) (hi : ev fr i = some (.int .i64 j)) (hu : P.underlying t = some (.array len e)) (ht : tyOf P e = some (true, k)) (hj : 0 ≤ j ∧ j < len) : QOP P o fr h L (.agg ((l.drop (j.toNat * k)).take k).toArray) :=
  ⟨fun c => by rw [hop]; simp, fun a ha w hw => by
    unfold execOp; rw [hop]
    simp only [Instr.index, ha i _ hi, ha x _ hx, asIntOf, Sem.run_bind, Sem.run_pure, Result.andThen_ok, run_underlying' hu, Sem.run_ite, hj, and_self, if_true, run_sizeOf ht, part, run_isAgg ht, Int.toNat_natCast]
    simp [List.extract_eq_take_drop]⟩
theorem Q_nil {x : Operand} {b off : Nat} (hop : o.op = .nilCheck x) (hx : ev fr x = some (ptr b off)) : QOP P o fr h L (ptr b off) :=
  ⟨fun c => by rw [hop]; simp, fun a ha w hw => by
    unfold execOp; rw [hop]
    simp [ha x _ hx, ptr]⟩
def mx (a b : Int) : Int := if b > a then b else a
theorem Q_max3 {c : Call} {x y z : Operand} {m n q : Int} (hop : o.op = .call c) (hc : c.callee = .builtin .max) (hx : c.args = #[x, y, z]) (h1 : ev fr x = some (.int .i64 m)) (h2 : ev fr y = some (.int .i64 n)) (h3 : ev fr z = some (.int .i64 q)) : QOP P o fr h L (.int .i64 (mx (mx m n) q)) :=
  ⟨fun d => by rw [hop]; simp, fun a ha w hw => by
    unfold execOp; rw [hop]
    have e : ∀ m n : Int, (Builtin.max2 (.int .i64 m) (.int .i64 n)).run P w = .ok (.int .i64 (mx m n)) w := fun m n => by
      by_cases hlt : n > m <;> simp [Builtin.max2, mx, hlt]
    simp [resolve, hc, hx, invoke, builtin, ha x _ h1, ha y _ h2, ha z _ h3, Builtin.max_, e]⟩
theorem pretKall {fn : Func} {R : Frag → Value → Prop} {e : Exit} {rs : List ResultVar} {vs : List Value} (he : e = .ret ∨ e = .normal) (hrs : fn.results.toList = rs) (hr : resVals P h L fr rs vs) (x : ∀ h', le h h' → (∀ p, p ∈ L → h' p.1 = some p.2) → R h' (resOf vs)) : retQ P fn (fun h' L' v => L' = [] ∧ R h' v) e h L [] fr :=
  pretKM [] L [] (by simp) he hrs hr x
theorem Q_eqS {t u : TypeId} {x y : Operand} {m n : ByteArray} (hop : o.op = .binOp .eql t x y u) (hx : ev fr x = some (.string m)) (hy : ev fr y = some (.string n)) : QOP P o fr h L (.bool (m.toList == n.toList)) :=
  ⟨fun c => by rw [hop]; simp, fun a ha w hw => by
    unfold execOp; rw [hop]
    simp only [ha x _ hx, ha y _ hy, eqGuard, binOp, Sem.run_bind]
    simp [Op.stringOp]⟩
end
end Go.Mesh
namespace Go.Proofs.YtcfedojmmfbbeaaGreatDoor
open Go.Mesh Go.RowKit
set_option maxRecDepth 100000
set_option linter.unusedVariables false
set_option maxHeartbeats 4000000
attribute [local irreducible] WP OPS ANY ANYo LG LV FSpec PSpec QOP OPc OPw thenQ blockQ roundQ roundF retQ retM Rd At SLB OS 
theorem arr181 : Tryz.prog.underlying 181 = some (.array 26 180) := by kernel_rfl
/-- an operation: its name, the greatest operands, the least one, what it pops and pushes, whether it counts, its text -/
abbrev OpR := List Nat × Int × Int × Int × Int × Int × Bool × Nat
def opT : List OpR := [([112, 117, 115, 104], 2305843009213693951, 0, -2305843009213693952, 0, 1, false, 108), ([110, 105, 108], 0, 0, 0, 0, 1, false, 0), ([116, 104, 105, 115], 0, 0, 0, 0, 1, false, 0), ([108, 111, 97, 100], 29, 0, 0, 0, 1, false, 108), ([115, 116, 111, 114, 101], 29, 0, 0, 1, 0, false, 108), ([112, 111, 112], 0, 0, 0, 1, 0, false, 0), ([102, 105, 101, 108, 100], 1023, 0, 0, 1, 1, false, 109), ([111, 119, 110], 29, 0, 0, 0, 1, false, 108), ([115, 101, 116, 102, 105, 101, 108, 100], 1023, 0, 0, 2, 0, false, 109), ([115, 101, 116, 111, 119, 110], 29, 0, 0, 1, 0, false, 108), ([110, 101, 119], 60, 30, 1, 0, 1, true, 110), ([110, 101, 119, 97, 116], 60, 30, 1, 1, 1, true, 110), ([119, 101, 97, 107], 0, 0, 0, 1, 1, false, 0), ([103, 101, 116], 0, 0, 0, 1, 1, false, 0), ([110, 101, 103], 0, 0, 0, 1, 1, false, 0), ([110, 111, 116], 0, 0, 0, 1, 1, false, 0), ([98, 105, 110, 97, 114, 121], 10, 0, 0, 2, 1, false, 111), ([116, 114, 117, 116, 104], 0, 0, 0, 1, 1, false, 0), ([106, 117, 109, 112], 4000, 0, 0, 0, 0, false, 108), ([106, 117, 109, 112, 102, 97, 108, 115, 101], 4000, 0, 0, 1, 0, false, 108), ([106, 117, 109, 112, 116, 114, 117, 101], 4000, 0, 0, 1, 0, false, 108), ([115, 101, 110, 100], 1023, 8, 0, 1, 0, true, 112), ([112, 114, 105, 110, 116], 0, 0, 0, 1, 0, false, 0), ([109, 111, 118, 101], 0, 0, 0, 2, 0, false, 0), ([119, 97, 116, 99, 104], 1023, 0, 0, 2, 0, false, 109), ([114, 101, 116, 117, 114, 110], 0, 0, 0, 0, 0, false, 0)]
def rowOf (r : OpR) : List Value := [.string ⟨(r.1.map UInt8.ofNat).toArray⟩, .int .i64 r.2.1, .int .i64 r.2.2.1, .int .i64 r.2.2.2.1, .int .i64 r.2.2.2.2.1, .int .i64 r.2.2.2.2.2.1, .bool r.2.2.2.2.2.2.1, if r.2.2.2.2.2.2.2 = 0 then .nilFunc else .func (.func r.2.2.2.2.2.2.2) #[] #[]]
def opsL : List Value := opT.flatMap rowOf
def opsV : Value := .agg opsL.toArray
theorem ops_runs : (runF Tryz.prog 311 168 (cutM []) 60 (.fn 64 [] []) [] sE).bind (fun r => cvv r.1) = some opsV := by kernel_rfl
theorem rows_get : ∀ {T : List OpR} {k : Nat} {r : OpR}, T[k]? = some r → ((T.flatMap rowOf).drop (k * 8)).take 8 = rowOf r
  | [], _, _, e => by simp at e
  | q :: T, 0, r, e => by
    simp at e; subst e
    simp only [List.flatMap_cons, Nat.zero_mul, List.drop_zero]
    rfl
  | q :: T, k + 1, r, e => by
    have := rows_get (T := T) (k := k) (r := r) (by simpa using e)
    rw [List.flatMap_cons, Nat.add_mul, Nat.one_mul, Nat.add_comm, ← List.drop_drop]
    exact this
def opr (n : Int) : OpR := (opT[n.toNat]?).getD ([], 0, 0, 0, 0, 0, false, 0)
def onm (n : Int) : ByteArray := ⟨((opr n).1.map UInt8.ofNat).toArray⟩
def omost (n : Int) : Int := (opr n).2.1
def oargs (n : Int) : Int := (opr n).2.2.1
def oleast (n : Int) : Int := (opr n).2.2.2.1
def opops (n : Int) : Int := (opr n).2.2.2.2.1
def opush (n : Int) : Int := (opr n).2.2.2.2.2.1
def ocnt (n : Int) : Bool := (opr n).2.2.2.2.2.2.1
def otext (n : Int) : Value := if (opr n).2.2.2.2.2.2.2 = 0 then .nilFunc else .func (.func (opr n).2.2.2.2.2.2.2) #[] #[]
def opc (n : Int) : List Value := [.string (onm n), .int .i64 (omost n), .int .i64 (oargs n), .int .i64 (oleast n), .int .i64 (opops n), .int .i64 (opush n), .bool (ocnt n), otext n]
theorem opc_eq {n : Int} (h : 0 ≤ n ∧ n < 26) : ((opsL.drop (n.toNat * 8)).take 8) = opc n := by
  have hl : opT.length = 26 := rfl
  have hlt : n.toNat < opT.length := by omega
  have e : opT[n.toNat]? = some (opr n) := by rw [opr, List.getElem?_eq_getElem hlt]; rfl
  exact rows_get e
theorem opc_ones (n : Int) : ones (opc n) = true := by
  have : (otext n).oneCell' = true := by unfold otext; split <;> rfl
  simp [opc, ones, this]
  exact ⟨rfl, rfl, rfl, rfl, rfl, rfl, rfl⟩
theorem opT_ok : opT.all (fun r => !r.1.isEmpty && (r.1.all fun x => decide (x < 256)) && decide (0 ≤ r.2.2.2.2.1 ∧ r.2.2.2.2.1 ≤ 2 ∧ 0 ≤ r.2.2.2.2.2.1 ∧ r.2.2.2.2.2.1 ≤ 1 ∧ 0 ≤ r.2.2.1 ∧ r.2.2.1 ≤ 30)) = true := by decide
theorem opr_mem {n : Int} (h : 0 ≤ n ∧ n < 26) : opr n ∈ opT := by
  have hl : opT.length = 26 := rfl
  have hlt : n.toNat < opT.length := by omega
  rw [opr, List.getElem?_eq_getElem hlt]; exact List.getElem_mem hlt
theorem opr_ok {n : Int} (h : 0 ≤ n ∧ n < 26) : ((onm n).toList == (⟨#[]⟩ : ByteArray).toList) = false ∧ 0 ≤ opops n ∧ opops n ≤ 2 ∧ 0 ≤ opush n ∧ opush n ≤ 1 ∧ 0 ≤ oargs n ∧ oargs n ≤ 30 := by
  have := List.all_eq_true.1 opT_ok _ (opr_mem h)
  simp only [Bool.and_eq_true, Bool.not_eq_true', decide_eq_true_eq] at this
  obtain ⟨⟨h1, _⟩, h2⟩ := this
  refine ⟨?_, h2⟩
  rw [ByteArray.toList_eq, ByteArray.toList_eq, onm]
  cases hq : (opr n).1 with
  | nil => rw [hq] at h1; cases h1
  | cons a l => rfl
section
variable {P : Program} {r : Option Nat} {h : Frag} {L : Hp} {fr : Fr} {o : Oper}
theorem Q_indexOp {x i : Operand} {n : Int} (hop : o.op = .index 181 x i) (hx : ev fr x = some opsV) (hi : ev fr i = some (.int .i64 n)) (hn : 0 ≤ n ∧ n < 26) : QOP Tryz.prog o fr h L (.agg (opc n).toArray) := by
  have := Q_indexA (P := Tryz.prog) (h := h) (L := L) (l := opsL) hop hx hi arr181 (ty rfl) hn
  rwa [opc_eq hn] at this
end
theorem oleast10 : oleast 10 = 1 := rfl
theorem oleast11 : oleast 11 = 1 := rfl
attribute [local irreducible] opsL opsV onm omost oargs oleast opops opush ocnt otext
theorem ops_s {h : Frag} (hg : GB h) : PSpec Tryz.prog 64 #[] h (fun _ v => v = opsV) := run_p hg Tryz.func64 rfl ops_runs
end Go.Proofs.YtcfedojmmfbbeaaGreatDoor
