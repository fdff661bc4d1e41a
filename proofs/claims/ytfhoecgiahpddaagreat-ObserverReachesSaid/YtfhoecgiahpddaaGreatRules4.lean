/-
  RULES FOR THE WALKER, SECOND PART: fixed results of calls, undecided choices; identities and whole numbers as keys of maps.
-/
import Derived.Test.YtfhoecgiahpddaaGreatRules3
set_option linter.all false
namespace Go.Mesh
open Go.RowKit
set_option linter.unusedVariables false
section
variable {P : Program} {r : Option Nat} {N : Nat} {h : Frag} {L : Hp} {D : List Nat} {fr : Fr} {o : Oper} {K : OCont} {ops : Array Oper} {rest l : List Oper} {C : Frag → Hp → Fr → Prop} {fuel n m i : Nat}
theorem C_callv {c : Call} {f : FuncId} {vs : List Value} {v : Value} (x : PSpec P f vs.toArray h (fun _ u => u = v)) (hop : o.op = .call c) (hc : c.callee = .value (.func f)) (hvs : evs fr c.args.toList vs) (hcal : callOk P f = true) (k : K h [] v) : OPc P r o fr h L K :=
  C_call0 x hop hc hvs hcal fun u e => by subst e; exact k
theorem yielded_un {a : Act} (fa : FrOk N D fr a) {j : Nat} {oj : Oper} {d : Nat} (hj : ops[j]? = some oj) (hd : oj.dst = some d) (hv : get? fr d = some undef) : yielded ops a.tmps j = none := by
  simp [yielded, hj, hd, fa.slots d _ hv, undef]
/-- a guard that was not asked itself -/
theorem S_gu {d j dj : Nat} {want : Bool} {oj : Oper} (hd : o.dst = some d) (hN : Nat.blt d N = true) (hg : o.guard = some (j, want)) (hj : ops[j]? = some oj) (hdj : oj.dst = some dj) (hv : get? fr dj = some undef)
    (x : OPS P r N D ops rest h L ((d, undef) :: fr) C) : OPS P r N D ops (o :: rest) h L fr C := by
  intro a w fa hw
  have hy := yielded_un (ops := ops) fa hj hdj hv
  have hne : ((none : Option Bool) == some want) = false := by cases want <;> rfl
  simp only [wpListIn, Region.wanted, hg, hy, hne, Bool.false_eq_true, if_false]
  refine ⟨fun _ _ => trivial, ?_⟩
  rw [hd]
  exact x _ _ (fa.put (dst := some d) hN undef) hw
theorem A_gu {d i j dj m' : Nat} {want : Bool} {oj : Oper} (hd : o.dst = some d) (hN : Nat.blt d N = true) (hg : o.guard = some (j, want)) (hj : nth l j = some oj) (hdj : oj.dst = some dj) (hv : get? fr dj = some undef)
    (hm : m ||| 2 ^ i = m') (hf : firstB l.toArray (lst n m) i = true) (x : ANY P r N D l.toArray fuel (lst n m') h L ((d, undef) :: fr) C) : ANYo P r N D l (fuel + 1) n m i o h L fr C := by
  intro hi a fa
  obtain ⟨h1, h2, h3, h4⟩ := first_parts hi hf
  have hj' : l.toArray[j]? = some oj := by rw [nth_eq] at hj; simpa using hj
  have hy := yielded_un (ops := l.toArray) fa hj' hdj hv
  have x' : ANY P r N D l.toArray fuel ((lst n m).setIfInBounds i true) h L (putd fr o.dst undef) C := by rw [hd, lst_set hm]; exact x
  exact ANYa_first hi h2 fuel (lst n m) a h L h1 h4 h3 (.inr ⟨by simp only [Region.wanted, hg, hy]; cases want <;> rfl, rfl⟩) (x' _ (fa.put (dstOk_of hd hN) undef))
theorem pretKM {fn : Func} {R : Frag → Value → Prop} {e : Exit} {rs : List ResultVar} {vs : List Value} (A M B : Hp) (hL : L = A ++ (M ++ B)) (he : e = .ret ∨ e = .normal) (hrs : fn.results.toList = rs) (hr : resVals P h L fr rs vs) (x : ∀ h', le h h' → (∀ p, p ∈ M → h' p.1 = some p.2) → R h' (resOf vs)) : retQ P fn (fun h' L' v => L' = [] ∧ R h' v) e h L [] fr :=
  ⟨he, rfl, vs, by rw [hrs]; exact hr, fun w hw => by
    subst hL
    obtain ⟨h', e, hm⟩ := keepAt hw
    exact ⟨h', [], e.drop (List.nil_sublist _), rfl, x h' e.le hm⟩⟩
theorem W_callB {c : Call} {f : FuncId} {vs : List Value} {R : Value → Prop} {M : Hp} (A B : Hp) (x : ∀ h', le h h' → (∀ p, p ∈ M → h' p.1 = some p.2) → PSpec P f vs.toArray h' (fun _ v => R v)) (hop : o.op = .call c) (hc : c.callee = .value (.func f)) (hvs : evs fr c.args.toList vs) (hcal : callOk P f = true) (hL : L = A ++ (M ++ B))
    (k : ∀ v, R v → K h (A ++ (M ++ B)) v) : OPw P r o fr h L K :=
  W_callF A B (PSpec.lend x) hop hc hvs hcal hL fun h' M' v _ ⟨e1, e2, q⟩ => by subst e1; subst e2; exact k v q
theorem W_callBv {c : Call} {f : FuncId} {vs : List Value} {v : Value} {M : Hp} (A B : Hp) (x : ∀ h', le h h' → (∀ p, p ∈ M → h' p.1 = some p.2) → PSpec P f vs.toArray h' (fun _ u => u = v)) (hop : o.op = .call c) (hc : c.callee = .value (.func f)) (hvs : evs fr c.args.toList vs) (hcal : callOk P f = true) (hL : L = A ++ (M ++ B))
    (k : K h (A ++ (M ++ B)) v) : OPw P r o fr h L K :=
  W_callB A B x hop hc hvs hcal hL fun u e => by subst e; exact k
theorem YSpec.wide {l : Nat} {args : Array Value} {R : OCont} {M : Hp} (A B : Hp) (x : YSpec P l args h M R) : YSpec P l args h (A ++ (M ++ B)) (fun h' L' v => ∃ M', L' = A ++ (M' ++ B) ∧ R h' M' v) := by
  intro w hw
  have hp : (M ++ (A ++ B)).Perm (A ++ (M ++ B)) := (List.perm_append_comm_assoc A M B).symm
  have hw2 := hw.perm hp
  obtain ⟨fn, tmps, assign, body, h1, h2⟩ := x w (hw2.drop (List.sublist_append_left _ _))
  refine ⟨fn, tmps, assign, body, h1, h2.mono fun e w' ⟨v, h', L', he, q, y⟩ => ⟨v, h', A ++ (L' ++ B), he, ⟨L', rfl, q⟩, ?_⟩⟩
  exact ((y.framed hw2).of_perm hp.symm).perm (List.perm_append_comm_assoc A L' B)
theorem W_yield {c : Call} {l : Nat} {fo : Operand} {vs : List Value} {R : OCont} {M : Hp} (A B : Hp) (x : YSpec P l vs.toArray h M R) (hop : o.op = .call c) (hc : c.callee = .value fo) (hf : ev fr fo = some (.func (.yield l) #[] #[])) (hvs : evs fr c.args.toList vs) (hL : L = A ++ (M ++ B))
    (k : ∀ h' M' v, le h h' → R h' M' v → K h' (A ++ (M' ++ B)) v) : OPw P r o fr h L K := by
  subst hL
  exact OPw_yield hop hc hf hvs (x.wide A B) fun h' L' v hl ⟨M', e, q⟩ => by subst e; exact k h' M' v hl q
theorem S_gw {d j dj : Nat} {want : Bool} {oj : Oper} (hd : o.dst = some d) (hN : Nat.blt d N = true) (hg : o.guard = some (j, want)) (hj : ops[j]? = some oj) (hdj : oj.dst = some dj) (hv : get? fr dj = some (.bool want))
    (x : OPw P r o fr h L (fun h' L' v => OPS P r N D ops rest h' L' ((d, v) :: fr) C)) : OPS P r N D ops (o :: rest) h L fr C :=
  OPS_gw hg hj hdj hv (dstOk_of hd hN) (by rw [hd]; exact x)
theorem S_psplit {d : Nat} {x y : Operand} {b : Bool} (hop : o.op = .pick (.tmp d) x y) (hv : get? fr d = some (.bool b)) (t : b = true → OPS P r N D ops (o :: rest) h L ((d, .bool true) :: fr) C) (f : b = false → OPS P r N D ops (o :: rest) h L ((d, .bool false) :: fr) C) : OPS P r N D ops (o :: rest) h L fr C :=
  S_split hv t f
theorem A_psplit {d : Nat} {x y : Operand} {b : Bool} (hop : o.op = .pick (.tmp d) x y) (hv : get? fr d = some (.bool b))
    (t : b = true → ANY P r N D l.toArray fuel (lst n m) h L ((d, .bool true) :: fr) C) (f : b = false → ANY P r N D l.toArray fuel (lst n m) h L ((d, .bool false) :: fr) C) : ANYo P r N D l fuel n m i o h L fr C :=
  fun _ => A_split hv t f
end
theorem SLB.none_nil {α : Type} {B : Nat} {h : Frag} {k n c : Nat} {C : CR α} {xs : List α} (s : SLB B h k C (.slice none n c) xs) : xs = [] := by
  obtain ⟨_, ⟨_, _, e, rfl⟩ | ⟨b, off, cap', e, _⟩⟩ := s
  · rfl
  · simp at e
theorem OS.lit0 {α : Type} (h : Frag) (e k : Nat) (C : CR α) (b : Nat) : OS h e k C (.slice (some ⟨b, 0, none⟩) 0 0) [] [(b, cells [] e)] := ⟨[], Row.lit (by simp), rfl⟩
def idv (x : ID) : Value := .agg (idc x).toArray
def itv (x : Int) : Value := .int .i64 x
theorem key_id {l : List Value} {a b : Int} {fr : Fr} {y : Operand} (hy : ev fr y = some (.agg l.toArray)) (hl : l = [.int .i64 a, .int .i64 b] := by rfl) : ev fr y = some (idv (a, b)) := by rw [hy, hl]; rfl
abbrev IsMapP {κ : Type} (kc : κ → Value) (h : Frag) (b : Nat) (ps : List (κ × Value)) : Prop := h b = some (mapObj kc ps)
theorem IsMapP.up {κ : Type} {kc : κ → Value} {h h' : Frag} {b : Nat} {ps : List (κ × Value)} (x : IsMapP kc h b ps) (hl : le h h') : IsMapP kc h' b ps := hl _ _ x
section
variable {κ : Type} [DecidableEq κ] {P : Program} {r : Option Nat} {h : Frag} {L : Hp} {fr : Fr} {o : Oper} {K : OCont} {kc : κ → Value} {t kt et b : Nat} {x y : Operand} {k : κ} {ps : List (κ × Value)} {z v : Value}
theorem Q_lookupS (hop : o.op = .lookup t x y false) (hx : ev fr x = some (.map (some b))) (hy : ev fr y = some (kc k)) (kl : KeyLaw P kt kc) (ht : P.underlying t = some (.map kt et)) (hz : zvOf P et = some z) (hm : IsMap h L b (mapObj kc ps)) (hg : mget k ps = some v) : QOP P o fr h L v := by
  have := Q_lookup hop hx hy kl ht hz hm; rw [hg] at this; exact this
theorem Q_lookupN (hop : o.op = .lookup t x y false) (hx : ev fr x = some (.map (some b))) (hy : ev fr y = some (kc k)) (kl : KeyLaw P kt kc) (ht : P.underlying t = some (.map kt et)) (hz : zvOf P et = some z) (hm : IsMap h L b (mapObj kc ps)) (hg : mget k ps = none) : QOP P o fr h L z := by
  have := Q_lookup hop hx hy kl ht hz hm; rw [hg] at this; exact this
theorem Q_lookupOkS (hop : o.op = .lookup t x y true) (hx : ev fr x = some (.map (some b))) (hy : ev fr y = some (kc k)) (kl : KeyLaw P kt kc) (ht : P.underlying t = some (.map kt et)) (hz : zvOf P et = some z) (hm : IsMap h L b (mapObj kc ps)) (hg : mget k ps = some v) : QOP P o fr h L (.tuple #[v, .bool true]) := by
  have := Q_lookupOk hop hx hy kl ht hz hm; rw [hg] at this; exact this
theorem Q_lookupOkN (hop : o.op = .lookup t x y true) (hx : ev fr x = some (.map (some b))) (hy : ev fr y = some (kc k)) (kl : KeyLaw P kt kc) (ht : P.underlying t = some (.map kt et)) (hz : zvOf P et = some z) (hm : IsMap h L b (mapObj kc ps)) (hg : mget k ps = none) : QOP P o fr h L (.tuple #[z, .bool false]) := by
  have := Q_lookupOk hop hx hy kl ht hz hm; rw [hg] at this; exact this
theorem C_makeMapK (kl : KeyLaw P kt kc) (hop : o.op = .makeMap t none) (ht : P.underlying t = some (.map kt et)) (k : ∀ b, K h [(b, mapObj kc [])] (.map (some b))) : OPc P r o fr h L K := C_makeMap kc hop k
end
theorem mget_mput {κ : Type} [DecidableEq κ] (k k' : κ) (v : Value) : ∀ ps : List (κ × Value), mget k' (mput k v ps) = if k = k' then some v else mget k' ps
  | [] => by simp [mput, mget]
  | (q, u) :: ps => by
    simp only [mput]
    split
    · rename_i h; subst h; simp only [mget]; split <;> rfl
    · rename_i h
      simp only [mget, mget_mput k k' v ps]
      split
      · rename_i h2; subst h2; simp [Ne.symm h, fun e : k = q => h e.symm]
      · rfl
end Go.Mesh
namespace Go.Proofs.YtfhoecgiahpddaaGreat
open Go.Mesh Go.RowKit
set_option maxRecDepth 100000
theorem zvo {t : Nat} {z : Value} (h : zvOf Tryz.prog t = some z) : zvOf Tryz.prog t = some z := h
theorem itk : KeyLaw Tryz.prog 3 itv := by
  have h3 : Tryz.prog.underlying 3 = some (.int .i64) := by kernel_rfl
  refine ⟨fun w b k => ?_, fun w k ps => ?_, fun k => ?_⟩
  · rw [show (10000 : Nat) = 9999 + 1 from rfl, Instr.checkKey]
    simp [run_underlying' h3, itv]
  · have key : ∀ (ps : List (Int × Value)) (j : Nat), Instr.findNow (.int .i64) (itv k) (ent itv j ps) j = some (fidx k j ps) := by
      intro ps
      induction ps with
      | nil => intro j; rfl
      | cons p ps ih =>
        intro j
        obtain ⟨k', v⟩ := p
        have := ih (j + 1)
        simp only [ent, fidx, Instr.findNow, itv] at this ⊢
        by_cases hk : k' = k
        · subst hk; simp [Instr.sameNow]
        · have hk2 : ¬ k = k' := fun e => hk e.symm
          have hb : (k == k') = false := by simpa using hk2
          simp [Instr.sameNow, hk, hb, this]
    simp [Instr.findKey, run_underlying' h3, key ps 0]
  · simp [Instr.sameBits, itv]
theorem idk : KeyLaw Tryz.prog 35 idv := by
  have hf : Tryz.prog.underlying 35 = some (.struct (Tryz.prog.fieldsOf 35)) := by kernel_rfl
  have ht : tyOf Tryz.prog 3 = some (false, 1) := by kernel_rfl
  have h3 : Tryz.prog.underlying 3 = some (.int .i64) := by kernel_rfl
  have hfs : (Tryz.prog.fieldsOf 35).toList = [{ name := "Machine", type := 3, offset := 0, embedded := false, tag := "", pkgPath := "", byteOffset := 0 }, { name := "Serial", type := 3, offset := 1, embedded := false, tag := "", pkgPath := "", byteOffset := 8 }] := by kernel_rfl
  refine ⟨fun w b k => ?_, fun w k ps => ?_, fun k => ?_⟩
  · have hin : ∀ x : Int, (Instr.checkKey b 9999 3 (.int .i64 x)).run Tryz.prog w = .ok () w := fun x => by
      rw [show (9999 : Nat) = 9998 + 1 from rfl, Instr.checkKey]
      simp [run_underlying' h3]
    rw [show (10000 : Nat) = 9999 + 1 from rfl, Instr.checkKey]
    simp only [Sem.run_bind, run_underlying' hf, Result.andThen_ok, idv, idc]
    rw [← Array.forIn_toList, hfs]
    simp [part, run_isAgg ht, hin, asAgg]
  · have key : ∀ (ps : List (ID × Value)) (j : Nat), (Instr.findAsking 35 (idv k) (ent idv j ps) j).run Tryz.prog w = .ok (fidx k j ps) w := by
      intro ps
      induction ps with
      | nil => intro j; rfl
      | cons p ps ih =>
        intro j
        obtain ⟨k', v⟩ := p
        have := ih (j + 1)
        have he := eqIDIn 9998 w k' k
        have he2 := eqIDIn 9998 w k k'
        simp only [ent, fidx, Instr.findAsking, Op.equal, Op.maxDepth, Sem.run_bind]
        by_cases hk : k' = k
        · subst hk
          simp [idv, he]
        · have hk2 : ¬ k = k' := fun e => hk e.symm
          simp only [idv] at this ⊢
          simp [he, he2, hk, hk2, this]
    have hnow : ∀ (ps : List (ID × Value)) , Instr.findNow (.struct (Tryz.prog.fieldsOf 35)) (idv k) (ent idv 0 ps) 0 = none ∨ ps = [] := by
      intro ps
      cases ps with
      | nil => exact .inr rfl
      | cons p ps => left; simp [ent, Instr.findNow, Instr.sameNow, idv]
    simp only [Instr.findKey, Sem.run_bind, run_underlying' hf, Result.andThen_ok]
    rcases hnow ps with hn | rfl
    · rw [hn]; exact key ps 0
    · simp [ent, Instr.findNow, fidx]
  · simp [Instr.sameBits, idv, idc]
end Go.Proofs.YtfhoecgiahpddaaGreat
