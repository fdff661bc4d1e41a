/-
  RANGES OVER FUNCTIONS, over a state; the end of a function that holds such a statement.
-/
import Derived.Test.YtfhoecgiahpddaaGreatFk
import Derived.Test.YtfhoecgiahpddaaGreatUb
set_option linter.all false
namespace Go.Mesh
open Go.RowKit
section
variable {P : Program} {r : Option Nat} {N : Nat} {h : Frag} {L : Hp} {D : List Nat} {fr : Fr}
theorem WP_dropQ {c : Code} {Q : Post} (x : WP P r N c h L D fr (fun e h' L' D' fr' => ∃ L2, List.Sublist L2 L' ∧ Q e h' L2 D' fr')) : WP P r N c h L D fr Q :=
  fun a w fa hw => wpIn_mono (x a w fa hw) fun _ _ _ ⟨h', _, D', fr', ⟨L2, hs, q⟩, f, e⟩ => ⟨h', L2, D', fr', q, f, e.drop hs⟩
theorem WP_perm {c : Code} {Q : Post} {L2 : Hp} (hp : L.Perm L2) (x : WP P r N c h L2 D fr Q) : WP P r N c h L D fr Q :=
  fun a w fa hw => wpIn_mono (x a w fa (hw.perm hp.symm)) fun _ _ _ ⟨h', L', D', fr', q, f, e⟩ => ⟨h', L', D', fr', q, f, e.of_perm hp⟩
/-- what a round over a state must come to -/
def bodyS {α σ : Type} (A B : Hp) (Mf : σ → Hp) (Inv : List α → Frag → σ → Prop) (Ix : Exit → Frag → Hp → Prop) (pre : List α) : Post := bodyQ (fun pre h L => ∃ s, List.Sublist (A ++ (Mf s ++ B)) L ∧ Inv pre h s) Ix pre
theorem bodyS_n {α σ : Type} {A B : Hp} {Mf : σ → Hp} {Inv : List α → Frag → σ → Prop} {Ix : Exit → Frag → Hp → Prop} {pre : List α} (s : σ) (hi : Inv pre h s) (hs : List.Sublist (A ++ (Mf s ++ B)) L) : bodyS A B Mf Inv Ix pre .normal h L D fr := ⟨s, hs, hi⟩
theorem bodyS_r {α σ : Type} {A B : Hp} {Mf : σ → Hp} {Inv : List α → Frag → σ → Prop} {Ix : Exit → Frag → Hp → Prop} {pre : List α} (x : Ix .ret h L) : bodyS A B Mf Inv Ix pre .ret h L D fr := x
theorem bodyS_e {α σ : Type} {A B : Hp} {Mf : σ → Hp} {Inv : List α → Frag → σ → Prop} {Ix : Exit → Frag → Hp → Prop} {pre : List α} {id : Nat} (x : Ix (.exit id) h L) : bodyS A B Mf Inv Ix pre (.exit id) h L D fr := x
theorem WP_rangeS {α σ : Type} {go : Operand} {ps : Array Tmp} {assign body : Code} {g : FuncId} {cap : Array Value} {fn : Func} {enc : Frag → α → Array Value → Prop} {items : List α} {Q : Post}
    (A B : Hp) (Mf : σ → Hp) (Inv : List α → Frag → σ → Prop) (Ix : Exit → Frag → Hp → Prop) (s0 : σ) (it : Iter P g cap h enc items)
    (hf : ev fr go = some (.func (.func g) #[] cap)) (hfn : P.funcs[g]? = some fn) (hn : fn.name ≠ "runtime.NumGoroutine") (hb : fn.body.isSome = true) (henc : ∀ h x vals, enc h x vals → vals.size = ps.size) (hps : parOk N ps.toList = true)
    (hL : L = A ++ (Mf s0 ++ B)) (h0 : Inv [] h s0)
    (round : ∀ l pre x vals h' s, le h h' → Inv pre h' s → (pre ++ [x]) <+: items → enc h' x vals → WP P (some l) N assign h' (A ++ (Mf s ++ B)) [] (parFr fr ps.toList vals.toList)
      (thenQ (fun h'' L'' D'' fr'' => D'' = [] ∧ WP P (some l) N body h'' L'' [] fr'' (bodyS A B Mf Inv Ix (pre ++ [x]))) (fun _ _ _ _ _ => False)))
    (done : ∀ d h' s, le h h' → Inv items h' s → Q .normal h' (A ++ (Mf s ++ (B ++ [dObj d]))) (d :: D) fr)
    (left : ∀ d e h' L', le h h' → Ix e h' L' → (jumpOf e).isSome = true → Q e h' (L' ++ [dObj d]) (d :: D) fr) : WP P none N (.rangeFunc go ps assign body) h L D fr Q := by
  refine WP_dropQ (WP_rangeFunc hf hfn hn hb it henc hps (fun pre h L => ∃ s, List.Sublist (A ++ (Mf s ++ B)) L ∧ Inv pre h s) Ix ⟨s0, by rw [hL]; exact List.Sublist.refl _, h0⟩ ?_ ?_ ?_)
  · rintro l pre x vals h' L' hl ⟨s, hs, hi⟩ hp he
    exact WP.drop hs (round l pre x vals h' s hl hi hp he)
  · rintro d h' L' hl ⟨s, hs, hi⟩
    refine ⟨_, ?_, done d h' s hl hi⟩
    have := hs.append (List.Sublist.refl [dObj d])
    simpa [dObj] using this
  · intro d e h' L' hl hx hj
    exact ⟨_, List.Sublist.refl _, left d e h' L' hl hx hj⟩
theorem Q_sliceTo {o : Oper} {t e k by_ : Nat} {s x : Operand} {b n cap : Nat} {q : IntKind} {i : Int} (u : Nat) (hop : o.op = .slice t s none (some x) none) (hs : ev fr s = some (.slice (some ⟨b, 0, none⟩) n cap)) (he : elemOf? P t = some (e, k, by_)) (hx : ev fr x = some (.int q i)) (hi : i = (u : Int)) (huc : u ≤ cap) (hc : 0 < cap) :
    QOP P o fr h L (.slice (some ⟨b, 0, none⟩) u cap) := by
  subst hi
  have := Q_slice (P := P) (h := h) (L := L) (l := 0) hop hs he rfl ⟨q, hx⟩ (Nat.zero_le _) huc hc
  simpa using this
/-- the end of a function that holds such statements -/
def retN (P : Program) (fn : Func) (R : OCont) : Post := fun e h' L' D' fr' => (e = .ret ∨ e = .normal) ∧ ∃ vs L2, List.Sublist (L2 ++ D'.map dObj) L' ∧ resVals P h' L2 fr' fn.results.toList vs ∧ ∀ w, Holds h' L2 w → ∃ h3 L3, Ext h' L2 w h3 L3 w ∧ R h3 L3 (resOf vs)
theorem spec_ofN {f : FuncId} {fn : Func} {c : Code} {vs : List Value} {args : Array Value} {R : OCont} (hf : P.funcs[f]? = some fn) (hn : fn.ntmps = N) (hb : fn.body = some c) (ha : args = vs.toArray) (hN : Nat.ble vs.length N = true)
    (x : WP P none N c h L [] (argFr vs 0) (retN P fn R)) : FSpec P f args h L R := by
  refine spec_ofM hf hn hb ha hN fun a w fa hw => wpIn_mono (x a w fa hw) ?_
  rintro e a' w' ⟨h', L', D', fr', ⟨he, us, L2, hs, hr, q⟩, f, y⟩
  exact ⟨h', _, D', fr', ⟨he, us, L2, rfl, hr, q⟩, f, y.drop hs⟩
theorem pspec_ofN {f : FuncId} {fn : Func} {c : Code} {vs : List Value} {R : Frag → Value → Prop} (hf : P.funcs[f]? = some fn) (hn : fn.ntmps = N) (hb : fn.body = some c) (hN : Nat.ble vs.length N = true)
    (x : WP P none N c h [] [] (argFr vs 0) (retN P fn (fun h' L' v => L' = [] ∧ R h' v))) : PSpec P f vs.toArray h R := spec_ofN hf hn hb rfl hN x
theorem nret {fn : Func} {R : OCont} {e : Exit} {rs : List ResultVar} {vs : List Value} (L2 : Hp) (hs : List.Sublist (L2 ++ D.map dObj) L) (he : e = .ret ∨ e = .normal) (hrs : fn.results.toList = rs) (hr : resVals P h L2 fr rs vs) (x : R h L2 (resOf vs)) : retN P fn R e h L D fr :=
  ⟨he, vs, L2, hs, by rw [hrs]; exact hr, fun _ hw => ⟨h, L2, Ext.refl hw, x⟩⟩
theorem nretP {fn : Func} {R : Frag → Value → Prop} {e : Exit} {rs : List ResultVar} {vs : List Value} (L2 : Hp) (hs : List.Sublist (L2 ++ D.map dObj) L) (he : e = .ret ∨ e = .normal) (hrs : fn.results.toList = rs) (hr : resVals P h L2 fr rs vs) (x : R h (resOf vs)) : retN P fn (fun h' L' v => L' = [] ∧ R h' v) e h L D fr :=
  ⟨he, vs, L2, hs, by rw [hrs]; exact hr, fun _ hw => ⟨h, [], (Ext.refl hw).drop (List.nil_sublist _), rfl, x⟩⟩
theorem nretK {fn : Func} {R : Frag → Value → Prop} {e : Exit} {rs : List ResultVar} {vs : List Value} (A M B : Hp) (hs : List.Sublist ((A ++ (M ++ B)) ++ D.map dObj) L) (he : e = .ret ∨ e = .normal) (hrs : fn.results.toList = rs) (hr : resVals P h (A ++ (M ++ B)) fr rs vs) (x : ∀ h', le h h' → (∀ p, p ∈ M → h' p.1 = some p.2) → R h' (resOf vs)) : retN P fn (fun h' L' v => L' = [] ∧ R h' v) e h L D fr :=
  ⟨he, vs, _, hs, by rw [hrs]; exact hr, fun w hw => by
    obtain ⟨h', e, hm⟩ := keepAt hw
    exact ⟨h', [], e.drop (List.nil_sublist _), rfl, x h' e.le hm⟩⟩
theorem Iter.up {α : Type} {g : FuncId} {cap : Array Value} {h' : Frag} {enc : Frag → α → Array Value → Prop} {items : List α} (x : Iter P g cap h enc items) (hl : le h h') : Iter P g cap h' enc items := fun l J Jx h0 L0 hl0 => x l J Jx h0 L0 (le_trans hl hl0)
end
attribute [local irreducible] retN bodyS
end Go.Mesh
