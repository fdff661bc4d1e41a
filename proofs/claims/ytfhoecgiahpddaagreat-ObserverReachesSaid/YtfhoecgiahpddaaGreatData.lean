/-
  HOW Go's DATA LIE IN MEMORY, as the observer proofs read them: slices whose elements have k cells, each read by a relation.
-/
import Derived.Test.YtfhoecgiahpddaaGreatRules
import Derived.Laws.StructEq
set_option linter.all false
namespace Go.Mesh
open Go.RowKit


/-- A relation between data and cells that what is not written keeps. -/
abbrev CR (α : Type) := Frag → α → List Value → Prop
def CMono {α : Type} (C : CR α) : Prop := ∀ h h' x vs, le h h' → C h x vs → C h' x vs

/-- The slice v reads as xs (at most B), its elements of k cells by C. -/
def SLB {α : Type} (B : Nat) (h : Frag) (k : Nat) (C : CR α) (v : Value) (xs : List α) : Prop :=
  xs.length ≤ B ∧ ((∃ p cap, v = .slice p 0 cap ∧ xs = []) ∨
    ∃ b off cap, v = .slice (some ⟨b, off, none⟩) xs.length cap ∧ ∀ (i : Nat) x, xs[i]? = some x → ∃ vs, vs.length = k ∧ ones vs = true ∧ C h x vs ∧ At h b (off + i * k) vs)

/-- .. and it is not too long to be copied -/
abbrev SL {α : Type} (h : Frag) (k : Nat) (C : CR α) (v : Value) (xs : List α) : Prop := SLB 4398046511104 h k C v xs
section
variable {α : Type} {h h' : Frag} {B k : Nat} {C : CR α} {v : Value} {xs : List α}
theorem SLB.mono (x : SLB B h k C v xs) (hl : le h h') (hc : CMono C) : SLB B h' k C v xs := by
  obtain ⟨hm, x⟩ := x
  refine ⟨hm, x.imp id ?_⟩
  rintro ⟨b, off, cap, e, g⟩
  refine ⟨b, off, cap, e, fun i x hx => ?_⟩
  obtain ⟨vs, h1, h2, h3, h4⟩ := g i x hx
  exact ⟨vs, h1, h2, hc _ _ _ _ hl h3, h4.mono hl⟩
theorem SLB.slice (x : SLB B h k C v xs) : ∃ p cap, v = .slice p xs.length cap := by
  obtain ⟨_, ⟨p, cap, e, rfl⟩ | ⟨b, off, cap, e, _⟩⟩ := x
  · exact ⟨p, cap, e⟩
  · exact ⟨_, cap, e⟩
theorem SLB.elem (x : SLB B h k C v xs) {i : Nat} {y : α} (hy : xs[i]? = some y) : ∃ b off cap vs, v = .slice (some ⟨b, off, none⟩) xs.length cap ∧ i < xs.length ∧ vs.length = k ∧ ones vs = true ∧ C h y vs ∧ At h b (off + i * k) vs := by
  obtain ⟨_, ⟨p, cap, e, rfl⟩ | ⟨b, off, cap, e, g⟩⟩ := x
  · simp at hy
  · obtain ⟨vs, h1, h2, h3, h4⟩ := g i y hy
    exact ⟨b, off, cap, vs, e, (List.getElem?_eq_some_iff.1 hy).1, h1, h2, h3, h4⟩
theorem SLB.le (x : SLB B h k C v xs) : xs.length ≤ B := x.1
theorem SLB.one (x : SLB B h k C v xs) : v.oneCell' = true ∧ v.cells = #[v] := by
  obtain ⟨p, cap, rfl⟩ := x.slice; exact ⟨rfl, rfl⟩
theorem Q_lenS {P : Program} {fr : Fr} {o : Oper} {L : Hp} {c : Call} {x : Operand} {t e : TypeId} (hop : o.op = .call c) (hc : c.callee = .builtin .len) (ha : c.args = #[x]) (hat : c.argTypes = #[t]) (hx : ev fr x = some v) (ht : P.underlying t = some (.slice e))
    (s : SLB B h k C v xs) : QOP P o fr h L (.int .i64 (xs.length : Int)) := by
  obtain ⟨p, cap, rfl⟩ := s.slice
  exact Q_len hop hc ha hat hx ht
end

/-! ### Identities and values -/
abbrev ID := Int × Int
def idc (x : ID) : List Value := [.int .i64 x.1, .int .i64 x.2]
def IDC : CR ID := fun _ x vs => vs = idc x
theorem IDC_mono : CMono IDC := fun _ _ _ _ _ e => e
abbrev Val := Int × Int × ID
def vlc (x : Val) : List Value := [.int .i64 x.1, .int .i64 x.2.1, .int .i64 x.2.2.1, .int .i64 x.2.2.2]
def ValC : CR Val := fun _ x vs => vs = vlc x
theorem ValC_mono : CMono ValC := fun _ _ _ _ _ e => e

/-- '==' at the type t, of the cells cl. -/
def EqAt {α : Type} [DecidableEq α] (P : Program) (t : TypeId) (cl : α → List Value) : Prop :=
  P.eqGuardType P.depth t = false ∧ ∀ (w : World) (x y : α), (Op.equalIn 10000 t (.agg (cl x).toArray) (.agg (cl y).toArray)).run P w = .ok (decide (x = y)) w
section
variable {α : Type} [DecidableEq α] {P : Program} {fr : Fr} {o : Oper} {h : Frag} {L : Hp} {cl : α → List Value} {t u : TypeId} {x y : Operand} {a b : α}
theorem Q_eqA (e : EqAt P t cl) (hop : o.op = .binOp .eql t x y u) (hx : ev fr x = some (.agg (cl a).toArray)) (hy : ev fr y = some (.agg (cl b).toArray)) : QOP P o fr h L (.bool (decide (a = b))) :=
  ⟨fun c => by rw [hop]; simp, fun ac ha w _ => by
    unfold execOp; rw [hop]
    simp only [ha x _ hx, ha y _ hy, Sem.run_bind, run_eqGuard_agg w _ _ _ _ _ _ e.1, Result.andThen_ok, run_eql_struct, e.2 w a b]
    simp⟩
theorem Q_neA (e : EqAt P t cl) (hop : o.op = .binOp .neq t x y u) (hx : ev fr x = some (.agg (cl a).toArray)) (hy : ev fr y = some (.agg (cl b).toArray)) : QOP P o fr h L (.bool (!decide (a = b))) :=
  ⟨fun c => by rw [hop]; simp, fun ac ha w _ => by
    unfold execOp; rw [hop]
    simp only [ha x _ hx, ha y _ hy, Sem.run_bind, run_eqGuard_agg w _ _ _ _ _ _ e.1, Result.andThen_ok, run_neq_struct, e.2 w a b]
    simp⟩
end
section
variable {P : Program} {fr : Fr} {o : Oper} {h : Frag} {L : Hp} {t u : TypeId} {x y : Operand} {l m : List Value} {a1 a2 a3 a4 b1 b2 b3 b4 : Int}
theorem Q_eqI (e : EqAt P t idc) (hop : o.op = .binOp .eql t x y u) (hx : ev fr x = some (.agg l.toArray)) (hy : ev fr y = some (.agg m.toArray)) (hl : l = [.int .i64 a1, .int .i64 a2]) (hm : m = [.int .i64 b1, .int .i64 b2]) : QOP P o fr h L (.bool (decide ((a1, a2) = (b1, b2)))) := by
  subst hl; subst hm; exact Q_eqA (a := (a1, a2)) (b := (b1, b2)) e hop hx hy
theorem Q_neI (e : EqAt P t idc) (hop : o.op = .binOp .neq t x y u) (hx : ev fr x = some (.agg l.toArray)) (hy : ev fr y = some (.agg m.toArray)) (hl : l = [.int .i64 a1, .int .i64 a2]) (hm : m = [.int .i64 b1, .int .i64 b2]) : QOP P o fr h L (.bool (!decide ((a1, a2) = (b1, b2)))) := by
  subst hl; subst hm; exact Q_neA (a := (a1, a2)) (b := (b1, b2)) e hop hx hy
theorem Q_eqV (e : EqAt P t vlc) (hop : o.op = .binOp .eql t x y u) (hx : ev fr x = some (.agg l.toArray)) (hy : ev fr y = some (.agg m.toArray)) (hl : l = [.int .i64 a1, .int .i64 a2, .int .i64 a3, .int .i64 a4]) (hm : m = [.int .i64 b1, .int .i64 b2, .int .i64 b3, .int .i64 b4]) :
    QOP P o fr h L (.bool (decide ((a1, a2, (a3, a4)) = (b1, b2, (b3, b4))))) := by
  subst hl; subst hm; exact Q_eqA (a := (a1, a2, (a3, a4))) (b := (b1, b2, (b3, b4))) e hop hx hy
theorem Q_neV (e : EqAt P t vlc) (hop : o.op = .binOp .neq t x y u) (hx : ev fr x = some (.agg l.toArray)) (hy : ev fr y = some (.agg m.toArray)) (hl : l = [.int .i64 a1, .int .i64 a2, .int .i64 a3, .int .i64 a4]) (hm : m = [.int .i64 b1, .int .i64 b2, .int .i64 b3, .int .i64 b4]) :
    QOP P o fr h L (.bool (!decide ((a1, a2, (a3, a4)) = (b1, b2, (b3, b4))))) := by
  subst hl; subst hm; exact Q_neA (a := (a1, a2, (a3, a4))) (b := (b1, b2, (b3, b4))) e hop hx hy
end
end Go.Mesh
