/-
  Part MAF of the proof's ground: Types, Own, Rules3, Rules4.
-/
import Derived.Test.YtcfedojmmfbbeaaGreatDoorMAE
/-
  THE DATA OF COMPILED PROGRAMS: instructions, methods, classes, and how their cells lie.
-/
set_option linter.all false
namespace Go.Mesh
open Go.RowKit

structure Ins where
  op : Int
  a : Int
  b : Int
structure Meth where
  params : Int
  locals : Int
  code : List Ins
  names : List ByteArray
structure Cls where
  actor : Bool
  fields : List ByteArray
  methods : List Meth
def IntC : CR Int := fun _ x vs => vs = [.int .i64 x]
theorem IntC_mono : CMono IntC := fun _ _ _ _ _ e => e
def StrC : CR ByteArray := fun _ x vs => vs = [.string x]
theorem StrC_mono : CMono StrC := fun _ _ _ _ _ e => e
def inI64 (n : Int) : Prop := -9223372036854775808 ≤ n ∧ n ≤ 9223372036854775807
def insc (x : Ins) : List Value := [.int .i64 x.op, .int .i64 x.a, .int .i64 x.b]
def InsC : CR Ins := fun _ x vs => (inI64 x.op ∧ inI64 x.a ∧ inI64 x.b) ∧ vs = insc x
theorem InsC_mono : CMono InsC := fun _ _ _ _ _ e => e
def MethC (B : Nat) : CR Meth := fun h m vs => inI64 m.params ∧ inI64 m.locals ∧ ∃ s p c q d, vs = [.string s, .int .i64 m.params, .int .i64 m.locals, .slice p m.code.length c, .slice q m.names.length d] ∧ SLB B h 3 InsC (.slice p m.code.length c) m.code ∧ SLB B h 1 StrC (.slice q m.names.length d) m.names
theorem MethC_mono (B : Nat) : CMono (MethC B) := fun _ _ _ _ hl ⟨i1, i2, s, p, c, q, d, e, s1, s2⟩ => ⟨i1, i2, s, p, c, q, d, e, s1.mono hl InsC_mono, s2.mono hl StrC_mono⟩
def ClsC (B : Nat) : CR Cls := fun h x vs => ∃ s p c q d, vs = [.string s, .bool x.actor, .slice p x.fields.length c, .slice q x.methods.length d] ∧ SLB B h 1 StrC (.slice p x.fields.length c) x.fields ∧ SLB B h 5 (MethC B) (.slice q x.methods.length d) x.methods
theorem ClsC_mono (B : Nat) : CMono (ClsC B) := fun _ _ _ _ hl ⟨s, p, c, q, d, e, s1, s2⟩ => ⟨s, p, c, q, d, e, s1.mono hl StrC_mono, s2.mono hl (MethC_mono B)⟩
end Go.Mesh
/-
  WHAT A ROW OF CELLS READS AS, and slices that are owned, with what they read as.
-/
set_option linter.all false
namespace Go.Mesh
open Go.RowKit

section
variable {α : Type} {h h' : Frag} {B k : Nat} {C : CR α}
def Flat (h : Frag) (k : Nat) (C : CR α) : List α → List Value → Prop
  | [], us => us = []
  | x :: xs, us => ∃ vs ws, us = vs ++ ws ∧ vs.length = k ∧ ones vs = true ∧ C h x vs ∧ Flat h k C xs ws
theorem Flat.mono (hl : le h h') (hc : CMono C) : ∀ {xs : List α} {us : List Value}, Flat h k C xs us → Flat h' k C xs us
  | [], _, e => e
  | _ :: _, _, ⟨vs, ws, e1, e2, e3, e4, e5⟩ => ⟨vs, ws, e1, e2, e3, hc _ _ _ _ hl e4, Flat.mono hl hc e5⟩
theorem Flat.length : ∀ {xs : List α} {us : List Value}, Flat h k C xs us → us.length = xs.length * k
  | [], _, e => by cases e; simp
  | x :: xs, _, ⟨vs, ws, e1, e2, _, _, e5⟩ => by subst e1; have := Flat.length e5; simp [e2, this, Nat.add_mul]; omega
theorem Flat.ones : ∀ {xs : List α} {us : List Value}, Flat h k C xs us → Mesh.ones us = true
  | [], _, e => by cases e; rfl
  | x :: xs, _, ⟨vs, ws, e1, _, e3, _, e5⟩ => by subst e1; exact ones_append e3 (Flat.ones e5)
theorem Flat.append : ∀ {xs ys : List α} {us ws : List Value}, Flat h k C xs us → Flat h k C ys ws → Flat h k C (xs ++ ys) (us ++ ws)
  | [], _, _, _, e, f => by cases e; exact f
  | x :: xs, ys, _, ws', ⟨vs, ws, e1, e2, e3, e4, e5⟩, f => ⟨vs, ws ++ ws', by subst e1; simp, e2, e3, e4, Flat.append e5 f⟩
theorem Flat.one {x : α} {vs : List Value} (h1 : vs.length = k) (h2 : Mesh.ones vs = true) (h3 : C h x vs) : Flat h k C [x] vs := ⟨vs, [], by simp, h1, h2, h3, rfl⟩
theorem Flat.nil : Flat h k C [] [] := rfl
theorem Flat.get : ∀ {xs : List α} {us : List Value} {i : Nat} {x : α}, Flat h k C xs us → xs[i]? = some x → ∃ vs, vs.length = k ∧ Mesh.ones vs = true ∧ C h x vs ∧ ∀ (j : Nat) (v : Value), vs[j]? = some v → us[i * k + j]? = some v
  | [], _, _, _, _, hx => by simp at hx
  | y :: xs, _, 0, x, ⟨vs, ws, e1, e2, e3, e4, _⟩, hx => by
    simp at hx; subst hx; subst e1
    refine ⟨vs, e2, e3, e4, fun j v hv => ?_⟩
    have hlt := (List.getElem?_eq_some_iff.1 hv).1
    rw [Nat.zero_mul, Nat.zero_add, List.getElem?_append_left hlt]; exact hv
  | y :: xs, _, i + 1, x, ⟨vs, ws, e1, e2, _, _, e5⟩, hx => by
    subst e1
    obtain ⟨us, h1, h2, h3, h4⟩ := Flat.get (i := i) e5 (by simpa using hx)
    refine ⟨us, h1, h2, h3, fun j v hv => ?_⟩
    have := h4 j v hv
    rw [List.getElem?_append_right (by rw [e2, Nat.add_mul]; omega)]
    rw [show (i + 1) * k + j - vs.length = i * k + j by rw [e2, Nat.add_mul]; omega]
    exact this
theorem SLB.of_flat {b off cap : Nat} {arr : Array Value} {t : TypeId} {fz : Nat × Nat} {xs : List α} {us : List Value} (hb : h b = some (.cells arr t fz)) (hf : Flat h k C xs us) (hu : ∀ (j : Nat) (v : Value), us[j]? = some v → arr[off + j]? = some v) (hm : xs.length ≤ B) : SLB B h k C (.slice (some ⟨b, off, none⟩) xs.length cap) xs := by
  refine ⟨hm, .inr ⟨b, off, cap, rfl, fun i x hx => ?_⟩⟩
  obtain ⟨vs, h1, h2, h3, h4⟩ := hf.get hx
  exact ⟨vs, h1, h2, h3, arr, t, fz, hb, fun j v hv => by rw [Nat.add_assoc]; exact hu _ _ (h4 j v hv)⟩
theorem SLB.of_block {b cap : Nat} {t : TypeId} {xs : List α} {us rest : List Value} (hb : h b = some (cells (us ++ rest) t)) (hf : Flat h k C xs us) (hm : xs.length ≤ B) : SLB B h k C (.slice (some ⟨b, 0, none⟩) xs.length cap) xs :=
  SLB.of_flat hb hf (fun j v hv => by
    have hlt := (List.getElem?_eq_some_iff.1 hv).1
    simp [List.getElem?_append_left hlt, hv]) hm
theorem SLB.nil (B : Nat) (h : Frag) (k : Nat) (C : CR α) (p : Option Addr) (cap : Nat) : SLB B h k C (.slice p 0 cap) [] := ⟨by simp, .inl ⟨p, cap, rfl, rfl⟩⟩
/-- all the cells of a slice -/
theorem SLB.flat {v : Value} {xs : List α} (x : SLB B h k C v xs) : ∃ p cap us, v = .slice p xs.length cap ∧ Flat h k C xs us ∧ (xs = [] ∨ ∃ b off, p = some ⟨b, off, none⟩ ∧ At h b off us) := by
  obtain ⟨_, ⟨p, cap, e, rfl⟩ | ⟨b, off, cap, e, g⟩⟩ := x
  · exact ⟨p, cap, [], e, rfl, .inl rfl⟩
  · have key : ∀ (ys : List α) (o : Nat), (∀ (i : Nat) y, ys[i]? = some y → ∃ vs, vs.length = k ∧ Mesh.ones vs = true ∧ C h y vs ∧ At h b (o + i * k) vs) → ∃ us, Flat h k C ys us ∧ (ys = [] ∨ At h b o us) := by
      intro ys
      induction ys with
      | nil => intro o _; exact ⟨[], rfl, .inl rfl⟩
      | cons y ys ih =>
        intro o hg
        obtain ⟨vs, h1, h2, h3, h4⟩ := hg 0 y rfl
        obtain ⟨us, f, a⟩ := ih (o + k) (fun i z hz => by
          obtain ⟨vs, h1, h2, h3, h4⟩ := hg (i + 1) z (by simpa using hz)
          exact ⟨vs, h1, h2, h3, by rw [Nat.add_mul, Nat.one_mul, Nat.add_comm (i * k), ← Nat.add_assoc] at h4; exact h4⟩)
        refine ⟨vs ++ us, ⟨vs, us, rfl, h1, h2, h3, f⟩, .inr ?_⟩
        obtain ⟨arr, t, fz, hb, hc⟩ := h4
        simp only [Nat.zero_mul, Nat.add_zero] at hc
        rcases a with rfl | ⟨arr', t', fz', hb', hc'⟩
        · cases f; exact ⟨arr, t, fz, hb, by simpa using hc⟩
        · rw [hb] at hb'; cases hb'
          refine ⟨arr, t, fz, hb, fun j v hv => ?_⟩
          rw [List.getElem?_append] at hv
          split at hv
          · exact hc j v hv
          · have := hc' _ v hv
            rw [show o + k + (j - vs.length) = o + j by omega] at this
            exact this
    obtain ⟨us, f, a⟩ := key xs off g
    exact ⟨_, cap, us, e, f, a.imp id fun a => ⟨b, off, rfl, a⟩⟩

/-- An owned slice that reads as xs. -/
def OS (h : Frag) (e k : Nat) (C : CR α) (v : Value) (xs : List α) (M : Hp) : Prop := ∃ us, Row e k v xs.length us M ∧ Flat h k C xs us
theorem OS.mono {e : Nat} {v : Value} {xs : List α} {M : Hp} (x : OS h e k C v xs M) (hl : le h h') (hc : CMono C) : OS h' e k C v xs M := let ⟨us, r, f⟩ := x; ⟨us, r, f.mono hl hc⟩
theorem OS.nil (h : Frag) (e k : Nat) (C : CR α) : OS h e k C (.slice none 0 0) [] [] := ⟨[], Row.nil e k, rfl⟩
theorem OS.slice {e : Nat} {v : Value} {xs : List α} {M : Hp} (x : OS h e k C v xs M) : ∃ p cap, v = .slice p xs.length cap := let ⟨_, r, _⟩ := x; r.slice
theorem OS.sl {e : Nat} {v : Value} {xs : List α} {M : Hp} (x : OS h e k C v xs M) (hl : le h h') (hc : CMono C) (hm : ∀ p, p ∈ M → h' p.1 = some p.2) (hx : xs.length ≤ B) : SLB B h' k C v xs := by
  obtain ⟨us, ⟨hu, ⟨rfl, h0, _⟩ | ⟨b, cap, rest, rfl, rfl, _, _⟩⟩, f⟩ := x
  · have : xs = [] := List.eq_nil_of_length_eq_zero h0
    subst this; exact SLB.nil _ _ _ _ _ _
  · exact SLB.of_block (hm (b, cells (us ++ rest) e) (by simp)) (f.mono hl hc) hx

variable {P : Program} {r : Option Nat} {L : Hp} {fr : Fr} {o : Oper} {K : OCont}
/-- append(xs, ys...), xs owned -/
theorem W_appendS {c : Call} {s x : Operand} {t e by_ : Nat} {v u : Value} {xs ys : List α} {z : List Value} {M : Hp} (L2 L3 : Hp) (hos : OS h e k C v xs M) (hsl : SLB B h k C u ys) (hop : o.op = .call c) (hc : c.callee = .builtin .append) (ha : c.args = #[s, x]) (hat : c.argTypes = #[t, t])
    (hs : ev fr s = some v) (hx : ev fr x = some u) (he : elemOf? P t = some (e, k, by_)) (hz : zeroOf P e = some z) (hzk : z.length = k) (hL : L = L2 ++ M) (hs3 : List.Sublist L3 L2)
    (hb : (xs.length + ys.length) * by_ ≤ 140737488355328) (hnm : xs.length + ys.length ≤ 9223372036854775807) (kk : ∀ v' M', OS h e k C v' (xs ++ ys) M' → K h (L3 ++ M') v') : OPw P r o fr h L K := by
  obtain ⟨us, hrow, hf⟩ := hos
  obtain ⟨p, cap, ws, rfl, hfy, hat2⟩ := hsl.flat
  refine W_append (p := p) (cc := cap) (ws := ws) L2 L3 hop hc ha hat hs hx he hz hzk hrow hL hs3 ?_ hfy.length hfy.ones hb hnm fun v' M' hr => kk v' M' ⟨us ++ ws, by simpa using hr, hf.append hfy⟩
  rcases hat2 with rfl | ⟨b, off, rfl, hat2⟩
  · exact .inl rfl
  · exact .inr ⟨b, off, rfl, Rd.pers hat2⟩
/-- append(xs, y): the block of the one element stands at the head of what is owned -/
theorem W_append1 {c : Call} {s x : Operand} {t e by_ b : Nat} {v : Value} {xs : List α} {y : α} {vs z : List Value} {M : Hp} (L2 : Hp) (hos : OS h e k C v xs M) (hop : o.op = .call c) (hc : c.callee = .builtin .append) (ha : c.args = #[s, x]) (hat : c.argTypes = #[t, t])
    (hs : ev fr s = some v) (hx : ev fr x = some (.slice (some ⟨b, 0, none⟩) 1 1)) (he : elemOf? P t = some (e, k, by_)) (hz : zeroOf P e = some z) (hzk : z.length = k) (hL : L = (b, cells vs e) :: (L2 ++ M)) (hvs : vs.length = k) (h1 : ones vs = true) (hy : C h y vs)
    (hb : (xs.length + 1) * by_ ≤ 140737488355328) (hnm : xs.length + 1 ≤ 9223372036854775807) (kk : ∀ v' M', OS h e k C v' (xs ++ [y]) M' → K h (L2 ++ M') v') : OPw P r o fr h L K := by
  obtain ⟨us, hrow, hf⟩ := hos
  refine W_append (ws := vs) ((b, cells vs e) :: L2) L2 hop hc ha hat hs hx he hz hzk hrow hL (List.sublist_cons_self _ _) (.inr ⟨b, 0, rfl, ?_⟩) (by simpa using hvs) h1 hb hnm fun v' M' hr => kk v' M' ⟨us ++ vs, by simpa using hr, hf.append (Flat.one hvs h1 hy)⟩
  rw [hL]; exact Rd.own (List.Mem.head _)
end
end Go.Mesh
/-
  RULES FOR THE WALKER: slices by what they read as; loops over a state; calls that borrow or hand over what is owned; closures.
-/
set_option linter.all false
namespace Go.Mesh
open Go.RowKit
set_option linter.unusedVariables false

class CM {α : Type} (C : CR α) : Prop where
  mono : CMono C
instance : CM IDC := ⟨IDC_mono⟩
instance : CM ValC := ⟨ValC_mono⟩
instance : CM IntC := ⟨IntC_mono⟩
instance : CM StrC := ⟨StrC_mono⟩
instance : CM InsC := ⟨InsC_mono⟩
instance (B : Nat) : CM (MethC B) := ⟨MethC_mono B⟩
instance (B : Nat) : CM (ClsC B) := ⟨ClsC_mono B⟩

def blk : Value → Nat
  | .slice (some a) _ _ => a.block
  | _ => 0
def ofs : Value → Nat
  | .slice (some a) _ _ => a.off
  | _ => 0

section
variable {α : Type} {h h' : Frag} {B k j : Nat} {C : CR α} {v : Value} {xs : List α} {x : α} {P : Program} {L : Hp} {fr : Fr} {o : Oper}
theorem SLB.up [c : CM C] (s : SLB B h k C v xs) (hl : Mesh.le h h') : SLB B h' k C v xs := s.mono hl c.mono
theorem OS.up [c : CM C] {e : Nat} {M : Hp} (s : OS h e k C v xs M) (hl : le h h') : OS h' e k C v xs M := s.mono hl c.mono
theorem At.up {b off : Nat} {vs : List Value} (x : At h b off vs) (hl : le h h') : At h' b off vs := x.mono hl
theorem SLB.narrow {B' : Nat} (s : SLB B h k C v xs) (hl : xs.length ≤ B') : SLB B' h k C v xs := ⟨hl, s.2⟩
theorem SLB.at (s : SLB B h k C v xs) (hx : xs[j]? = some x) : (∃ b off cap, v = .slice (some ⟨b, off, none⟩) xs.length cap) ∧ j < xs.length ∧ ∃ vs, vs.length = k ∧ ones vs = true ∧ C h x vs ∧ At h (blk v) (ofs v + j * k) vs := by
  obtain ⟨b, off, cap, vs, rfl, h1, h2, h3, h4, h5⟩ := s.elem hx
  exact ⟨⟨b, off, cap, rfl⟩, h1, vs, h2, h3, h4, h5⟩
theorem Q_indexS {t e by_ : Nat} {sl ix : Operand} {q : IntKind} {i : Int} (s : SLB B h k C v xs) (hx : xs[j]? = some x) (hop : o.op = .indexAddr t sl ix) (hs : ev fr sl = some v) (hi : ev fr ix = some (.int q i)) (he : elemOf? P t = some (e, k, by_)) (hj : i = (j : Int)) : QOP P o fr h L (ptr (blk v) (ofs v + j * k)) := by
  obtain ⟨⟨b, off, cap, rfl⟩, h1, _⟩ := s.at hx
  exact Q_index hop hs hi he hj h1
/-- a load out of known cells -/
def LV (P : Program) (vs : List Value) (fo : Nat) (t : TypeId) (K : Value → Prop) : Prop :=
  (∃ k, tyOf P t = some (true, k) ∧ ((vs.drop fo).take k).length = k ∧ K (.agg ((vs.drop fo).take k).toArray)) ∨ (∃ k v, tyOf P t = some (false, k) ∧ vs[fo]? = some v ∧ K v)
theorem LV_a {vs : List Value} {fo : Nat} {t : TypeId} {K : Value → Prop} {k : Nat} (ht : tyOf P t = some (true, k)) (hk : ((vs.drop fo).take k).length = k) (kk : K (.agg ((vs.drop fo).take k).toArray)) : LV P vs fo t K := .inl ⟨k, ht, hk, kk⟩
theorem LV_1 {vs : List Value} {fo : Nat} {t : TypeId} {K : Value → Prop} {k : Nat} {u : Value} (ht : tyOf P t = some (false, k)) (hv : vs[fo]? = some u) (kk : K u) : LV P vs fo t K := .inr ⟨k, u, ht, hv, kk⟩
theorem LV.lg {b off fo : Nat} {vs : List Value} {t : TypeId} {K : Value → Prop} (x : Rd h L b off vs) (l : LV P vs fo t K) : LG P h L b (off + fo) t K := by
  rcases l with ⟨k, ht, hk, kk⟩ | ⟨k, v, ht, hv, kk⟩
  · exact L_sub x ht hk kk
  · exact L_fld x ht hv kk
theorem L_elA {t : TypeId} {K : Value → Prop} (s : SLB B h k C v xs) (hx : xs[j]? = some x) (ht : tyOf P t = some (true, k)) (kk : ∀ vs, vs.length = k → ones vs = true → C h x vs → K (.agg vs.toArray)) : LG P h L (blk v) (ofs v + j * k) t K := by
  obtain ⟨_, _, vs, h1, h2, h3, h4⟩ := s.at hx
  exact L_agg (Rd.pers h4) ht h1 (kk vs h1 h2 h3)
theorem L_el1 {t k' : Nat} {K : Value → Prop} (s : SLB B h 1 C v xs) (hx : xs[j]? = some x) (ht : tyOf P t = some (false, k')) (kk : ∀ u, C h x [u] → K u) : LG P h L (blk v) (ofs v + j * 1) t K := by
  obtain ⟨_, _, vs, h1, h2, h3, h4⟩ := s.at hx
  match vs, h1, h3, h4 with
  | [u], _, h3, h4 => exact L_one (Rd.pers h4) ht (kk u h3)
theorem L_elF {fo : Nat} {t : TypeId} {K : Value → Prop} (s : SLB B h k C v xs) (hx : xs[j]? = some x) (kk : ∀ vs, vs.length = k → ones vs = true → C h x vs → LV P vs fo t K) : LG P h L (blk v) (ofs v + j * k + fo) t K := by
  obtain ⟨_, _, vs, h1, h2, h3, h4⟩ := s.at hx
  exact LV.lg (Rd.pers h4) (kk vs h1 h2 h3)
theorem L_elF2 {f1 f2 : Nat} {t : TypeId} {K : Value → Prop} (s : SLB B h k C v xs) (hx : xs[j]? = some x) (kk : ∀ vs, vs.length = k → ones vs = true → C h x vs → LV P vs (f1 + f2) t K) : LG P h L (blk v) (ofs v + j * k + f1 + f2) t K := by
  rw [Nat.add_assoc]; exact L_elF s hx kk
theorem L_elF3 {f1 f2 f3 : Nat} {t : TypeId} {K : Value → Prop} (s : SLB B h k C v xs) (hx : xs[j]? = some x) (kk : ∀ vs, vs.length = k → ones vs = true → C h x vs → LV P vs (f1 + f2 + f3) t K) : LG P h L (blk v) (ofs v + j * k + f1 + f2 + f3) t K := by
  rw [Nat.add_assoc (ofs v + j * k + f1), Nat.add_assoc (ofs v + j * k), ← Nat.add_assoc f1]; exact L_elF s hx kk
theorem L_fld2 {b off f1 f2 : Nat} {vs : List Value} {t : TypeId} {K : Value → Prop} (x : Rd h L b off vs) (kk : LV P vs (f1 + f2) t K) : LG P h L b (off + f1 + f2) t K := by
  rw [Nat.add_assoc]; exact kk.lg x
theorem L_fld3 {b off f1 f2 f3 : Nat} {vs : List Value} {t : TypeId} {K : Value → Prop} (x : Rd h L b off vs) (kk : LV P vs (f1 + f2 + f3) t K) : LG P h L b (off + f1 + f2 + f3) t K := by
  rw [Nat.add_assoc (off + f1), Nat.add_assoc off, ← Nat.add_assoc f1]; exact kk.lg x
/-- an owned slice -/
theorem OS.at {e : Nat} {M : Hp} (s : OS h e k C v xs M) (hx : xs[j]? = some x) : (∃ b cap, v = .slice (some ⟨b, 0, none⟩) xs.length cap) ∧ j < xs.length ∧ ∃ vs, vs.length = k ∧ ones vs = true ∧ C h x vs ∧ ∀ L, (∀ p, p ∈ M → p ∈ L) → Rd h L (blk v) (ofs v + j * k) vs := by
  obtain ⟨us, ⟨hu, ⟨rfl, h0, _⟩ | ⟨b, cap, rest, rfl, rfl, _, _⟩⟩, f⟩ := s
  · have : xs = [] := List.eq_nil_of_length_eq_zero h0
    subst this; simp at hx
  · obtain ⟨vs, h1, h2, h3, h4⟩ := f.get hx
    refine ⟨⟨b, cap, rfl⟩, (List.getElem?_eq_some_iff.1 hx).1, vs, h1, h2, h3, fun L hL => ⟨(us ++ rest).toArray, e, (0, 0), .inr (hL (b, cells (us ++ rest) e) (by simp)), fun i u hi => ?_⟩⟩
    have := h4 i u hi
    have hlt := (List.getElem?_eq_some_iff.1 this).1
    simp only [ofs, Nat.zero_add, List.getElem?_toArray]
    rw [List.getElem?_append_left hlt]; exact this
theorem Q_indexO {t e e' by_ : Nat} {sl ix : Operand} {q : IntKind} {i : Int} {M : Hp} (s : OS h e' k C v xs M) (hx : xs[j]? = some x) (hop : o.op = .indexAddr t sl ix) (hs : ev fr sl = some v) (hi : ev fr ix = some (.int q i)) (he : elemOf? P t = some (e, k, by_)) (hj : i = (j : Int)) : QOP P o fr h L (ptr (blk v) (ofs v + j * k)) := by
  obtain ⟨⟨b, cap, rfl⟩, h1, _⟩ := s.at hx
  exact Q_index hop hs hi he hj h1
theorem L_oelA {t e : Nat} {M : Hp} {K : Value → Prop} (A B' : Hp) (s : OS h e k C v xs M) (hx : xs[j]? = some x) (hL : L = A ++ (M ++ B')) (ht : tyOf P t = some (true, k)) (kk : ∀ vs, vs.length = k → ones vs = true → C h x vs → K (.agg vs.toArray)) : LG P h L (blk v) (ofs v + j * k) t K := by
  obtain ⟨_, _, vs, h1, h2, h3, h4⟩ := s.at hx
  exact L_agg (h4 L (fun p hp => by rw [hL]; simp [hp])) ht h1 (kk vs h1 h2 h3)
theorem Q_lenO {c : Call} {x : Operand} {t e e' : TypeId} {M : Hp} (hop : o.op = .call c) (hc : c.callee = .builtin .len) (ha : c.args = #[x]) (hat : c.argTypes = #[t]) (hx : ev fr x = some v) (ht : P.underlying t = some (.slice e))
    (s : OS h e' k C v xs M) : QOP P o fr h L (.int .i64 (xs.length : Int)) := by
  obtain ⟨p, cap, rfl⟩ := s.slice
  exact Q_len hop hc ha hat hx ht
end

/-! ### Loops over a state -/
section
variable {P : Program} {r : Option Nat} {N : Nat} {h : Frag} {L : Hp} {D : List Nat} {fr : Fr} {Q : Post}
/-- the slots that are picked, with what they hold -/
def Pick (fr : Fr) : List Nat → Fr → Prop
  | [], f => f = []
  | s :: ss, f => ∃ v g, get? fr s = some v ∧ Pick fr ss g ∧ f = (s, v) :: g
theorem Pick.sub {fr : Fr} : ∀ {ss : List Nat} {f : Fr}, Pick fr ss f → FrSub f fr
  | [], _, e => by cases e; trivial
  | s :: ss, _, ⟨v, g, h1, h2, h3⟩ => by subst h3; exact ⟨h1, Pick.sub h2⟩
theorem FrSub.append : ∀ {f g fr : Fr}, FrSub f fr → FrSub g fr → FrSub (f ++ g) fr
  | [], _, _, _, y => y
  | (_, _) :: _, _, _, ⟨h1, h2⟩, y => ⟨h1, FrSub.append h2 y⟩
def roundF {α : Type} (m : α → Nat) (Lf : α → Hp) (ff : α → Fr) (Inv : Frag → α → Prop) (fk : Fr) (n : Nat) (D : List Nat) (Q : Post) : Post
  | .normal, h, L, D', fr => D' = D ∧ ∃ a, m a < n ∧ Inv h a ∧ List.Sublist (Lf a) L ∧ FrSub (ff a ++ fk) fr
  | e, h, L, D', fr => Q e h L D' fr
theorem WP_loopF {α : Type} {c : Code} (ks : List Nat) (m : α → Nat) (Lf : α → Hp) (ff : α → Fr) (Inv : Frag → α → Prop) (a0 : α) {fk : Fr} (hk : Pick fr ks fk) (h0 : Inv h a0) (hL : List.Sublist (Lf a0) L) (hs : FrSub (ff a0) fr)
    (round : ∀ h1 a, le h h1 → Inv h1 a → WP P r N c h1 (Lf a) D (ff a ++ fk) (roundF m Lf ff Inv fk (m a) D Q)) : WP P r N (.loop c) h L D fr Q := by
  refine WP.drop hL (WP_loop (fun n h' L' D' fr' => D' = D ∧ ∃ a, n = m a ∧ Inv h' a ∧ L' = Lf a ∧ fr' = ff a ++ fk) (m a0) (ff a0 ++ fk) ⟨rfl, a0, rfl, h0, rfl, rfl⟩ (hs.append hk.sub) ?_)
  rintro n h1 L1 D1 fr1 hl ⟨rfl, a, rfl, hi, rfl, rfl⟩
  intro ac w fa hw
  refine wpIn_mono (round h1 a hl hi ac w fa hw) fun e a2 w2 ⟨h2, L2, D2, fr2, q, f2, e2⟩ => ?_
  cases e with
  | normal =>
    obtain ⟨rfl, a', hm, hi', hs', hf'⟩ := q
    exact ⟨h2, Lf a', _, fr2, ⟨m a', hm, _, hf', rfl, a', rfl, hi', rfl, rfl⟩, f2, e2.drop hs'⟩
  | _ => exact ⟨h2, L2, D2, fr2, q, f2, e2⟩
theorem WP_loopC {α : Type} {c : Code} (ks : List Nat) (m : α → Nat) (ff : α → Fr) (Inv : Frag → α → Prop) (a0 : α) {fk : Fr} (hk : Pick fr ks fk) (hs : FrSub (ff a0) fr) (h0 : Inv h a0)
    (round : ∀ h1 a, le h h1 → Inv h1 a → WP P r N c h1 L D (ff a ++ fk) (roundF m (fun _ => L) ff Inv fk (m a) D Q)) : WP P r N (.loop c) h L D fr Q :=
  WP_loopF ks m (fun _ => L) ff Inv a0 hk h0 (List.Sublist.refl _) hs round
theorem WP_loopM {α : Type} {c : Code} (A B : Hp) (ks : List Nat) (m : α → Nat) (Mf : α → Hp) (ff : α → Fr) (Inv : Frag → α → Prop) (a0 : α) {fk : Fr} (hL : L = A ++ (Mf a0 ++ B)) (hk : Pick fr ks fk) (hs : FrSub (ff a0) fr) (h0 : Inv h a0)
    (round : ∀ h1 a, le h h1 → Inv h1 a → WP P r N c h1 (A ++ (Mf a ++ B)) D (ff a ++ fk) (roundF m (fun a => A ++ (Mf a ++ B)) ff Inv fk (m a) D Q)) : WP P r N (.loop c) h L D fr Q :=
  WP_loopF ks m (fun a => A ++ (Mf a ++ B)) ff Inv a0 hk h0 (by rw [hL]; exact List.Sublist.refl _) hs round
theorem roundF_r {α : Type} {m : α → Nat} {Lf : α → Hp} {ff : α → Fr} {Inv : Frag → α → Prop} {fk : Fr} {n : Nat} {D' : List Nat} (x : Q .ret h L D' fr) : roundF m Lf ff Inv fk n D Q .ret h L D' fr := x
theorem roundF_e {α : Type} {m : α → Nat} {Lf : α → Hp} {ff : α → Fr} {Inv : Frag → α → Prop} {fk : Fr} {n id : Nat} {D' : List Nat} (x : Q (.exit id) h L D' fr) : roundF m Lf ff Inv fk n D Q (.exit id) h L D' fr := x
theorem roundF_n {α : Type} {m : α → Nat} {Lf : α → Hp} {ff : α → Fr} {Inv : Frag → α → Prop} {fk : Fr} {n : Nat} (a : α) (hm : m a < n) (hi : Inv h a) (hs : List.Sublist (Lf a) L) (hf : FrSub (ff a ++ fk) fr) : roundF m Lf ff Inv fk n D Q .normal h L D fr := ⟨rfl, a, hm, hi, hs, hf⟩
end

/-! ### Calls -/
section
variable {P : Program} {r : Option Nat} {N : Nat} {h : Frag} {L : Hp} {D : List Nat} {fr : Fr} {o : Oper} {K : OCont} {ops : Array Oper} {rest : List Oper} {Cc : Frag → Hp → Fr → Prop}
/-- closures: a function value with what it captures -/
theorem W_callC {c : Call} {f : FuncId} {fo : Operand} {cap : List Value} {vs : List Value} {R : OCont} {M : Hp} (A B : Hp) (x : FSpec P f (vs ++ cap).toArray h M R) (hop : o.op = .call c) (hc : c.callee = .value fo) (hf : ev fr fo = some (.func (.func f) #[] cap.toArray)) (hvs : evs fr c.args.toList vs) (hcal : callOk P f = true) (hL : L = A ++ (M ++ B))
    (k : ∀ h' M' v, le h h' → R h' M' v → K h' (A ++ (M' ++ B)) v) : OPw P r o fr h L K := by
  obtain ⟨fn, hfn, hn, hb⟩ := callOk_spec hcal
  have e : (#[] ++ vs.toArray ++ cap.toArray : Array Value) = (vs ++ cap).toArray := by simp
  have hp : L.Perm (M ++ (A ++ B)) := by rw [hL]; simpa using (List.perm_append_comm_assoc A M B)
  have y := OPw_callM (r := r) (L := L) (M := M) (L2 := A ++ B) (K := fun h' L' v => ∃ M', L' = M' ++ (A ++ B) ∧ K h' (A ++ (M' ++ B)) v) hop hc hf hvs hfn hn hb hp (by rw [e]; exact x) (fun h' M' v hl q => ⟨M', rfl, k h' M' v hl q⟩)
  intro a ha w hw
  refine Oper.wpIn_mono (fun a' w' ⟨h', L', v, e1, ⟨M', e2, q⟩, z⟩ => ⟨h', A ++ (M' ++ B), v, e1, q, ?_⟩) (y a ha w hw)
  subst e2
  exact z.perm (by simpa using (List.perm_append_comm_assoc A M' B))
theorem W_callF {c : Call} {f : FuncId} {vs : List Value} {R : OCont} {M : Hp} (A B : Hp) (x : FSpec P f vs.toArray h M R) (hop : o.op = .call c) (hc : c.callee = .value (.func f)) (hvs : evs fr c.args.toList vs) (hcal : callOk P f = true) (hL : L = A ++ (M ++ B))
    (k : ∀ h' M' v, le h h' → R h' M' v → K h' (A ++ (M' ++ B)) v) : OPw P r o fr h L K :=
  W_callC (cap := []) A B (by simpa using x) hop hc rfl hvs hcal hL k
/-- what nobody else writes is lent: it is read alone -/
theorem PSpec.lend {f : FuncId} {args : Array Value} {M : Hp} {R : Value → Prop} (x : ∀ h', le h h' → (∀ p, p ∈ M → h' p.1 = some p.2) → PSpec P f args h' (fun _ v => R v)) : FSpec P f args h M (fun h' L' v => h' = h ∧ L' = M ∧ R v) := by
  intro w hw
  have hw2 : Holds h (M ++ []) w := by simpa using hw
  obtain ⟨e0, hm⟩ := Ext.keep hw2
  refine (x _ e0.le hm w e0.holds).mono fun e w' ⟨v, h', L', he, ⟨hL', q⟩, y⟩ => ⟨v, h, M, he, ⟨rfl, rfl, q⟩, ?_⟩
  have hfr : ∀ b, b < w.heap.size → w'.heap[b]? = w.heap[b]? := fun b hb => y.frame b hb (by simp [ids])
  refine ⟨le_refl h, ⟨⟨fun b o e => ?_, fun p hp => ?_⟩, hw.nodup, hw.apart⟩, y.size, fun b hb _ => hfr b hb, fun b o e => .inl e, fun p hp => .inr (mem_ids hp), y.os, y.tape, y.output, y.drawn⟩
  · rw [hfr b (hw.pers_lt e)]; exact hw.sees.pers b o e
  · rw [hfr _ (hw.lt hp)]; exact hw.sees.own p hp
/-- a closure that needs nothing owned -/
theorem C_callC {c : Call} {f : FuncId} {fo : Operand} {cap vs : List Value} {R : Frag → Value → Prop} (x : PSpec P f (vs ++ cap).toArray h R) (hop : o.op = .call c) (hc : c.callee = .value fo) (hf : ev fr fo = some (.func (.func f) #[] cap.toArray)) (hvs : evs fr c.args.toList vs) (hcal : callOk P f = true) (k : ∀ h' v, le h h' → R h' v → K h' [] v) : OPc P r o fr h L K := by
  obtain ⟨fn, hfn, hn, hb⟩ := callOk_spec hcal
  have e : (#[] ++ vs.toArray ++ cap.toArray : Array Value) = (vs ++ cap).toArray := by simp
  exact OPc_call (first := #[]) (cap := cap.toArray) (R := fun h' L' v => L' = [] ∧ R h' v) hop hc hf hvs hfn hn hb (by rw [e]; exact x) fun h' L' v hl ⟨e, q⟩ => by subst e; exact k h' v hl q
theorem C_callC0 {c : Call} {f : FuncId} {fo : Operand} {cap vs : List Value} {R : Value → Prop} (x : PSpec P f (vs ++ cap).toArray h (fun _ v => R v)) (hop : o.op = .call c) (hc : c.callee = .value fo) (hf : ev fr fo = some (.func (.func f) #[] cap.toArray)) (hvs : evs fr c.args.toList vs) (hcal : callOk P f = true) (k : ∀ v, R v → K h [] v) : OPc P r o fr h L K := by
  have y : OPc P r o fr h L (fun _ M v => M = [] ∧ R v) := C_callC x hop hc hf hvs hcal fun _ v _ q => ⟨rfl, q⟩
  intro a ha w hw
  refine Oper.wpIn_mono (fun a' w' ⟨h', M, v, e, ⟨hM, q⟩, z⟩ => ?_) (y a ha w hw)
  subst hM
  exact ⟨h, [], v, e, k v q, z.forget⟩
theorem C_callCv {c : Call} {f : FuncId} {fo : Operand} {cap vs : List Value} {v : Value} (x : PSpec P f (vs ++ cap).toArray h (fun _ u => u = v)) (hop : o.op = .call c) (hc : c.callee = .value fo) (hf : ev fr fo = some (.func (.func f) #[] cap.toArray)) (hvs : evs fr c.args.toList vs) (hcal : callOk P f = true) (k : K h [] v) : OPc P r o fr h L K :=
  C_callC0 x hop hc hf hvs hcal fun u e => by subst e; exact k
/-- owned blocks anywhere are given over -/
theorem keepAt {M A B : Hp} {w : World} (hw : Holds h (A ++ (M ++ B)) w) : ∃ h', Ext h (A ++ (M ++ B)) w h' (A ++ B) w ∧ ∀ p, p ∈ M → h' p.1 = some p.2 := by
  have hp : (M ++ (A ++ B)).Perm (A ++ (M ++ B)) := (List.perm_append_comm_assoc A M B).symm
  obtain ⟨e0, hm⟩ := Ext.keep (hw.perm hp)
  exact ⟨_, e0.of_perm hp.symm, hm⟩
theorem OPS_keepM {l : List Oper} (A M B : Hp) (hL : L = A ++ (M ++ B)) (x : ∀ h', le h h' → (∀ p, p ∈ M → h' p.1 = some p.2) → OPS P r N D ops l h' (A ++ B) fr Cc) : OPS P r N D ops l h L fr Cc := by
  subst hL
  intro a w fa hw
  obtain ⟨h', e0, hm⟩ := keepAt hw
  exact wpListIn_mono (fun e a' w' ⟨he, h2, L', fr', q, f, e1⟩ => ⟨he, h2, L', fr', q, f, e0.trans e1⟩) _ _ _ (x _ e0.le hm a w fa e0.holds)
theorem WP_keepM {c : Code} {Q : Post} (A M B : Hp) (hL : L = A ++ (M ++ B)) (x : ∀ h', le h h' → (∀ p, p ∈ M → h' p.1 = some p.2) → WP P r N c h' (A ++ B) D fr Q) : WP P r N c h L D fr Q := by
  subst hL
  intro a w fa hw
  obtain ⟨h', e0, hm⟩ := keepAt hw
  exact wpIn_mono (x h' e0.le hm a w fa e0.holds) fun _ _ _ ⟨h', L', D', fr', q, f, e⟩ => ⟨h', L', D', fr', q, f, e0.trans e⟩
/-- a box that is only read from here on -/
theorem at_of_keep {h' : Frag} {b t : Nat} {l : List Value} (e : ∀ p, p ∈ [(b, cells l t)] → h' p.1 = some p.2) : At h' b 0 l :=
  ⟨l.toArray, t, (0, 0), e (b, cells l t) (by simp), fun j v hv => by simpa using hv⟩
end
/-! ### Appends, with what is owned in three parts -/
section
variable {α : Type} {P : Program} {r : Option Nat} {h : Frag} {L : Hp} {fr : Fr} {o : Oper} {K : OCont} {B k : Nat} {C : CR α}
theorem OPw_perm {L2 : Hp} (hp : L.Perm L2) (x : OPw P r o fr h L2 K) : OPw P r o fr h L K := by
  intro a ha w hw
  exact Oper.wpIn_mono (fun a' w' ⟨h', L', v, e, q, z⟩ => ⟨h', L', v, e, q, z.of_perm hp⟩) (x a ha w (hw.perm hp.symm))
theorem OPw_permK {K' : OCont} (x : OPw P r o fr h L K') (hk : ∀ h' L' v, K' h' L' v → ∃ L'', L''.Perm L' ∧ K h' L'' v) : OPw P r o fr h L K := by
  intro a ha w hw
  refine Oper.wpIn_mono (fun a' w' ⟨h', L', v, e, q, z⟩ => ?_) (x a ha w hw)
  obtain ⟨L'', hp, q'⟩ := hk _ _ _ q
  exact ⟨h', L'', v, e, q', z.perm hp⟩
/-- append(xs, ys...), xs owned, ys not -/
theorem W_appS {c : Call} {s x : Operand} {t e by_ : Nat} {v u : Value} {xs ys : List α} {z : List Value} {M : Hp} (A A2 : Hp) (hos : OS h e k C v xs M) (hsl : SLB B h k C u ys) (hop : o.op = .call c) (hc : c.callee = .builtin .append) (ha : c.args = #[s, x]) (hat : c.argTypes = #[t, t])
    (hs : ev fr s = some v) (hx : ev fr x = some u) (he : elemOf? P t = some (e, k, by_)) (hz : zeroOf P e = some z) (hzk : z.length = k) (hL : L = A ++ (M ++ A2))
    (hb : (xs.length + ys.length) * by_ ≤ 140737488355328) (hnm : xs.length + ys.length ≤ 9223372036854775807) (kk : ∀ p c M', OS h e k C (.slice p (xs ++ ys).length c) (xs ++ ys) M' → K h (A ++ (M' ++ A2)) (.slice p (xs ++ ys).length c)) : OPw P r o fr h L K := by
  refine OPw_perm (L2 := (A ++ A2) ++ M) (by rw [hL]; simpa using (List.perm_append_comm (l₁ := M) (l₂ := A2)).append_left A) (OPw_permK (W_appendS (A ++ A2) (A ++ A2) hos hsl hop hc ha hat hs hx he hz hzk rfl (List.Sublist.refl _) hb hnm
    (K := fun h' L' v' => ∃ M', L' = (A ++ A2) ++ M' ∧ K h' (A ++ (M' ++ A2)) v') fun v' M' q => ⟨M', rfl, by obtain ⟨p, c, rfl⟩ := q.slice; exact kk p c M' q⟩) fun h' L' v' ⟨M', e1, q⟩ => ⟨_, ?_, q⟩)
  subst e1
  simpa using (List.perm_append_comm (l₁ := M') (l₂ := A2)).append_left A
/-- append(xs, y): the block of the one element stands at the head of what is owned -/
theorem W_app1 {c : Call} {s x : Operand} {t e by_ b : Nat} {v : Value} {xs : List α} {y : α} {vs z : List Value} {M : Hp} (A A2 : Hp) (hos : OS h e k C v xs M) (hop : o.op = .call c) (hc : c.callee = .builtin .append) (ha : c.args = #[s, x]) (hat : c.argTypes = #[t, t])
    (hs : ev fr s = some v) (hx : ev fr x = some (.slice (some ⟨b, 0, none⟩) 1 1)) (he : elemOf? P t = some (e, k, by_)) (hz : zeroOf P e = some z) (hzk : z.length = k) (hL : L = (b, cells vs e) :: (A ++ (M ++ A2))) (hvs : vs.length = k) (h1 : ones vs = true) (hy : C h y vs)
    (hb : (xs.length + 1) * by_ ≤ 140737488355328) (hnm : xs.length + 1 ≤ 9223372036854775807) (kk : ∀ p c M', OS h e k C (.slice p (xs ++ [y]).length c) (xs ++ [y]) M' → K h (A ++ (M' ++ A2)) (.slice p (xs ++ [y]).length c)) : OPw P r o fr h L K := by
  refine OPw_perm (L2 := (b, cells vs e) :: ((A ++ A2) ++ M)) (by rw [hL]; exact List.Perm.cons _ (by simpa using (List.perm_append_comm (l₁ := M) (l₂ := A2)).append_left A)) (OPw_permK (W_append1 (A ++ A2) hos hop hc ha hat hs hx he hz hzk rfl hvs h1 hy hb hnm
    (K := fun h' L' v' => ∃ M', L' = (A ++ A2) ++ M' ∧ K h' (A ++ (M' ++ A2)) v') fun v' M' q => ⟨M', rfl, by obtain ⟨p, c, rfl⟩ := q.slice; exact kk p c M' q⟩) fun h' L' v' ⟨M', e1, q⟩ => ⟨_, ?_, q⟩)
  subst e1
  simpa using (List.perm_append_comm (l₁ := M') (l₂ := A2)).append_left A
end
end Go.Mesh
/-
  RULES FOR THE WALKER, SECOND PART: fixed results of calls, undecided choices; identities and whole numbers as keys of maps.
-/
set_option linter.all false
namespace Go.Mesh
open Go.RowKit
set_option linter.unusedVariables false
section
variable {P : Program} {r : Option Nat} {N : Nat} {h : Frag} {L : Hp} {D : List Nat} {fr : Fr} {o : Oper} {K : OCont} {ops : Array Oper} {rest l : List Oper} {C : Frag → Hp → Fr → Prop} {fuel n m i : Nat}
theorem C_callv {c : Call} {f : FuncId} {vs : List Value} {v : Value} (x : PSpec P f vs.toArray h (fun _ u => u = v)) (hop : o.op = .call c) (hc : c.callee = .value (.func f)) (hvs : evs fr c.args.toList vs) (hcal : callOk P f = true) (k : K h [] v) : OPc P r o fr h L K :=
  C_call0 x hop hc hvs hcal fun u e => by subst e; exact k
theorem yielded_un {a : Act} (fa : FrOk N D fr a) {j : Nat} {oj : Oper} {d : Nat} (hj : ops[j]? = some oj) (hd : oj.dst = some d) (hv : get? fr d = some undef) : yielded ops a.tmps j = none := by
  simp [yielded, hj, hd, fa.slots d _ hv, undef]
/-- a guard that was not asked itself -/
theorem S_gu {d j dj : Nat} {want : Bool} {oj : Oper} (hd : o.dst = some d) (hN : Nat.blt d N = true) (hg : o.guard = some (j, want)) (hj : ops[j]? = some oj) (hdj : oj.dst = some dj) (hv : get? fr dj = some undef)
    (x : OPS P r N D ops rest h L ((d, undef) :: fr) C) : OPS P r N D ops (o :: rest) h L fr C := by
  intro a w fa hw
  have hy := yielded_un (ops := ops) fa hj hdj hv
  have hne : ((none : Option Bool) == some want) = false := by cases want <;> rfl
  simp only [wpListIn, Region.wanted, hg, hy, hne, Bool.false_eq_true, if_false]
  refine ⟨fun _ _ => trivial, ?_⟩
  rw [hd]
  exact x _ _ (fa.put (dst := some d) hN undef) hw
theorem A_gu {d i j dj m' : Nat} {want : Bool} {oj : Oper} (hd : o.dst = some d) (hN : Nat.blt d N = true) (hg : o.guard = some (j, want)) (hj : nth l j = some oj) (hdj : oj.dst = some dj) (hv : get? fr dj = some undef)
    (hm : m ||| 2 ^ i = m') (hf : firstB l.toArray (lst n m) i = true) (x : ANY P r N D l.toArray fuel (lst n m') h L ((d, undef) :: fr) C) : ANYo P r N D l (fuel + 1) n m i o h L fr C := by
  intro hi a fa
  obtain ⟨h1, h2, h3, h4⟩ := first_parts hi hf
  have hj' : l.toArray[j]? = some oj := by rw [nth_eq] at hj; simpa using hj
  have hy := yielded_un (ops := l.toArray) fa hj' hdj hv
  have x' : ANY P r N D l.toArray fuel ((lst n m).setIfInBounds i true) h L (putd fr o.dst undef) C := by rw [hd, lst_set hm]; exact x
  exact ANYa_first hi h2 fuel (lst n m) a h L h1 h4 h3 (.inr ⟨by simp only [Region.wanted, hg, hy]; cases want <;> rfl, rfl⟩) (x' _ (fa.put (dstOk_of hd hN) undef))
theorem pretKM {fn : Func} {R : Frag → Value → Prop} {e : Exit} {rs : List ResultVar} {vs : List Value} (A M B : Hp) (hL : L = A ++ (M ++ B)) (he : e = .ret ∨ e = .normal) (hrs : fn.results.toList = rs) (hr : resVals P h L fr rs vs) (x : ∀ h', le h h' → (∀ p, p ∈ M → h' p.1 = some p.2) → R h' (resOf vs)) : retQ P fn (fun h' L' v => L' = [] ∧ R h' v) e h L [] fr :=
  ⟨he, rfl, vs, by rw [hrs]; exact hr, fun w hw => by
    subst hL
    obtain ⟨h', e, hm⟩ := keepAt hw
    exact ⟨h', [], e.drop (List.nil_sublist _), rfl, x h' e.le hm⟩⟩
theorem W_callB {c : Call} {f : FuncId} {vs : List Value} {R : Value → Prop} {M : Hp} (A B : Hp) (x : ∀ h', le h h' → (∀ p, p ∈ M → h' p.1 = some p.2) → PSpec P f vs.toArray h' (fun _ v => R v)) (hop : o.op = .call c) (hc : c.callee = .value (.func f)) (hvs : evs fr c.args.toList vs) (hcal : callOk P f = true) (hL : L = A ++ (M ++ B))
    (k : ∀ v, R v → K h (A ++ (M ++ B)) v) : OPw P r o fr h L K :=
  W_callF A B (PSpec.lend x) hop hc hvs hcal hL fun h' M' v _ ⟨e1, e2, q⟩ => by subst e1; subst e2; exact k v q
theorem W_callBv {c : Call} {f : FuncId} {vs : List Value} {v : Value} {M : Hp} (A B : Hp) (x : ∀ h', le h h' → (∀ p, p ∈ M → h' p.1 = some p.2) → PSpec P f vs.toArray h' (fun _ u => u = v)) (hop : o.op = .call c) (hc : c.callee = .value (.func f)) (hvs : evs fr c.args.toList vs) (hcal : callOk P f = true) (hL : L = A ++ (M ++ B))
    (k : K h (A ++ (M ++ B)) v) : OPw P r o fr h L K :=
  W_callB A B x hop hc hvs hcal hL fun u e => by subst e; exact k
theorem YSpec.wide {l : Nat} {args : Array Value} {R : OCont} {M : Hp} (A B : Hp) (x : YSpec P l args h M R) : YSpec P l args h (A ++ (M ++ B)) (fun h' L' v => ∃ M', L' = A ++ (M' ++ B) ∧ R h' M' v) := by
  intro w hw
  have hp : (M ++ (A ++ B)).Perm (A ++ (M ++ B)) := (List.perm_append_comm_assoc A M B).symm
  have hw2 := hw.perm hp
  obtain ⟨fn, tmps, assign, body, h1, h2⟩ := x w (hw2.drop (List.sublist_append_left _ _))
  refine ⟨fn, tmps, assign, body, h1, h2.mono fun e w' ⟨v, h', L', he, q, y⟩ => ⟨v, h', A ++ (L' ++ B), he, ⟨L', rfl, q⟩, ?_⟩⟩
  exact ((y.framed hw2).of_perm hp.symm).perm (List.perm_append_comm_assoc A L' B)
theorem W_yield {c : Call} {l : Nat} {fo : Operand} {vs : List Value} {R : OCont} {M : Hp} (A B : Hp) (x : YSpec P l vs.toArray h M R) (hop : o.op = .call c) (hc : c.callee = .value fo) (hf : ev fr fo = some (.func (.yield l) #[] #[])) (hvs : evs fr c.args.toList vs) (hL : L = A ++ (M ++ B))
    (k : ∀ h' M' v, le h h' → R h' M' v → K h' (A ++ (M' ++ B)) v) : OPw P r o fr h L K := by
  subst hL
  exact OPw_yield hop hc hf hvs (x.wide A B) fun h' L' v hl ⟨M', e, q⟩ => by subst e; exact k h' M' v hl q
theorem S_gw {d j dj : Nat} {want : Bool} {oj : Oper} (hd : o.dst = some d) (hN : Nat.blt d N = true) (hg : o.guard = some (j, want)) (hj : ops[j]? = some oj) (hdj : oj.dst = some dj) (hv : get? fr dj = some (.bool want))
    (x : OPw P r o fr h L (fun h' L' v => OPS P r N D ops rest h' L' ((d, v) :: fr) C)) : OPS P r N D ops (o :: rest) h L fr C :=
  OPS_gw hg hj hdj hv (dstOk_of hd hN) (by rw [hd]; exact x)
theorem S_psplit {d : Nat} {x y : Operand} {b : Bool} (hop : o.op = .pick (.tmp d) x y) (hv : get? fr d = some (.bool b)) (t : b = true → OPS P r N D ops (o :: rest) h L ((d, .bool true) :: fr) C) (f : b = false → OPS P r N D ops (o :: rest) h L ((d, .bool false) :: fr) C) : OPS P r N D ops (o :: rest) h L fr C :=
  S_split hv t f
theorem A_psplit {d : Nat} {x y : Operand} {b : Bool} (hop : o.op = .pick (.tmp d) x y) (hv : get? fr d = some (.bool b))
    (t : b = true → ANY P r N D l.toArray fuel (lst n m) h L ((d, .bool true) :: fr) C) (f : b = false → ANY P r N D l.toArray fuel (lst n m) h L ((d, .bool false) :: fr) C) : ANYo P r N D l fuel n m i o h L fr C :=
  fun _ => A_split hv t f
end
theorem SLB.none_nil {α : Type} {B : Nat} {h : Frag} {k n c : Nat} {C : CR α} {xs : List α} (s : SLB B h k C (.slice none n c) xs) : xs = [] := by
  obtain ⟨_, ⟨_, _, e, rfl⟩ | ⟨b, off, cap', e, _⟩⟩ := s
  · rfl
  · simp at e
theorem OS.lit0 {α : Type} (h : Frag) (e k : Nat) (C : CR α) (b : Nat) : OS h e k C (.slice (some ⟨b, 0, none⟩) 0 0) [] [(b, cells [] e)] := ⟨[], Row.lit (by simp), rfl⟩
def idv (x : ID) : Value := .agg (idc x).toArray
def itv (x : Int) : Value := .int .i64 x
theorem key_id {l : List Value} {a b : Int} {fr : Fr} {y : Operand} (hy : ev fr y = some (.agg l.toArray)) (hl : l = [.int .i64 a, .int .i64 b] := by rfl) : ev fr y = some (idv (a, b)) := by rw [hy, hl]; rfl
abbrev IsMapP {κ : Type} (kc : κ → Value) (h : Frag) (b : Nat) (ps : List (κ × Value)) : Prop := h b = some (mapObj kc ps)
theorem IsMapP.up {κ : Type} {kc : κ → Value} {h h' : Frag} {b : Nat} {ps : List (κ × Value)} (x : IsMapP kc h b ps) (hl : le h h') : IsMapP kc h' b ps := hl _ _ x
section
variable {κ : Type} [DecidableEq κ] {P : Program} {r : Option Nat} {h : Frag} {L : Hp} {fr : Fr} {o : Oper} {K : OCont} {kc : κ → Value} {t kt et b : Nat} {x y : Operand} {k : κ} {ps : List (κ × Value)} {z v : Value}
theorem Q_lookupS (hop : o.op = .lookup t x y false) (hx : ev fr x = some (.map (some b))) (hy : ev fr y = some (kc k)) (kl : KeyLaw P kt kc) (ht : P.underlying t = some (.map kt et)) (hz : zvOf P et = some z) (hm : IsMap h L b (mapObj kc ps)) (hg : mget k ps = some v) : QOP P o fr h L v := by
  have := Q_lookup hop hx hy kl ht hz hm; rw [hg] at this; exact this
theorem Q_lookupN (hop : o.op = .lookup t x y false) (hx : ev fr x = some (.map (some b))) (hy : ev fr y = some (kc k)) (kl : KeyLaw P kt kc) (ht : P.underlying t = some (.map kt et)) (hz : zvOf P et = some z) (hm : IsMap h L b (mapObj kc ps)) (hg : mget k ps = none) : QOP P o fr h L z := by
  have := Q_lookup hop hx hy kl ht hz hm; rw [hg] at this; exact this
theorem Q_lookupOkS (hop : o.op = .lookup t x y true) (hx : ev fr x = some (.map (some b))) (hy : ev fr y = some (kc k)) (kl : KeyLaw P kt kc) (ht : P.underlying t = some (.map kt et)) (hz : zvOf P et = some z) (hm : IsMap h L b (mapObj kc ps)) (hg : mget k ps = some v) : QOP P o fr h L (.tuple #[v, .bool true]) := by
  have := Q_lookupOk hop hx hy kl ht hz hm; rw [hg] at this; exact this
theorem Q_lookupOkN (hop : o.op = .lookup t x y true) (hx : ev fr x = some (.map (some b))) (hy : ev fr y = some (kc k)) (kl : KeyLaw P kt kc) (ht : P.underlying t = some (.map kt et)) (hz : zvOf P et = some z) (hm : IsMap h L b (mapObj kc ps)) (hg : mget k ps = none) : QOP P o fr h L (.tuple #[z, .bool false]) := by
  have := Q_lookupOk hop hx hy kl ht hz hm; rw [hg] at this; exact this
theorem C_makeMapK (kl : KeyLaw P kt kc) (hop : o.op = .makeMap t none) (ht : P.underlying t = some (.map kt et)) (k : ∀ b, K h [(b, mapObj kc [])] (.map (some b))) : OPc P r o fr h L K := C_makeMap kc hop k
end
theorem mget_mput {κ : Type} [DecidableEq κ] (k k' : κ) (v : Value) : ∀ ps : List (κ × Value), mget k' (mput k v ps) = if k = k' then some v else mget k' ps
  | [] => by simp [mput, mget]
  | (q, u) :: ps => by
    simp only [mput]
    split
    · rename_i h; subst h; simp only [mget]; split <;> rfl
    · rename_i h
      simp only [mget, mget_mput k k' v ps]
      split
      · rename_i h2; subst h2; simp [Ne.symm h, fun e : k = q => h e.symm]
      · rfl
end Go.Mesh
namespace Go.Proofs.YtcfedojmmfbbeaaGreatDoor
open Go.Mesh Go.RowKit
set_option maxRecDepth 100000
theorem zvo {t : Nat} {z : Value} (h : zvOf Tryz.prog t = some z) : zvOf Tryz.prog t = some z := h
theorem itk : KeyLaw Tryz.prog 3 itv := by
  have h3 : Tryz.prog.underlying 3 = some (.int .i64) := by kernel_rfl
  refine ⟨fun w b k => ?_, fun w k ps => ?_, fun k => ?_⟩
  · rw [show (10000 : Nat) = 9999 + 1 from rfl, Instr.checkKey]
    simp [run_underlying' h3, itv]
  · have key : ∀ (ps : List (Int × Value)) (j : Nat), Instr.findNow (.int .i64) (itv k) (ent itv j ps) j = some (fidx k j ps) := by
      intro ps
      induction ps with
      | nil => intro j; rfl
      | cons p ps ih =>
        intro j
        obtain ⟨k', v⟩ := p
        have := ih (j + 1)
        simp only [ent, fidx, Instr.findNow, itv] at this ⊢
        by_cases hk : k' = k
        · subst hk; simp [Instr.sameNow]
        · have hk2 : ¬ k = k' := fun e => hk e.symm
          have hb : (k == k') = false := by simpa using hk2
          simp [Instr.sameNow, hk, hb, this]
    simp [Instr.findKey, run_underlying' h3, key ps 0]
  · simp [Instr.sameBits, itv]
end Go.Proofs.YtcfedojmmfbbeaaGreatDoor
