/-
  WHAT A ROW OF CELLS READS AS, and slices that are owned, with what they read as.
-/
import Derived.Test.YtfhoecgiahpddaaGreatTypes
set_option linter.all false
namespace Go.Mesh
open Go.RowKit

section
variable {α : Type} {h h' : Frag} {B k : Nat} {C : CR α}
def Flat (h : Frag) (k : Nat) (C : CR α) : List α → List Value → Prop
  | [], us => us = []
  | x :: xs, us => ∃ vs ws, us = vs ++ ws ∧ vs.length = k ∧ ones vs = true ∧ C h x vs ∧ Flat h k C xs ws
theorem Flat.mono (hl : le h h') (hc : CMono C) : ∀ {xs : List α} {us : List Value}, Flat h k C xs us → Flat h' k C xs us
  | [], _, e => e
  | _ :: _, _, ⟨vs, ws, e1, e2, e3, e4, e5⟩ => ⟨vs, ws, e1, e2, e3, hc _ _ _ _ hl e4, Flat.mono hl hc e5⟩
theorem Flat.length : ∀ {xs : List α} {us : List Value}, Flat h k C xs us → us.length = xs.length * k
  | [], _, e => by cases e; simp
  | x :: xs, _, ⟨vs, ws, e1, e2, _, _, e5⟩ => by subst e1; have := Flat.length e5; simp [e2, this, Nat.add_mul]; omega
theorem Flat.ones : ∀ {xs : List α} {us : List Value}, Flat h k C xs us → Mesh.ones us = true
  | [], _, e => by cases e; rfl
  | x :: xs, _, ⟨vs, ws, e1, _, e3, _, e5⟩ => by subst e1; exact ones_append e3 (Flat.ones e5)
theorem Flat.append : ∀ {xs ys : List α} {us ws : List Value}, Flat h k C xs us → Flat h k C ys ws → Flat h k C (xs ++ ys) (us ++ ws)
  | [], _, _, _, e, f => by cases e; exact f
  | x :: xs, ys, _, ws', ⟨vs, ws, e1, e2, e3, e4, e5⟩, f => ⟨vs, ws ++ ws', by subst e1; simp, e2, e3, e4, Flat.append e5 f⟩
theorem Flat.one {x : α} {vs : List Value} (h1 : vs.length = k) (h2 : Mesh.ones vs = true) (h3 : C h x vs) : Flat h k C [x] vs := ⟨vs, [], by simp, h1, h2, h3, rfl⟩
theorem Flat.nil : Flat h k C [] [] := rfl
theorem Flat.get : ∀ {xs : List α} {us : List Value} {i : Nat} {x : α}, Flat h k C xs us → xs[i]? = some x → ∃ vs, vs.length = k ∧ Mesh.ones vs = true ∧ C h x vs ∧ ∀ (j : Nat) (v : Value), vs[j]? = some v → us[i * k + j]? = some v
  | [], _, _, _, _, hx => by simp at hx
  | y :: xs, _, 0, x, ⟨vs, ws, e1, e2, e3, e4, _⟩, hx => by
    simp at hx; subst hx; subst e1
    refine ⟨vs, e2, e3, e4, fun j v hv => ?_⟩
    have hlt := (List.getElem?_eq_some_iff.1 hv).1
    rw [Nat.zero_mul, Nat.zero_add, List.getElem?_append_left hlt]; exact hv
  | y :: xs, _, i + 1, x, ⟨vs, ws, e1, e2, _, _, e5⟩, hx => by
    subst e1
    obtain ⟨us, h1, h2, h3, h4⟩ := Flat.get (i := i) e5 (by simpa using hx)
    refine ⟨us, h1, h2, h3, fun j v hv => ?_⟩
    have := h4 j v hv
    rw [List.getElem?_append_right (by rw [e2, Nat.add_mul]; omega)]
    rw [show (i + 1) * k + j - vs.length = i * k + j by rw [e2, Nat.add_mul]; omega]
    exact this
theorem SLB.of_flat {b off cap : Nat} {arr : Array Value} {t : TypeId} {fz : Nat × Nat} {xs : List α} {us : List Value} (hb : h b = some (.cells arr t fz)) (hf : Flat h k C xs us) (hu : ∀ (j : Nat) (v : Value), us[j]? = some v → arr[off + j]? = some v) (hm : xs.length ≤ B) : SLB B h k C (.slice (some ⟨b, off, none⟩) xs.length cap) xs := by
  refine ⟨hm, .inr ⟨b, off, cap, rfl, fun i x hx => ?_⟩⟩
  obtain ⟨vs, h1, h2, h3, h4⟩ := hf.get hx
  exact ⟨vs, h1, h2, h3, arr, t, fz, hb, fun j v hv => by rw [Nat.add_assoc]; exact hu _ _ (h4 j v hv)⟩
theorem SLB.of_block {b cap : Nat} {t : TypeId} {xs : List α} {us rest : List Value} (hb : h b = some (cells (us ++ rest) t)) (hf : Flat h k C xs us) (hm : xs.length ≤ B) : SLB B h k C (.slice (some ⟨b, 0, none⟩) xs.length cap) xs :=
  SLB.of_flat hb hf (fun j v hv => by
    have hlt := (List.getElem?_eq_some_iff.1 hv).1
    simp [List.getElem?_append_left hlt, hv]) hm
theorem SLB.nil (B : Nat) (h : Frag) (k : Nat) (C : CR α) (p : Option Addr) (cap : Nat) : SLB B h k C (.slice p 0 cap) [] := ⟨by simp, .inl ⟨p, cap, rfl, rfl⟩⟩
/-- all the cells of a slice -/
theorem SLB.flat {v : Value} {xs : List α} (x : SLB B h k C v xs) : ∃ p cap us, v = .slice p xs.length cap ∧ Flat h k C xs us ∧ (xs = [] ∨ ∃ b off, p = some ⟨b, off, none⟩ ∧ At h b off us) := by
  obtain ⟨_, ⟨p, cap, e, rfl⟩ | ⟨b, off, cap, e, g⟩⟩ := x
  · exact ⟨p, cap, [], e, rfl, .inl rfl⟩
  · have key : ∀ (ys : List α) (o : Nat), (∀ (i : Nat) y, ys[i]? = some y → ∃ vs, vs.length = k ∧ Mesh.ones vs = true ∧ C h y vs ∧ At h b (o + i * k) vs) → ∃ us, Flat h k C ys us ∧ (ys = [] ∨ At h b o us) := by
      intro ys
      induction ys with
      | nil => intro o _; exact ⟨[], rfl, .inl rfl⟩
      | cons y ys ih =>
        intro o hg
        obtain ⟨vs, h1, h2, h3, h4⟩ := hg 0 y rfl
        obtain ⟨us, f, a⟩ := ih (o + k) (fun i z hz => by
          obtain ⟨vs, h1, h2, h3, h4⟩ := hg (i + 1) z (by simpa using hz)
          exact ⟨vs, h1, h2, h3, by rw [Nat.add_mul, Nat.one_mul, Nat.add_comm (i * k), ← Nat.add_assoc] at h4; exact h4⟩)
        refine ⟨vs ++ us, ⟨vs, us, rfl, h1, h2, h3, f⟩, .inr ?_⟩
        obtain ⟨arr, t, fz, hb, hc⟩ := h4
        simp only [Nat.zero_mul, Nat.add_zero] at hc
        rcases a with rfl | ⟨arr', t', fz', hb', hc'⟩
        · cases f; exact ⟨arr, t, fz, hb, by simpa using hc⟩
        · rw [hb] at hb'; cases hb'
          refine ⟨arr, t, fz, hb, fun j v hv => ?_⟩
          rw [List.getElem?_append] at hv
          split at hv
          · exact hc j v hv
          · have := hc' _ v hv
            rw [show o + k + (j - vs.length) = o + j by omega] at this
            exact this
    obtain ⟨us, f, a⟩ := key xs off g
    exact ⟨_, cap, us, e, f, a.imp id fun a => ⟨b, off, rfl, a⟩⟩

/-- An owned slice that reads as xs. -/
def OS (h : Frag) (e k : Nat) (C : CR α) (v : Value) (xs : List α) (M : Hp) : Prop := ∃ us, Row e k v xs.length us M ∧ Flat h k C xs us
theorem OS.mono {e : Nat} {v : Value} {xs : List α} {M : Hp} (x : OS h e k C v xs M) (hl : le h h') (hc : CMono C) : OS h' e k C v xs M := let ⟨us, r, f⟩ := x; ⟨us, r, f.mono hl hc⟩
theorem OS.nil (h : Frag) (e k : Nat) (C : CR α) : OS h e k C (.slice none 0 0) [] [] := ⟨[], Row.nil e k, rfl⟩
theorem OS.slice {e : Nat} {v : Value} {xs : List α} {M : Hp} (x : OS h e k C v xs M) : ∃ p cap, v = .slice p xs.length cap := let ⟨_, r, _⟩ := x; r.slice
theorem OS.sl {e : Nat} {v : Value} {xs : List α} {M : Hp} (x : OS h e k C v xs M) (hl : le h h') (hc : CMono C) (hm : ∀ p, p ∈ M → h' p.1 = some p.2) (hx : xs.length ≤ B) : SLB B h' k C v xs := by
  obtain ⟨us, ⟨hu, ⟨rfl, h0, _⟩ | ⟨b, cap, rest, rfl, rfl, _, _⟩⟩, f⟩ := x
  · have : xs = [] := List.eq_nil_of_length_eq_zero h0
    subst this; exact SLB.nil _ _ _ _ _ _
  · exact SLB.of_block (hm (b, cells (us ++ rest) e) (by simp)) (f.mono hl hc) hx

variable {P : Program} {r : Option Nat} {L : Hp} {fr : Fr} {o : Oper} {K : OCont}
/-- append(xs, ys...), xs owned -/
theorem W_appendS {c : Call} {s x : Operand} {t e by_ : Nat} {v u : Value} {xs ys : List α} {z : List Value} {M : Hp} (L2 L3 : Hp) (hos : OS h e k C v xs M) (hsl : SLB B h k C u ys) (hop : o.op = .call c) (hc : c.callee = .builtin .append) (ha : c.args = #[s, x]) (hat : c.argTypes = #[t, t])
    (hs : ev fr s = some v) (hx : ev fr x = some u) (he : elemOf? P t = some (e, k, by_)) (hz : zeroOf P e = some z) (hzk : z.length = k) (hL : L = L2 ++ M) (hs3 : List.Sublist L3 L2)
    (hb : (xs.length + ys.length) * by_ ≤ 140737488355328) (hnm : xs.length + ys.length ≤ 9223372036854775807) (kk : ∀ v' M', OS h e k C v' (xs ++ ys) M' → K h (L3 ++ M') v') : OPw P r o fr h L K := by
  obtain ⟨us, hrow, hf⟩ := hos
  obtain ⟨p, cap, ws, rfl, hfy, hat2⟩ := hsl.flat
  refine W_append (p := p) (cc := cap) (ws := ws) L2 L3 hop hc ha hat hs hx he hz hzk hrow hL hs3 ?_ hfy.length hfy.ones hb hnm fun v' M' hr => kk v' M' ⟨us ++ ws, by simpa using hr, hf.append hfy⟩
  rcases hat2 with rfl | ⟨b, off, rfl, hat2⟩
  · exact .inl rfl
  · exact .inr ⟨b, off, rfl, Rd.pers hat2⟩
/-- append(xs, y): the block of the one element stands at the head of what is owned -/
theorem W_append1 {c : Call} {s x : Operand} {t e by_ b : Nat} {v : Value} {xs : List α} {y : α} {vs z : List Value} {M : Hp} (L2 : Hp) (hos : OS h e k C v xs M) (hop : o.op = .call c) (hc : c.callee = .builtin .append) (ha : c.args = #[s, x]) (hat : c.argTypes = #[t, t])
    (hs : ev fr s = some v) (hx : ev fr x = some (.slice (some ⟨b, 0, none⟩) 1 1)) (he : elemOf? P t = some (e, k, by_)) (hz : zeroOf P e = some z) (hzk : z.length = k) (hL : L = (b, cells vs e) :: (L2 ++ M)) (hvs : vs.length = k) (h1 : ones vs = true) (hy : C h y vs)
    (hb : (xs.length + 1) * by_ ≤ 140737488355328) (hnm : xs.length + 1 ≤ 9223372036854775807) (kk : ∀ v' M', OS h e k C v' (xs ++ [y]) M' → K h (L2 ++ M') v') : OPw P r o fr h L K := by
  obtain ⟨us, hrow, hf⟩ := hos
  refine W_append (ws := vs) ((b, cells vs e) :: L2) L2 hop hc ha hat hs hx he hz hzk hrow hL (List.sublist_cons_self _ _) (.inr ⟨b, 0, rfl, ?_⟩) (by simpa using hvs) h1 hb hnm fun v' M' hr => kk v' M' ⟨us ++ vs, by simpa using hr, hf.append (Flat.one hvs h1 hy)⟩
  rw [hL]; exact Rd.own (List.Mem.head _)
end
end Go.Mesh
