/-
  RULES FOR THE WALKER: slices by what they read as; loops over a state; calls that borrow or hand over what is owned; closures.
-/
import Derived.Test.YtfhoecgiahpddaaGreatOwn
set_option linter.all false
namespace Go.Mesh
open Go.RowKit
set_option linter.unusedVariables false

class CM {α : Type} (C : CR α) : Prop where
  mono : CMono C
instance : CM IDC := ⟨IDC_mono⟩
instance : CM ValC := ⟨ValC_mono⟩
instance : CM IntC := ⟨IntC_mono⟩
instance (B : Nat) : CM (NodeC B) := ⟨NodeC_mono B⟩
instance (B : Nat) : CM (GraphC B) := ⟨GraphC_mono B⟩
instance : CM RefC := ⟨RefC_mono⟩
instance (B : Nat) : CM (LetterC B) := ⟨LetterC_mono B⟩
instance (B : Nat) : CM (FlightC B) := ⟨FlightC_mono B⟩
instance : CM StubC := ⟨StubC_mono⟩
instance : CM ScionC := ⟨ScionC_mono⟩
instance : CM NamedC := ⟨NamedC_mono⟩
instance (B : Nat) : CM (MailC B) := ⟨MailC_mono B⟩
instance (B : Nat) : CM (ViewC B) := ⟨ViewC_mono B⟩

def blk : Value → Nat
  | .slice (some a) _ _ => a.block
  | _ => 0
def ofs : Value → Nat
  | .slice (some a) _ _ => a.off
  | _ => 0

section
variable {α : Type} {h h' : Frag} {B k j : Nat} {C : CR α} {v : Value} {xs : List α} {x : α} {P : Program} {L : Hp} {fr : Fr} {o : Oper}
theorem SLB.up [c : CM C] (s : SLB B h k C v xs) (hl : Mesh.le h h') : SLB B h' k C v xs := s.mono hl c.mono
theorem OS.up [c : CM C] {e : Nat} {M : Hp} (s : OS h e k C v xs M) (hl : le h h') : OS h' e k C v xs M := s.mono hl c.mono
theorem At.up {b off : Nat} {vs : List Value} (x : At h b off vs) (hl : le h h') : At h' b off vs := x.mono hl
theorem SLB.narrow {B' : Nat} (s : SLB B h k C v xs) (hl : xs.length ≤ B') : SLB B' h k C v xs := ⟨hl, s.2⟩
theorem SLB.at (s : SLB B h k C v xs) (hx : xs[j]? = some x) : (∃ b off cap, v = .slice (some ⟨b, off, none⟩) xs.length cap) ∧ j < xs.length ∧ ∃ vs, vs.length = k ∧ ones vs = true ∧ C h x vs ∧ At h (blk v) (ofs v + j * k) vs := by
  obtain ⟨b, off, cap, vs, rfl, h1, h2, h3, h4, h5⟩ := s.elem hx
  exact ⟨⟨b, off, cap, rfl⟩, h1, vs, h2, h3, h4, h5⟩
theorem Q_indexS {t e by_ : Nat} {sl ix : Operand} {q : IntKind} {i : Int} (s : SLB B h k C v xs) (hx : xs[j]? = some x) (hop : o.op = .indexAddr t sl ix) (hs : ev fr sl = some v) (hi : ev fr ix = some (.int q i)) (he : elemOf? P t = some (e, k, by_)) (hj : i = (j : Int)) : QOP P o fr h L (ptr (blk v) (ofs v + j * k)) := by
  obtain ⟨⟨b, off, cap, rfl⟩, h1, _⟩ := s.at hx
  exact Q_index hop hs hi he hj h1
/-- a load out of known cells -/
def LV (P : Program) (vs : List Value) (fo : Nat) (t : TypeId) (K : Value → Prop) : Prop :=
  (∃ k, tyOf P t = some (true, k) ∧ ((vs.drop fo).take k).length = k ∧ K (.agg ((vs.drop fo).take k).toArray)) ∨ (∃ k v, tyOf P t = some (false, k) ∧ vs[fo]? = some v ∧ K v)
theorem LV_a {vs : List Value} {fo : Nat} {t : TypeId} {K : Value → Prop} {k : Nat} (ht : tyOf P t = some (true, k)) (hk : ((vs.drop fo).take k).length = k) (kk : K (.agg ((vs.drop fo).take k).toArray)) : LV P vs fo t K := .inl ⟨k, ht, hk, kk⟩
theorem LV_1 {vs : List Value} {fo : Nat} {t : TypeId} {K : Value → Prop} {k : Nat} {u : Value} (ht : tyOf P t = some (false, k)) (hv : vs[fo]? = some u) (kk : K u) : LV P vs fo t K := .inr ⟨k, u, ht, hv, kk⟩
theorem LV.lg {b off fo : Nat} {vs : List Value} {t : TypeId} {K : Value → Prop} (x : Rd h L b off vs) (l : LV P vs fo t K) : LG P h L b (off + fo) t K := by
  rcases l with ⟨k, ht, hk, kk⟩ | ⟨k, v, ht, hv, kk⟩
  · exact L_sub x ht hk kk
  · exact L_fld x ht hv kk
theorem L_elA {t : TypeId} {K : Value → Prop} (s : SLB B h k C v xs) (hx : xs[j]? = some x) (ht : tyOf P t = some (true, k)) (kk : ∀ vs, vs.length = k → ones vs = true → C h x vs → K (.agg vs.toArray)) : LG P h L (blk v) (ofs v + j * k) t K := by
  obtain ⟨_, _, vs, h1, h2, h3, h4⟩ := s.at hx
  exact L_agg (Rd.pers h4) ht h1 (kk vs h1 h2 h3)
theorem L_el1 {t k' : Nat} {K : Value → Prop} (s : SLB B h 1 C v xs) (hx : xs[j]? = some x) (ht : tyOf P t = some (false, k')) (kk : ∀ u, C h x [u] → K u) : LG P h L (blk v) (ofs v + j * 1) t K := by
  obtain ⟨_, _, vs, h1, h2, h3, h4⟩ := s.at hx
  match vs, h1, h3, h4 with
  | [u], _, h3, h4 => exact L_one (Rd.pers h4) ht (kk u h3)
theorem L_elF {fo : Nat} {t : TypeId} {K : Value → Prop} (s : SLB B h k C v xs) (hx : xs[j]? = some x) (kk : ∀ vs, vs.length = k → ones vs = true → C h x vs → LV P vs fo t K) : LG P h L (blk v) (ofs v + j * k + fo) t K := by
  obtain ⟨_, _, vs, h1, h2, h3, h4⟩ := s.at hx
  exact LV.lg (Rd.pers h4) (kk vs h1 h2 h3)
theorem L_elF2 {f1 f2 : Nat} {t : TypeId} {K : Value → Prop} (s : SLB B h k C v xs) (hx : xs[j]? = some x) (kk : ∀ vs, vs.length = k → ones vs = true → C h x vs → LV P vs (f1 + f2) t K) : LG P h L (blk v) (ofs v + j * k + f1 + f2) t K := by
  rw [Nat.add_assoc]; exact L_elF s hx kk
theorem L_elF3 {f1 f2 f3 : Nat} {t : TypeId} {K : Value → Prop} (s : SLB B h k C v xs) (hx : xs[j]? = some x) (kk : ∀ vs, vs.length = k → ones vs = true → C h x vs → LV P vs (f1 + f2 + f3) t K) : LG P h L (blk v) (ofs v + j * k + f1 + f2 + f3) t K := by
  rw [Nat.add_assoc (ofs v + j * k + f1), Nat.add_assoc (ofs v + j * k), ← Nat.add_assoc f1]; exact L_elF s hx kk
theorem L_fld2 {b off f1 f2 : Nat} {vs : List Value} {t : TypeId} {K : Value → Prop} (x : Rd h L b off vs) (kk : LV P vs (f1 + f2) t K) : LG P h L b (off + f1 + f2) t K := by
  rw [Nat.add_assoc]; exact kk.lg x
theorem L_fld3 {b off f1 f2 f3 : Nat} {vs : List Value} {t : TypeId} {K : Value → Prop} (x : Rd h L b off vs) (kk : LV P vs (f1 + f2 + f3) t K) : LG P h L b (off + f1 + f2 + f3) t K := by
  rw [Nat.add_assoc (off + f1), Nat.add_assoc off, ← Nat.add_assoc f1]; exact kk.lg x
/-- an owned slice -/
theorem OS.at {e : Nat} {M : Hp} (s : OS h e k C v xs M) (hx : xs[j]? = some x) : (∃ b cap, v = .slice (some ⟨b, 0, none⟩) xs.length cap) ∧ j < xs.length ∧ ∃ vs, vs.length = k ∧ ones vs = true ∧ C h x vs ∧ ∀ L, (∀ p, p ∈ M → p ∈ L) → Rd h L (blk v) (ofs v + j * k) vs := by
  obtain ⟨us, ⟨hu, ⟨rfl, h0, _⟩ | ⟨b, cap, rest, rfl, rfl, _, _⟩⟩, f⟩ := s
  · have : xs = [] := List.eq_nil_of_length_eq_zero h0
    subst this; simp at hx
  · obtain ⟨vs, h1, h2, h3, h4⟩ := f.get hx
    refine ⟨⟨b, cap, rfl⟩, (List.getElem?_eq_some_iff.1 hx).1, vs, h1, h2, h3, fun L hL => ⟨(us ++ rest).toArray, e, (0, 0), .inr (hL (b, cells (us ++ rest) e) (by simp)), fun i u hi => ?_⟩⟩
    have := h4 i u hi
    have hlt := (List.getElem?_eq_some_iff.1 this).1
    simp only [ofs, Nat.zero_add, List.getElem?_toArray]
    rw [List.getElem?_append_left hlt]; exact this
theorem Q_indexO {t e e' by_ : Nat} {sl ix : Operand} {q : IntKind} {i : Int} {M : Hp} (s : OS h e' k C v xs M) (hx : xs[j]? = some x) (hop : o.op = .indexAddr t sl ix) (hs : ev fr sl = some v) (hi : ev fr ix = some (.int q i)) (he : elemOf? P t = some (e, k, by_)) (hj : i = (j : Int)) : QOP P o fr h L (ptr (blk v) (ofs v + j * k)) := by
  obtain ⟨⟨b, cap, rfl⟩, h1, _⟩ := s.at hx
  exact Q_index hop hs hi he hj h1
theorem L_oelA {t e : Nat} {M : Hp} {K : Value → Prop} (A B' : Hp) (s : OS h e k C v xs M) (hx : xs[j]? = some x) (hL : L = A ++ (M ++ B')) (ht : tyOf P t = some (true, k)) (kk : ∀ vs, vs.length = k → ones vs = true → C h x vs → K (.agg vs.toArray)) : LG P h L (blk v) (ofs v + j * k) t K := by
  obtain ⟨_, _, vs, h1, h2, h3, h4⟩ := s.at hx
  exact L_agg (h4 L (fun p hp => by rw [hL]; simp [hp])) ht h1 (kk vs h1 h2 h3)
theorem Q_lenO {c : Call} {x : Operand} {t e e' : TypeId} {M : Hp} (hop : o.op = .call c) (hc : c.callee = .builtin .len) (ha : c.args = #[x]) (hat : c.argTypes = #[t]) (hx : ev fr x = some v) (ht : P.underlying t = some (.slice e))
    (s : OS h e' k C v xs M) : QOP P o fr h L (.int .i64 (xs.length : Int)) := by
  obtain ⟨p, cap, rfl⟩ := s.slice
  exact Q_len hop hc ha hat hx ht
end

/-! ### Loops over a state -/
section
variable {P : Program} {r : Option Nat} {N : Nat} {h : Frag} {L : Hp} {D : List Nat} {fr : Fr} {Q : Post}
/-- the slots that are picked, with what they hold -/
def Pick (fr : Fr) : List Nat → Fr → Prop
  | [], f => f = []
  | s :: ss, f => ∃ v g, get? fr s = some v ∧ Pick fr ss g ∧ f = (s, v) :: g
theorem Pick.sub {fr : Fr} : ∀ {ss : List Nat} {f : Fr}, Pick fr ss f → FrSub f fr
  | [], _, e => by cases e; trivial
  | s :: ss, _, ⟨v, g, h1, h2, h3⟩ => by subst h3; exact ⟨h1, Pick.sub h2⟩
theorem FrSub.append : ∀ {f g fr : Fr}, FrSub f fr → FrSub g fr → FrSub (f ++ g) fr
  | [], _, _, _, y => y
  | (_, _) :: _, _, _, ⟨h1, h2⟩, y => ⟨h1, FrSub.append h2 y⟩
def roundF {α : Type} (m : α → Nat) (Lf : α → Hp) (ff : α → Fr) (Inv : Frag → α → Prop) (fk : Fr) (n : Nat) (D : List Nat) (Q : Post) : Post
  | .normal, h, L, D', fr => D' = D ∧ ∃ a, m a < n ∧ Inv h a ∧ List.Sublist (Lf a) L ∧ FrSub (ff a ++ fk) fr
  | e, h, L, D', fr => Q e h L D' fr
theorem WP_loopF {α : Type} {c : Code} (ks : List Nat) (m : α → Nat) (Lf : α → Hp) (ff : α → Fr) (Inv : Frag → α → Prop) (a0 : α) {fk : Fr} (hk : Pick fr ks fk) (h0 : Inv h a0) (hL : List.Sublist (Lf a0) L) (hs : FrSub (ff a0) fr)
    (round : ∀ h1 a, le h h1 → Inv h1 a → WP P r N c h1 (Lf a) D (ff a ++ fk) (roundF m Lf ff Inv fk (m a) D Q)) : WP P r N (.loop c) h L D fr Q := by
  refine WP.drop hL (WP_loop (fun n h' L' D' fr' => D' = D ∧ ∃ a, n = m a ∧ Inv h' a ∧ L' = Lf a ∧ fr' = ff a ++ fk) (m a0) (ff a0 ++ fk) ⟨rfl, a0, rfl, h0, rfl, rfl⟩ (hs.append hk.sub) ?_)
  rintro n h1 L1 D1 fr1 hl ⟨rfl, a, rfl, hi, rfl, rfl⟩
  intro ac w fa hw
  refine wpIn_mono (round h1 a hl hi ac w fa hw) fun e a2 w2 ⟨h2, L2, D2, fr2, q, f2, e2⟩ => ?_
  cases e with
  | normal =>
    obtain ⟨rfl, a', hm, hi', hs', hf'⟩ := q
    exact ⟨h2, Lf a', _, fr2, ⟨m a', hm, _, hf', rfl, a', rfl, hi', rfl, rfl⟩, f2, e2.drop hs'⟩
  | _ => exact ⟨h2, L2, D2, fr2, q, f2, e2⟩
theorem WP_loopC {α : Type} {c : Code} (ks : List Nat) (m : α → Nat) (ff : α → Fr) (Inv : Frag → α → Prop) (a0 : α) {fk : Fr} (hk : Pick fr ks fk) (hs : FrSub (ff a0) fr) (h0 : Inv h a0)
    (round : ∀ h1 a, le h h1 → Inv h1 a → WP P r N c h1 L D (ff a ++ fk) (roundF m (fun _ => L) ff Inv fk (m a) D Q)) : WP P r N (.loop c) h L D fr Q :=
  WP_loopF ks m (fun _ => L) ff Inv a0 hk h0 (List.Sublist.refl _) hs round
theorem WP_loopM {α : Type} {c : Code} (A B : Hp) (ks : List Nat) (m : α → Nat) (Mf : α → Hp) (ff : α → Fr) (Inv : Frag → α → Prop) (a0 : α) {fk : Fr} (hL : L = A ++ (Mf a0 ++ B)) (hk : Pick fr ks fk) (hs : FrSub (ff a0) fr) (h0 : Inv h a0)
    (round : ∀ h1 a, le h h1 → Inv h1 a → WP P r N c h1 (A ++ (Mf a ++ B)) D (ff a ++ fk) (roundF m (fun a => A ++ (Mf a ++ B)) ff Inv fk (m a) D Q)) : WP P r N (.loop c) h L D fr Q :=
  WP_loopF ks m (fun a => A ++ (Mf a ++ B)) ff Inv a0 hk h0 (by rw [hL]; exact List.Sublist.refl _) hs round
theorem roundF_r {α : Type} {m : α → Nat} {Lf : α → Hp} {ff : α → Fr} {Inv : Frag → α → Prop} {fk : Fr} {n : Nat} {D' : List Nat} (x : Q .ret h L D' fr) : roundF m Lf ff Inv fk n D Q .ret h L D' fr := x
theorem roundF_e {α : Type} {m : α → Nat} {Lf : α → Hp} {ff : α → Fr} {Inv : Frag → α → Prop} {fk : Fr} {n id : Nat} {D' : List Nat} (x : Q (.exit id) h L D' fr) : roundF m Lf ff Inv fk n D Q (.exit id) h L D' fr := x
theorem roundF_n {α : Type} {m : α → Nat} {Lf : α → Hp} {ff : α → Fr} {Inv : Frag → α → Prop} {fk : Fr} {n : Nat} (a : α) (hm : m a < n) (hi : Inv h a) (hs : List.Sublist (Lf a) L) (hf : FrSub (ff a ++ fk) fr) : roundF m Lf ff Inv fk n D Q .normal h L D fr := ⟨rfl, a, hm, hi, hs, hf⟩
end

/-! ### Calls -/
section
variable {P : Program} {r : Option Nat} {N : Nat} {h : Frag} {L : Hp} {D : List Nat} {fr : Fr} {o : Oper} {K : OCont} {ops : Array Oper} {rest : List Oper} {Cc : Frag → Hp → Fr → Prop}
/-- closures: a function value with what it captures -/
theorem W_callC {c : Call} {f : FuncId} {fo : Operand} {cap : List Value} {vs : List Value} {R : OCont} {M : Hp} (A B : Hp) (x : FSpec P f (vs ++ cap).toArray h M R) (hop : o.op = .call c) (hc : c.callee = .value fo) (hf : ev fr fo = some (.func (.func f) #[] cap.toArray)) (hvs : evs fr c.args.toList vs) (hcal : callOk P f = true) (hL : L = A ++ (M ++ B))
    (k : ∀ h' M' v, le h h' → R h' M' v → K h' (A ++ (M' ++ B)) v) : OPw P r o fr h L K := by
  obtain ⟨fn, hfn, hn, hb⟩ := callOk_spec hcal
  have e : (#[] ++ vs.toArray ++ cap.toArray : Array Value) = (vs ++ cap).toArray := by simp
  have hp : L.Perm (M ++ (A ++ B)) := by rw [hL]; simpa using (List.perm_append_comm_assoc A M B)
  have y := OPw_callM (r := r) (L := L) (M := M) (L2 := A ++ B) (K := fun h' L' v => ∃ M', L' = M' ++ (A ++ B) ∧ K h' (A ++ (M' ++ B)) v) hop hc hf hvs hfn hn hb hp (by rw [e]; exact x) (fun h' M' v hl q => ⟨M', rfl, k h' M' v hl q⟩)
  intro a ha w hw
  refine Oper.wpIn_mono (fun a' w' ⟨h', L', v, e1, ⟨M', e2, q⟩, z⟩ => ⟨h', A ++ (M' ++ B), v, e1, q, ?_⟩) (y a ha w hw)
  subst e2
  exact z.perm (by simpa using (List.perm_append_comm_assoc A M' B))
theorem W_callF {c : Call} {f : FuncId} {vs : List Value} {R : OCont} {M : Hp} (A B : Hp) (x : FSpec P f vs.toArray h M R) (hop : o.op = .call c) (hc : c.callee = .value (.func f)) (hvs : evs fr c.args.toList vs) (hcal : callOk P f = true) (hL : L = A ++ (M ++ B))
    (k : ∀ h' M' v, le h h' → R h' M' v → K h' (A ++ (M' ++ B)) v) : OPw P r o fr h L K :=
  W_callC (cap := []) A B (by simpa using x) hop hc rfl hvs hcal hL k
/-- what nobody else writes is lent: it is read alone -/
theorem PSpec.lend {f : FuncId} {args : Array Value} {M : Hp} {R : Value → Prop} (x : ∀ h', le h h' → (∀ p, p ∈ M → h' p.1 = some p.2) → PSpec P f args h' (fun _ v => R v)) : FSpec P f args h M (fun h' L' v => h' = h ∧ L' = M ∧ R v) := by
  intro w hw
  have hw2 : Holds h (M ++ []) w := by simpa using hw
  obtain ⟨e0, hm⟩ := Ext.keep hw2
  refine (x _ e0.le hm w e0.holds).mono fun e w' ⟨v, h', L', he, ⟨hL', q⟩, y⟩ => ⟨v, h, M, he, ⟨rfl, rfl, q⟩, ?_⟩
  have hfr : ∀ b, b < w.heap.size → w'.heap[b]? = w.heap[b]? := fun b hb => y.frame b hb (by simp [ids])
  refine ⟨le_refl h, ⟨⟨fun b o e => ?_, fun p hp => ?_⟩, hw.nodup, hw.apart⟩, y.size, fun b hb _ => hfr b hb, fun b o e => .inl e, fun p hp => .inr (mem_ids hp), y.os, y.tape, y.output, y.drawn⟩
  · rw [hfr b (hw.pers_lt e)]; exact hw.sees.pers b o e
  · rw [hfr _ (hw.lt hp)]; exact hw.sees.own p hp
/-- a closure that needs nothing owned -/
theorem C_callC {c : Call} {f : FuncId} {fo : Operand} {cap vs : List Value} {R : Frag → Value → Prop} (x : PSpec P f (vs ++ cap).toArray h R) (hop : o.op = .call c) (hc : c.callee = .value fo) (hf : ev fr fo = some (.func (.func f) #[] cap.toArray)) (hvs : evs fr c.args.toList vs) (hcal : callOk P f = true) (k : ∀ h' v, le h h' → R h' v → K h' [] v) : OPc P r o fr h L K := by
  obtain ⟨fn, hfn, hn, hb⟩ := callOk_spec hcal
  have e : (#[] ++ vs.toArray ++ cap.toArray : Array Value) = (vs ++ cap).toArray := by simp
  exact OPc_call (first := #[]) (cap := cap.toArray) (R := fun h' L' v => L' = [] ∧ R h' v) hop hc hf hvs hfn hn hb (by rw [e]; exact x) fun h' L' v hl ⟨e, q⟩ => by subst e; exact k h' v hl q
theorem C_callC0 {c : Call} {f : FuncId} {fo : Operand} {cap vs : List Value} {R : Value → Prop} (x : PSpec P f (vs ++ cap).toArray h (fun _ v => R v)) (hop : o.op = .call c) (hc : c.callee = .value fo) (hf : ev fr fo = some (.func (.func f) #[] cap.toArray)) (hvs : evs fr c.args.toList vs) (hcal : callOk P f = true) (k : ∀ v, R v → K h [] v) : OPc P r o fr h L K := by
  have y : OPc P r o fr h L (fun _ M v => M = [] ∧ R v) := C_callC x hop hc hf hvs hcal fun _ v _ q => ⟨rfl, q⟩
  intro a ha w hw
  refine Oper.wpIn_mono (fun a' w' ⟨h', M, v, e, ⟨hM, q⟩, z⟩ => ?_) (y a ha w hw)
  subst hM
  exact ⟨h, [], v, e, k v q, z.forget⟩
theorem C_callCv {c : Call} {f : FuncId} {fo : Operand} {cap vs : List Value} {v : Value} (x : PSpec P f (vs ++ cap).toArray h (fun _ u => u = v)) (hop : o.op = .call c) (hc : c.callee = .value fo) (hf : ev fr fo = some (.func (.func f) #[] cap.toArray)) (hvs : evs fr c.args.toList vs) (hcal : callOk P f = true) (k : K h [] v) : OPc P r o fr h L K :=
  C_callC0 x hop hc hf hvs hcal fun u e => by subst e; exact k
/-- owned blocks anywhere are given over -/
theorem keepAt {M A B : Hp} {w : World} (hw : Holds h (A ++ (M ++ B)) w) : ∃ h', Ext h (A ++ (M ++ B)) w h' (A ++ B) w ∧ ∀ p, p ∈ M → h' p.1 = some p.2 := by
  have hp : (M ++ (A ++ B)).Perm (A ++ (M ++ B)) := (List.perm_append_comm_assoc A M B).symm
  obtain ⟨e0, hm⟩ := Ext.keep (hw.perm hp)
  exact ⟨_, e0.of_perm hp.symm, hm⟩
theorem OPS_keepM {l : List Oper} (A M B : Hp) (hL : L = A ++ (M ++ B)) (x : ∀ h', le h h' → (∀ p, p ∈ M → h' p.1 = some p.2) → OPS P r N D ops l h' (A ++ B) fr Cc) : OPS P r N D ops l h L fr Cc := by
  subst hL
  intro a w fa hw
  obtain ⟨h', e0, hm⟩ := keepAt hw
  exact wpListIn_mono (fun e a' w' ⟨he, h2, L', fr', q, f, e1⟩ => ⟨he, h2, L', fr', q, f, e0.trans e1⟩) _ _ _ (x _ e0.le hm a w fa e0.holds)
theorem WP_keepM {c : Code} {Q : Post} (A M B : Hp) (hL : L = A ++ (M ++ B)) (x : ∀ h', le h h' → (∀ p, p ∈ M → h' p.1 = some p.2) → WP P r N c h' (A ++ B) D fr Q) : WP P r N c h L D fr Q := by
  subst hL
  intro a w fa hw
  obtain ⟨h', e0, hm⟩ := keepAt hw
  exact wpIn_mono (x h' e0.le hm a w fa e0.holds) fun _ _ _ ⟨h', L', D', fr', q, f, e⟩ => ⟨h', L', D', fr', q, f, e0.trans e⟩
/-- a box that is only read from here on -/
theorem at_of_keep {h' : Frag} {b t : Nat} {l : List Value} (e : ∀ p, p ∈ [(b, cells l t)] → h' p.1 = some p.2) : At h' b 0 l :=
  ⟨l.toArray, t, (0, 0), e (b, cells l t) (by simp), fun j v hv => by simpa using hv⟩
end
/-! ### Appends, with what is owned in three parts -/
section
variable {α : Type} {P : Program} {r : Option Nat} {h : Frag} {L : Hp} {fr : Fr} {o : Oper} {K : OCont} {B k : Nat} {C : CR α}
theorem OPw_perm {L2 : Hp} (hp : L.Perm L2) (x : OPw P r o fr h L2 K) : OPw P r o fr h L K := by
  intro a ha w hw
  exact Oper.wpIn_mono (fun a' w' ⟨h', L', v, e, q, z⟩ => ⟨h', L', v, e, q, z.of_perm hp⟩) (x a ha w (hw.perm hp.symm))
theorem OPw_permK {K' : OCont} (x : OPw P r o fr h L K') (hk : ∀ h' L' v, K' h' L' v → ∃ L'', L''.Perm L' ∧ K h' L'' v) : OPw P r o fr h L K := by
  intro a ha w hw
  refine Oper.wpIn_mono (fun a' w' ⟨h', L', v, e, q, z⟩ => ?_) (x a ha w hw)
  obtain ⟨L'', hp, q'⟩ := hk _ _ _ q
  exact ⟨h', L'', v, e, q', z.perm hp⟩
/-- append(xs, ys...), xs owned, ys not -/
theorem W_appS {c : Call} {s x : Operand} {t e by_ : Nat} {v u : Value} {xs ys : List α} {z : List Value} {M : Hp} (A A2 : Hp) (hos : OS h e k C v xs M) (hsl : SLB B h k C u ys) (hop : o.op = .call c) (hc : c.callee = .builtin .append) (ha : c.args = #[s, x]) (hat : c.argTypes = #[t, t])
    (hs : ev fr s = some v) (hx : ev fr x = some u) (he : elemOf? P t = some (e, k, by_)) (hz : zeroOf P e = some z) (hzk : z.length = k) (hL : L = A ++ (M ++ A2))
    (hb : (xs.length + ys.length) * by_ ≤ 140737488355328) (hnm : xs.length + ys.length ≤ 9223372036854775807) (kk : ∀ p c M', OS h e k C (.slice p (xs ++ ys).length c) (xs ++ ys) M' → K h (A ++ (M' ++ A2)) (.slice p (xs ++ ys).length c)) : OPw P r o fr h L K := by
  refine OPw_perm (L2 := (A ++ A2) ++ M) (by rw [hL]; simpa using (List.perm_append_comm (l₁ := M) (l₂ := A2)).append_left A) (OPw_permK (W_appendS (A ++ A2) (A ++ A2) hos hsl hop hc ha hat hs hx he hz hzk rfl (List.Sublist.refl _) hb hnm
    (K := fun h' L' v' => ∃ M', L' = (A ++ A2) ++ M' ∧ K h' (A ++ (M' ++ A2)) v') fun v' M' q => ⟨M', rfl, by obtain ⟨p, c, rfl⟩ := q.slice; exact kk p c M' q⟩) fun h' L' v' ⟨M', e1, q⟩ => ⟨_, ?_, q⟩)
  subst e1
  simpa using (List.perm_append_comm (l₁ := M') (l₂ := A2)).append_left A
/-- append(xs, y): the block of the one element stands at the head of what is owned -/
theorem W_app1 {c : Call} {s x : Operand} {t e by_ b : Nat} {v : Value} {xs : List α} {y : α} {vs z : List Value} {M : Hp} (A A2 : Hp) (hos : OS h e k C v xs M) (hop : o.op = .call c) (hc : c.callee = .builtin .append) (ha : c.args = #[s, x]) (hat : c.argTypes = #[t, t])
    (hs : ev fr s = some v) (hx : ev fr x = some (.slice (some ⟨b, 0, none⟩) 1 1)) (he : elemOf? P t = some (e, k, by_)) (hz : zeroOf P e = some z) (hzk : z.length = k) (hL : L = (b, cells vs e) :: (A ++ (M ++ A2))) (hvs : vs.length = k) (h1 : ones vs = true) (hy : C h y vs)
    (hb : (xs.length + 1) * by_ ≤ 140737488355328) (hnm : xs.length + 1 ≤ 9223372036854775807) (kk : ∀ p c M', OS h e k C (.slice p (xs ++ [y]).length c) (xs ++ [y]) M' → K h (A ++ (M' ++ A2)) (.slice p (xs ++ [y]).length c)) : OPw P r o fr h L K := by
  refine OPw_perm (L2 := (b, cells vs e) :: ((A ++ A2) ++ M)) (by rw [hL]; exact List.Perm.cons _ (by simpa using (List.perm_append_comm (l₁ := M) (l₂ := A2)).append_left A)) (OPw_permK (W_append1 (A ++ A2) hos hop hc ha hat hs hx he hz hzk rfl hvs h1 hy hb hnm
    (K := fun h' L' v' => ∃ M', L' = (A ++ A2) ++ M' ∧ K h' (A ++ (M' ++ A2)) v') fun v' M' q => ⟨M', rfl, by obtain ⟨p, c, rfl⟩ := q.slice; exact kk p c M' q⟩) fun h' L' v' ⟨M', e1, q⟩ => ⟨_, ?_, q⟩)
  subst e1
  simpa using (List.perm_append_comm (l₁ := M') (l₂ := A2)).append_left A
end
end Go.Mesh
