/-
  Part MAA of the proof's ground: Core, Steps, Draws.
-/
import Derived.TacticsIn
import Derived.RangeFuncLeaves
import Derived.OrdersIn
import Derived.Below
/-
  THE GROUND OF THE OBSERVER PROOFS: a small separation logic over the guide's fenced calculus ('Code.wpIn' at the wide fence).
  A state is: h (blocks that nobody writes any more), L (blocks that are owned), D (marks of ranges over functions), fr (what is known of the slots).
-/
set_option linter.all false
namespace Go.Mesh
open Go.RowKit

abbrev Frag := Nat → Option Obj
abbrev Hp := List (Nat × Obj)
abbrev Fr := List (Nat × Value)

def le (h h' : Frag) : Prop := ∀ b o, h b = some o → h' b = some o
theorem le_refl (h : Frag) : le h h := fun _ _ x => x
theorem le_trans {a b c : Frag} (x : le a b) (y : le b c) : le a c := fun k o e => y k o (x k o e)

def ids (L : Hp) : List Nat := L.map (·.1)
theorem mem_ids {L : Hp} {p : Nat × Obj} (h : p ∈ L) : p.1 ∈ ids L := List.mem_map.2 ⟨p, h, rfl⟩
theorem ids_append (L M : Hp) : ids (L ++ M) = ids L ++ ids M := by simp [ids]

structure Sees (h : Frag) (L : Hp) (w : World) : Prop where
  pers : ∀ b o, h b = some o → w.heap[b]? = some o
  own : ∀ p, p ∈ L → w.heap[p.1]? = some p.2

structure Holds (h : Frag) (L : Hp) (w : World) : Prop where
  sees : Sees h L w
  nodup : (ids L).Nodup
  apart : ∀ p, p ∈ L → h p.1 = none

theorem Sees.mono {h h' : Frag} {L L' : Hp} {w : World} (s : Sees h' L' w) (hl : le h h') (hL : ∀ p, p ∈ L → p ∈ L') : Sees h L w :=
  ⟨fun b o e => s.pers b o (hl b o e), fun p hp => s.own p (hL p hp)⟩

theorem Holds.lt {h : Frag} {L : Hp} {w : World} (s : Holds h L w) {p : Nat × Obj} (hp : p ∈ L) : p.1 < w.heap.size := by
  have := s.sees.own p hp
  exact (Array.getElem?_eq_some_iff.1 this).1
theorem Holds.lt_ids {h : Frag} {L : Hp} {w : World} (s : Holds h L w) {b : Nat} (hb : b ∈ ids L) : b < w.heap.size := by
  obtain ⟨p, hp, rfl⟩ := List.mem_map.1 hb
  exact s.lt hp
theorem Holds.pers_lt {h : Frag} {L : Hp} {w : World} (s : Holds h L w) {b : Nat} {o : Obj} (hb : h b = some o) : b < w.heap.size :=
  (Array.getElem?_eq_some_iff.1 (s.sees.pers b o hb)).1

structure Ext (h : Frag) (L : Hp) (w : World) (h' : Frag) (L' : Hp) (w' : World) : Prop where
  le : le h h'
  holds : Holds h' L' w'
  size : w.heap.size ≤ w'.heap.size
  frame : ∀ b, b < w.heap.size → b ∉ ids L → w'.heap[b]? = w.heap[b]?
  persNew : ∀ b o, h' b = some o → h b = some o ∨ w.heap.size ≤ b ∨ b ∈ ids L
  ownNew : ∀ p, p ∈ L' → w.heap.size ≤ p.1 ∨ p.1 ∈ ids L
  os : w'.os = w.os
  tape : w'.tape = w.tape
  output : w'.output = w.output
  drawn : w.drawn ≤ w'.drawn

theorem Ext.same {h : Frag} {L : Hp} {w w' : World} (s : Holds h L w) (hh : w'.heap = w.heap) (ho : w'.os = w.os) (ht : w'.tape = w.tape) (hp : w'.output = w.output) (hn : w.drawn ≤ w'.drawn) :
    Ext h L w h L w' where
  le := le_refl h
  holds := ⟨⟨fun b o e => by rw [hh]; exact s.sees.pers b o e, fun p hp => by rw [hh]; exact s.sees.own p hp⟩, s.nodup, s.apart⟩
  size := by rw [hh]; exact Nat.le_refl _
  frame := fun b _ _ => by rw [hh]
  persNew := fun b o e => .inl e
  ownNew := fun p hp => .inr (mem_ids hp)
  os := ho
  tape := ht
  output := hp
  drawn := hn
theorem Ext.refl {h : Frag} {L : Hp} {w : World} (s : Holds h L w) : Ext h L w h L w := Ext.same s rfl rfl rfl rfl (Nat.le_refl _)

theorem Ext.trans {h h1 h2 : Frag} {L L1 L2 : Hp} {w w1 w2 : World} (x : Ext h L w h1 L1 w1) (y : Ext h1 L1 w1 h2 L2 w2) : Ext h L w h2 L2 w2 where
  le := le_trans x.le y.le
  holds := y.holds
  size := Nat.le_trans x.size y.size
  frame := fun b hb hn => by
    have hn1 : b ∉ ids L1 := fun hm => by
      obtain ⟨p, hp, rfl⟩ := List.mem_map.1 hm
      rcases x.ownNew p hp with h | h
      · omega
      · exact hn h
    rw [y.frame b (Nat.lt_of_lt_of_le hb x.size) hn1, x.frame b hb hn]
  persNew := fun b o e => by
    rcases y.persNew b o e with h | h | h
    · exact x.persNew b o h
    · exact .inr (.inl (Nat.le_trans x.size h))
    · obtain ⟨p, hp, rfl⟩ := List.mem_map.1 h
      exact .inr (x.ownNew p hp)
  ownNew := fun p hp => by
    rcases y.ownNew p hp with h | h
    · exact .inl (Nat.le_trans x.size h)
    · obtain ⟨q, hq, e⟩ := List.mem_map.1 h
      rw [← e]; exact x.ownNew q hq
  os := y.os.trans x.os
  tape := y.tape.trans x.tape
  output := y.output.trans x.output
  drawn := Nat.le_trans x.drawn y.drawn

/-- THE FRAME RULE. -/
theorem Ext.framed {h h' : Frag} {L L' M : Hp} {w w' : World} (s : Holds h (L ++ M) w) (x : Ext h L w h' L' w') : Ext h (L ++ M) w h' (L' ++ M) w' := by
  have hnd := s.nodup
  rw [ids_append, List.nodup_append] at hnd
  obtain ⟨_, hM, hd⟩ := hnd
  have hMw : ∀ p, p ∈ M → p.1 < w.heap.size := fun p hp => s.lt (List.mem_append_right _ hp)
  have hML : ∀ p, p ∈ M → p.1 ∉ ids L := fun p hp hm => hd _ hm _ (mem_ids hp) rfl
  refine ⟨x.le, ⟨⟨x.holds.sees.pers, fun p hp => ?_⟩, ?_, fun p hp => ?_⟩, x.size, fun b hb hn => ?_, fun b o e => ?_, fun p hp => ?_, x.os, x.tape, x.output, x.drawn⟩
  · rcases List.mem_append.1 hp with hp | hp
    · exact x.holds.sees.own p hp
    · rw [x.frame _ (hMw p hp) (hML p hp)]; exact s.sees.own p (List.mem_append_right _ hp)
  · rw [ids_append, List.nodup_append]
    refine ⟨x.holds.nodup, hM, fun a ha b hb e => ?_⟩
    obtain ⟨p, hp, rfl⟩ := List.mem_map.1 ha
    obtain ⟨q, hq, rfl⟩ := List.mem_map.1 hb
    rcases x.ownNew p hp with h | h
    · have := hMw q hq; omega
    · exact hML q hq (by rw [← e]; exact h)
  · rcases List.mem_append.1 hp with hp | hp
    · exact x.holds.apart p hp
    · cases hh : h' p.1 with
      | none => rfl
      | some o =>
        rcases x.persNew _ o hh with h | h | h
        · rw [s.apart p (List.mem_append_right _ hp)] at h; cases h
        · have := hMw p hp; omega
        · exact absurd h (hML p hp)
  · rw [ids_append] at hn
    exact x.frame b hb (fun hm => hn (List.mem_append_left _ hm))
  · rcases x.persNew b o e with h | h | h
    · exact .inl h
    · exact .inr (.inl h)
    · exact .inr (.inr (by rw [ids_append]; exact List.mem_append_left _ h))
  · rcases List.mem_append.1 hp with hp | hp
    · rcases x.ownNew p hp with h | h
      · exact .inl h
      · exact .inr (by rw [ids_append]; exact List.mem_append_left _ h)
    · exact .inr (by rw [ids_append]; exact List.mem_append_right _ (mem_ids hp))

/-- Owned blocks may be let go. -/
theorem Ext.drop {h h' : Frag} {L L' L2 : Hp} {w w' : World} (x : Ext h L w h' L' w') (hs : List.Sublist L2 L') : Ext h L w h' L2 w' where
  le := x.le
  holds := ⟨⟨x.holds.sees.pers, fun p hp => x.holds.sees.own p (hs.subset hp)⟩, (hs.map _).nodup x.holds.nodup, fun p hp => x.holds.apart p (hs.subset hp)⟩
  size := x.size
  frame := x.frame
  persNew := x.persNew
  ownNew := fun p hp => x.ownNew p (hs.subset hp)
  os := x.os
  tape := x.tape
  output := x.output
  drawn := x.drawn
/-- The order of owned blocks does not matter. -/
theorem Ext.perm {h h' : Frag} {L L' L2 : Hp} {w w' : World} (x : Ext h L w h' L' w') (hs : L2.Perm L') : Ext h L w h' L2 w' where
  le := x.le
  holds := ⟨⟨x.holds.sees.pers, fun p hp => x.holds.sees.own p (hs.mem_iff.1 hp)⟩, ((hs.map _).nodup_iff).2 x.holds.nodup, fun p hp => x.holds.apart p (hs.mem_iff.1 hp)⟩
  size := x.size
  frame := x.frame
  persNew := x.persNew
  ownNew := fun p hp => x.ownNew p (hs.mem_iff.1 hp)
  os := x.os
  tape := x.tape
  output := x.output
  drawn := x.drawn
theorem Holds.perm {h : Frag} {L L2 : Hp} {w : World} (s : Holds h L w) (hs : L2.Perm L) : Holds h L2 w :=
  ((Ext.refl s).perm hs).holds
theorem Holds.drop {h : Frag} {L L2 : Hp} {w : World} (s : Holds h L w) (hs : List.Sublist L2 L) : Holds h L2 w :=
  ((Ext.refl s).drop hs).holds
/-- The start may be widened. -/
theorem Ext.of_perm {h h' : Frag} {L L' L2 : Hp} {w w' : World} (x : Ext h L w h' L' w') (hs : L2.Perm L) : Ext h L2 w h' L' w' where
  le := x.le
  holds := x.holds
  size := x.size
  frame := fun b hb hn => x.frame b hb (fun hm => hn (((hs.map _).mem_iff).2 hm))
  persNew := fun b o e => (x.persNew b o e).imp id (Or.imp id fun hm => ((hs.map _).mem_iff).2 hm)
  ownNew := fun p hp => (x.ownNew p hp).imp id fun hm => ((hs.map _).mem_iff).2 hm
  os := x.os
  tape := x.tape
  output := x.output
  drawn := x.drawn

/-- A new block. -/
theorem Ext.alloc {h : Frag} {L : Hp} {w : World} (s : Holds h L w) (o : Obj) : Ext h L w h ((w.heap.size, o) :: L) { w with heap := w.heap.push o } := by
  have hlt : ∀ b, b < w.heap.size → (w.heap.push o)[b]? = w.heap[b]? := fun b hb => by rw [Array.getElem?_push, if_neg (by omega)]
  refine ⟨le_refl h, ⟨⟨fun b o' e => ?_, fun p hp => ?_⟩, ?_, fun p hp => ?_⟩, ?_, fun b hb _ => hlt b hb, fun b o e => .inl e, fun p hp => ?_, rfl, rfl, rfl, Nat.le_refl _⟩
  · rw [hlt b (s.pers_lt e)]; exact s.sees.pers b o' e
  · rcases List.mem_cons.1 hp with rfl | hp
    · simp
    · rw [hlt _ (s.lt hp)]; exact s.sees.own p hp
  · show (w.heap.size :: ids L).Nodup
    rw [List.nodup_cons]
    exact ⟨fun hm => by have := s.lt_ids hm; omega, s.nodup⟩
  · rcases List.mem_cons.1 hp with rfl | hp
    · cases hh : h w.heap.size with
      | none => rfl
      | some o' => have := s.pers_lt hh; omega
    · exact s.apart p hp
  · simp
  · rcases List.mem_cons.1 hp with rfl | hp
    · exact .inl (Nat.le_refl _)
    · exact .inr (mem_ids hp)

/-- 'L has b with o; with o' in its place it is L''. -/
def Upd (b : Nat) (o o' : Obj) (L L' : Hp) : Prop := ∃ A B, L = A ++ (b, o) :: B ∧ L' = A ++ (b, o') :: B
theorem Upd.head {b : Nat} {o o' : Obj} (L : Hp) : Upd b o o' ((b, o) :: L) ((b, o') :: L) := ⟨[], L, rfl, rfl⟩
theorem Upd.tail {b : Nat} {o o' : Obj} (p : Nat × Obj) {L L' : Hp} (u : Upd b o o' L L') : Upd b o o' (p :: L) (p :: L') := by
  obtain ⟨A, B, rfl, rfl⟩ := u; exact ⟨p :: A, B, rfl, rfl⟩
theorem Upd.skip {b : Nat} {o o' : Obj} (M : Hp) {L L' : Hp} (u : Upd b o o' L L') : Upd b o o' (M ++ L) (M ++ L') := by
  obtain ⟨A, B, rfl, rfl⟩ := u; exact ⟨M ++ A, B, by simp, by simp⟩
theorem Upd.split {b : Nat} {o o' : Obj} {L L' : Hp} (u : Upd b o o' L L') : ∃ A B, L = A ++ (b, o) :: B ∧ L' = A ++ (b, o') :: B := u
theorem Upd.mem {b : Nat} {o o' : Obj} {L L' : Hp} (u : Upd b o o' L L') : (b, o) ∈ L := by
  obtain ⟨A, B, rfl, _⟩ := u.split; simp
theorem Upd.ids {b : Nat} {o o' : Obj} {L L' : Hp} (u : Upd b o o' L L') : Mesh.ids L' = Mesh.ids L := by
  obtain ⟨A, B, rfl, rfl⟩ := u.split; simp [Mesh.ids]

theorem Ext.set {h : Frag} {L L' : Hp} {w : World} (s : Holds h L w) {b : Nat} {o o' : Obj} (u : Upd b o o' L L') {w' : World}
    (hb : w'.heap[b]? = some o') (hne : ∀ k, k ≠ b → w'.heap[k]? = w.heap[k]?) (hsz : w'.heap.size = w.heap.size) (ho : w'.os = w.os) (ht : w'.tape = w.tape) (hp : w'.output = w.output) (hdn : w'.drawn = w.drawn) :
    Ext h L w h L' w' := by
  have hid := u.ids
  have hbL : b ∈ ids L := mem_ids u.mem
  have hmem : ∀ p, p ∈ L' → p = (b, o') ∨ (p ∈ L ∧ p.1 ≠ b) := by
    intro p hp
    obtain ⟨A, B, e1, e2⟩ := u.split
    have hnd := s.nodup
    rw [e1] at hnd
    simp only [ids, List.map_append, List.map_cons] at hnd
    rw [List.nodup_append] at hnd
    obtain ⟨_, hnd2, hdis⟩ := hnd
    rw [List.nodup_cons] at hnd2
    rw [e2] at hp
    rcases List.mem_append.1 hp with hp | hp
    · refine .inr ⟨by rw [e1]; exact List.mem_append_left _ hp, fun e => ?_⟩
      exact hdis p.1 (List.mem_map.2 ⟨p, hp, rfl⟩) b (by simp) e
    · rcases List.mem_cons.1 hp with rfl | hp
      · exact .inl rfl
      · exact .inr ⟨by rw [e1]; exact List.mem_append_right _ (List.mem_cons_of_mem _ hp), fun e => hnd2.1 (by rw [← e]; exact List.mem_map.2 ⟨p, hp, rfl⟩)⟩
  refine ⟨le_refl h, ⟨⟨fun k o e => ?_, fun p hp => ?_⟩, by rw [hid]; exact s.nodup, fun p hp => ?_⟩, by rw [hsz]; exact Nat.le_refl _, fun k _ hk => hne k (fun e => hk (e ▸ hbL)), fun k o e => .inl e, fun p hp => ?_, ho, ht, hp, Nat.le_of_eq hdn.symm⟩
  · rw [hne k (fun e' => by
      subst e'
      have := s.apart _ u.mem
      rw [this] at e; cases e)]
    exact s.sees.pers k o e
  · rcases hmem p hp with rfl | ⟨hp, hn⟩
    · exact hb
    · rw [hne _ hn]; exact s.sees.own p hp
  · rcases hmem p hp with rfl | ⟨hp, _⟩
    · exact s.apart (b, o) u.mem
    · exact s.apart p hp
  · exact .inr (by rw [← hid]; exact mem_ids hp)

/-- Owned blocks may be given over to those that nobody writes any more. -/
def add (h : Frag) (M : Hp) : Frag := fun b => match M.lookup b with | some o => some o | none => h b
theorem lookup_mem {M : Hp} {b : Nat} {o : Obj} (e : M.lookup b = some o) : (b, o) ∈ M := by
  induction M with
  | nil => simp at e
  | cons p M ih =>
    obtain ⟨k, o'⟩ := p
    simp only [List.lookup] at e
    by_cases hk : b = k
    · subst hk; simp at e; simp [e]
    · have : (b == k) = false := by simpa using hk
      simp only [this] at e
      exact List.mem_cons_of_mem _ (ih e)
theorem mem_lookup {M : Hp} (hn : (ids M).Nodup) {b : Nat} {o : Obj} (hm : (b, o) ∈ M) : M.lookup b = some o := by
  induction M with
  | nil => cases hm
  | cons p M ih =>
    obtain ⟨k, o'⟩ := p
    simp only [ids, List.map_cons] at hn
    rw [List.nodup_cons] at hn
    simp only [List.lookup]
    rcases List.mem_cons.1 hm with e | hm
    · cases e; simp
    · have : (b == k) = false := by
        have : b ≠ k := fun e => hn.1 (by rw [← e]; exact List.mem_map.2 ⟨_, hm, rfl⟩)
        simpa using this
      simp only [this]
      exact ih hn.2 hm
theorem Ext.keep {h : Frag} {L M : Hp} {w : World} (s : Holds h (M ++ L) w) : Ext h (M ++ L) w (add h M) L w ∧ ∀ p, p ∈ M → add h M p.1 = some p.2 := by
  have hnd := s.nodup
  rw [ids_append, List.nodup_append] at hnd
  obtain ⟨hM, hL, hd⟩ := hnd
  refine ⟨⟨fun b o e => ?_, ⟨⟨fun b o e => ?_, fun p hp => s.sees.own p (List.mem_append_right _ hp)⟩, hL, fun p hp => ?_⟩, Nat.le_refl _, fun _ _ _ => rfl, fun b o e => ?_, fun p hp => .inr (mem_ids (List.mem_append_right _ hp)), rfl, rfl, rfl, Nat.le_refl _⟩, fun p hp => ?_⟩
  · unfold add
    cases hl : M.lookup b with
    | none => exact e
    | some o' =>
      have := s.apart (b, o') (List.mem_append_left _ (lookup_mem hl))
      simp only at this
      rw [this] at e; cases e
  · unfold add at e
    cases hl : M.lookup b with
    | none => rw [hl] at e; exact s.sees.pers b o e
    | some o' =>
      rw [hl] at e
      cases e
      exact s.sees.own (b, o) (List.mem_append_left _ (lookup_mem hl))
  · unfold add
    cases hl : M.lookup p.1 with
    | none => exact s.apart p (List.mem_append_right _ hp)
    | some o' => exact absurd rfl (hd p.1 (mem_ids (p := (p.1, o')) (lookup_mem hl)) p.1 (mem_ids hp))
  · unfold add at e
    cases hl : M.lookup b with
    | none => rw [hl] at e; exact .inl e
    | some o' => exact .inr (.inr (by rw [ids_append]; exact List.mem_append_left _ (mem_ids (p := (b, o')) (lookup_mem hl))))
  · unfold add
    rw [mem_lookup hM hp]

/-! ### Frames -/
def get? : Fr → Nat → Option Value
  | [], _ => none
  | (j, v) :: r, i => bif Nat.beq j i then some v else get? r i
theorem get?_cons (j i : Nat) (v : Value) (r : Fr) : get? ((j, v) :: r) i = if j = i then some v else get? r i := by
  simp only [get?]
  by_cases h : j = i
  · subst h; simp
  · have : Nat.beq j i = false := by
      cases hb : Nat.beq j i with
      | false => rfl
      | true => exact absurd (Nat.eq_of_beq_eq_true hb) h
    simp [this, h]

def marks (D : List Nat) : List Deferred := D.map fun d => { target := .collected d, args := #[] }

structure FrOk (N : Nat) (D : List Nat) (fr : Fr) (a : Act) : Prop where
  defers : a.defers = marks D
  size : a.tmps.size = N
  slots : ∀ i v, get? fr i = some v → a.tmps[i]? = some v

def putd (fr : Fr) : Option Tmp → Value → Fr
  | some d, v => (d, v) :: fr
  | none, _ => fr
def dstOk (N : Nat) : Option Tmp → Bool
  | some d => Nat.blt d N
  | none => true

theorem FrOk.put {N : Nat} {D : List Nat} {fr : Fr} {a : Act} (f : FrOk N D fr a) {dst : Option Tmp} (hd : dstOk N dst = true) (v : Value) : FrOk N D (putd fr dst v) (a.put dst v) := by
  cases dst with
  | none => exact f
  | some d =>
    have hd' : d < N := by simpa [dstOk, Nat.blt_eq] using hd
    refine ⟨f.defers, by simp [Act.put, f.size], fun i u e => ?_⟩
    simp only [putd, get?_cons] at e
    simp only [Act.put]
    rw [Array.getElem?_setIfInBounds]
    split at e
    · rename_i h; subst h; cases e; simp [f.size, hd']
    · rename_i h; rw [if_neg h]; exact f.slots i u e

def ev (fr : Fr) : Operand → Option Value
  | .tmp t => get? fr t
  | .const v => some v
  | .global g => some (.pointer (some ⟨g, 0, none⟩))
  | .func f => some (.func (.func f) #[] #[])

theorem FrOk.eval {N : Nat} {D : List Nat} {fr : Fr} {a : Act} (f : FrOk N D fr a) {x : Operand} {v : Value} (h : ev fr x = some v) : a.eval x = v := by
  cases x with
  | tmp t => have := f.slots t v h; simp [Act.eval, this]
  | const u => simpa [ev, Act.eval] using h
  | global g => simpa [ev, Act.eval] using h
  | func g => simpa [ev, Act.eval] using h

def FrSub : Fr → Fr → Prop
  | [], _ => True
  | (s, v) :: r, fr => get? fr s = some v ∧ FrSub r fr
theorem FrSub.get {f g : Fr} (h : FrSub f g) {i : Nat} {v : Value} (e : get? f i = some v) : get? g i = some v := by
  induction f with
  | nil => cases e
  | cons p f ih =>
    obtain ⟨s, u⟩ := p
    rw [get?_cons] at e
    split at e
    · rename_i hs; subst hs; cases e; exact h.1
    · exact ih h.2 e
theorem FrOk.sub {N : Nat} {D : List Nat} {fr fr' : Fr} {a : Act} (f : FrOk N D fr a) (h : FrSub fr' fr) : FrOk N D fr' a :=
  ⟨f.defers, f.size, fun i v e => f.slots i v (h.get e)⟩

/-! ### The fence -/
def FW (r : Option Nat) : Fence := { fn := fun _ => True, depth := none, alive := false, round := r }
theorem callsIn_FW {r : Option Nat} {n : Nat} {P : Program} {f : FuncId} {args : Array Value} {w : World} {R : Ending → World → Prop} (h : Calls P f args w R) : CallsIn (FW r) n P f args w R :=
  (callsIn_wide (n := n)).2 h
theorem calls_of_FW {r : Option Nat} {n : Nat} {P : Program} {f : FuncId} {args : Array Value} {w : World} {R : Ending → World → Prop} (h : CallsIn (FW r) n P f args w R) : Calls P f args w R :=
  (callsIn_wide (n := n)).1 h

abbrev Post := Exit → Frag → Hp → List Nat → Fr → Prop
abbrev Cont := Frag → Hp → List Nat → Fr → Prop

def lift (N : Nat) (h : Frag) (L : Hp) (w : World) (Q : Post) : Exit → Act → World → Prop :=
  fun e a' w' => ∃ h' L' D' fr', Q e h' L' D' fr' ∧ FrOk N D' fr' a' ∧ Ext h L w h' L' w'

def WP (P : Program) (r : Option Nat) (N : Nat) (c : Code) (h : Frag) (L : Hp) (D : List Nat) (fr : Fr) (Q : Post) : Prop :=
  ∀ a w, FrOk N D fr a → Holds h L w → c.wpIn (FW r) 0 P (lift N h L w Q) a w

def thenQ (K : Cont) (Q : Post) : Post
  | .normal, h, L, D, fr => K h L D fr
  | e, h, L, D, fr => Q e h L D fr
def blockQ (id : Nat) (Q : Post) : Post
  | .exit k, h, L, D, fr => if k = id then Q .normal h L D fr else Q (.exit k) h L D fr
  | e, h, L, D, fr => Q e h L D fr

section rules
variable {P : Program} {r : Option Nat} {N : Nat} {h : Frag} {L : Hp} {D : List Nat} {fr : Fr} {Q : Post}

theorem WP.mono {c : Code} {Q' : Post} (x : WP P r N c h L D fr Q) (hq : ∀ e h' L' D' fr', le h h' → Q e h' L' D' fr' → Q' e h' L' D' fr') : WP P r N c h L D fr Q' :=
  fun a w fa hw => wpIn_mono (x a w fa hw) fun _ _ _ ⟨h', L', D', fr', q, f, e⟩ => ⟨h', L', D', fr', hq _ _ _ _ _ e.le q, f, e⟩
theorem WP.sub {c : Code} {fr' : Fr} (hs : FrSub fr' fr) (x : WP P r N c h L D fr' Q) : WP P r N c h L D fr Q :=
  fun a w fa hw => x a w (fa.sub hs) hw
theorem WP.perm {c : Code} {L2 : Hp} (hs : L2.Perm L) (x : WP P r N c h L2 D fr Q) : WP P r N c h L D fr Q :=
  fun a w fa hw => wpIn_mono (x a w fa (hw.perm hs)) fun _ _ _ ⟨h', L', D', fr', q, f, e⟩ => ⟨h', L', D', fr', q, f, e.of_perm hs.symm⟩
theorem Ext.of_drop {h h' : Frag} {L L' L2 : Hp} {w w' : World} (x : Ext h L2 w h' L' w') (hs : List.Sublist L2 L) : Ext h L w h' L' w' where
  le := x.le
  holds := x.holds
  size := x.size
  frame := fun b hb hn => x.frame b hb (fun hm => hn ((hs.map _).subset hm))
  persNew := fun b o e => (x.persNew b o e).imp id (Or.imp id fun hm => (hs.map _).subset hm)
  ownNew := fun p hp => (x.ownNew p hp).imp id fun hm => (hs.map _).subset hm
  os := x.os
  tape := x.tape
  output := x.output
  drawn := x.drawn
theorem WP.drop {c : Code} {L2 : Hp} (hs : List.Sublist L2 L) (x : WP P r N c h L2 D fr Q) : WP P r N c h L D fr Q :=
  fun a w fa hw => wpIn_mono (x a w fa (hw.drop hs)) fun _ _ _ ⟨h', L', D', fr', q, f, e⟩ => ⟨h', L', D', fr', q, f, e.of_drop hs⟩
theorem WP.keep {c : Code} {M : Hp} (x : ∀ h', le h h' → (∀ p, p ∈ M → h' p.1 = some p.2) → WP P r N c h' L D fr Q) : WP P r N c h (M ++ L) D fr Q :=
  fun a w fa hw => by
    obtain ⟨e0, hm⟩ := Ext.keep hw
    exact wpIn_mono (x _ e0.le hm a w fa e0.holds) fun _ _ _ ⟨h', L', D', fr', q, f, e⟩ => ⟨h', L', D', fr', q, f, e0.trans e⟩

theorem WP_skip (x : Q .normal h L D fr) : WP P r N .skip h L D fr Q :=
  fun _ _ fa hw => wpIn_skip ⟨h, L, D, fr, x, fa, .refl hw⟩
theorem WP_exit {id : Nat} (x : Q (.exit id) h L D fr) : WP P r N (.exit id) h L D fr Q :=
  fun _ _ fa hw => wpIn_exit ⟨h, L, D, fr, x, fa, .refl hw⟩
theorem WP_ret (x : Q .ret h L D fr) : WP P r N .ret h L D fr Q :=
  fun _ _ fa hw => wpIn_ret ⟨h, L, D, fr, x, fa, .refl hw⟩
theorem WP_seq {x y : Code} (k : WP P r N x h L D fr (thenQ (fun h' L' D' fr' => WP P r N y h' L' D' fr' Q) Q)) : WP P r N (.seq x y) h L D fr Q :=
  fun a w fa hw => wpIn_seq (wpIn_mono (k a w fa hw) fun e a1 w1 ⟨h1, L1, D1, fr1, q, f1, e1⟩ => by
    cases e with
    | normal => exact wpIn_mono (q a1 w1 f1 e1.holds) fun _ _ _ ⟨h', L', D', fr', q, f, e⟩ => ⟨h', L', D', fr', q, f, e1.trans e⟩
    | _ => exact ⟨h1, L1, D1, fr1, q, f1, e1⟩)
theorem WP_cond {c : Operand} {x y : Code} {t : Bool} (hc : ev fr c = some (.bool t)) (ht : t = true → WP P r N x h L D fr Q) (hf : t = false → WP P r N y h L D fr Q) :
    WP P r N (.cond c x y) h L D fr Q :=
  fun a w fa hw => wpIn_cond_split (fa.eval hc) (fun e => ht e a w fa hw) (fun e => hf e a w fa hw)
theorem WP_block {id : Nat} {c : Code} (x : WP P r N c h L D fr (blockQ id Q)) : WP P r N (.block id c) h L D fr Q :=
  fun a w fa hw => wpIn_block (wpIn_mono (x a w fa hw) fun e a1 w1 ⟨h1, L1, D1, fr1, q, f1, e1⟩ => by
    cases e with
    | exit k =>
      simp only [Exit.inBlock]
      simp only [blockQ] at q
      by_cases hk : k = id
      · simp only [hk, if_true] at q ⊢; exact ⟨h1, L1, D1, fr1, q, f1, e1⟩
      · simp only [hk, if_false] at q ⊢; exact ⟨h1, L1, D1, fr1, q, f1, e1⟩
    | _ => exact ⟨h1, L1, D1, fr1, q, f1, e1⟩)

/-- A loop: I n at every round's head, n going down. -/
def roundQ (I : Nat → Cont) (n : Nat) (Q : Post) : Post
  | .normal, h, L, D, fr => ∃ m, m < n ∧ ∃ fr', FrSub fr' fr ∧ I m h L D fr'
  | e, h, L, D, fr => Q e h L D fr
theorem least (p : Nat → Prop) : ∀ n, p n → ∃ n, p n ∧ ∀ m, p m → n ≤ m := by
  intro n
  induction n using Nat.strongRecOn with
  | _ n ih =>
    intro hp
    by_cases hx : ∃ m, m < n ∧ p m
    · obtain ⟨m, hm, hpm⟩ := hx; exact ih m hm hpm
    · exact ⟨n, hp, fun m hm => Nat.le_of_not_lt fun hlt => hx ⟨m, hlt, hm⟩⟩
theorem leastFn {α β : Type} (p : α → β → Nat → Prop) : ∃ f : α → β → Nat, ∀ a b n, p a b n → p a b (f a b) ∧ ∀ m, p a b m → f a b ≤ m := by
  refine ⟨fun a b => @dite _ (∃ n, p a b n ∧ ∀ m, p a b m → n ≤ m) (Classical.propDecidable _) (fun hx => Classical.choose hx) (fun _ => 0), fun a b n hp => ?_⟩
  have hx := least (p a b) n hp
  simp only [dif_pos hx]
  exact Classical.choose_spec hx
theorem WP_loop {c : Code} (I : Nat → Cont) (n0 : Nat) (fr0 : Fr) (h0 : I n0 h L D fr0) (hs : FrSub fr0 fr)
    (round : ∀ n h1 L1 D1 fr1, le h h1 → I n h1 L1 D1 fr1 → WP P r N c h1 L1 D1 fr1 (roundQ I n Q)) : WP P r N (.loop c) h L D fr Q := by
  intro a w fa hw
  obtain ⟨f, hf⟩ := leastFn fun (a1 : Act) (w1 : World) n => ∃ h1 L1 D1 fr1, I n h1 L1 D1 fr1 ∧ FrOk N D1 fr1 a1 ∧ Ext h L w h1 L1 w1
  refine wpIn_loop (fun a1 w1 => ∃ n h1 L1 D1 fr1, I n h1 L1 D1 fr1 ∧ FrOk N D1 fr1 a1 ∧ Ext h L w h1 L1 w1) f ?_ ?_
  · exact ⟨n0, h, L, D, fr0, h0, fa.sub hs, .refl hw⟩
  · intro a1 w1 hI
    obtain ⟨n1, hI⟩ := hI
    obtain ⟨⟨h1, L1, D1, fr1, i1, f1, e1⟩, _⟩ := hf a1 w1 n1 hI
    refine wpIn_mono (round _ h1 L1 D1 fr1 e1.le i1 a1 w1 f1 e1.holds) fun e a2 w2 ⟨h2, L2, D2, fr2, q, f2, e2⟩ => ?_
    cases e with
    | normal =>
      obtain ⟨m, hm, fr', hs', im⟩ := q
      have hex : ∃ h1 L1 D1 fr1, I m h1 L1 D1 fr1 ∧ FrOk N D1 fr1 a2 ∧ Ext h L w h1 L1 w2 := ⟨h2, L2, D2, fr', im, f2.sub hs', e1.trans e2⟩
      exact ⟨⟨m, hex⟩, Nat.lt_of_le_of_lt ((hf a2 w2 m hex).2 m hex) hm⟩
    | _ => exact ⟨h2, L2, D2, fr2, q, f2, e1.trans e2⟩
end rules

end Go.Mesh
/-
  OPERATIONS, REGIONS AND CALLS in the logic of the first text: one operation; a region in the order of its text; a region that draws its order; a call by its contract; a function's contract from its body.
-/
set_option linter.all false
namespace Go.Mesh
open Go.RowKit

/-- An operation that yields the one value v and leaves the world alone, wherever what is known holds. -/
def QOP (P : Program) (o : Oper) (fr : Fr) (h : Frag) (L : Hp) (v : Value) : Prop :=
  (∀ c, o.op ≠ .defer c) ∧ ∀ a : Act, (∀ x u, ev fr x = some u → a.eval x = u) → ∀ w, Sees h L w → (execOp a.eval o).run P w = .ok (.value v) w

abbrev OCont := Frag → Hp → Value → Prop

/-- An operation that keeps what is owned (new blocks M may come). -/
def OPc (P : Program) (r : Option Nat) (o : Oper) (fr : Fr) (h : Frag) (L : Hp) (K : OCont) : Prop :=
  ∀ a : Act, (∀ x u, ev fr x = some u → a.eval x = u) → ∀ w, Holds h L w →
    o.wpIn (FW r) 0 P a w (fun a' w' => ∃ h' M v, a' = a.put o.dst v ∧ K h' M v ∧ Ext h L w h' (M ++ L) w') (fun _ _ _ => False)
/-- An operation that may change what is owned. -/
def OPw (P : Program) (r : Option Nat) (o : Oper) (fr : Fr) (h : Frag) (L : Hp) (K : OCont) : Prop :=
  ∀ a : Act, (∀ x u, ev fr x = some u → a.eval x = u) → ∀ w, Holds h L w →
    o.wpIn (FW r) 0 P a w (fun a' w' => ∃ h' L' v, a' = a.put o.dst v ∧ K h' L' v ∧ Ext h L w h' L' w') (fun _ _ _ => False)

section
variable {P : Program} {r : Option Nat} {N : Nat} {h : Frag} {L : Hp} {D : List Nat} {fr : Fr} {o : Oper} {K : OCont}

theorem wpIn_of_value {a : Act} {w w' : World} {v : Value} {next : Act → World → Prop} {Q : Exit → Act → World → Prop} (hd : ∀ c, o.op ≠ .defer c)
    (hr : (execOp a.eval o).run P w = .ok (.value v) w') (hk : next (a.put o.dst v) w') : o.wpIn (FW r) 0 P a w next Q :=
  ⟨fun _ _ => trivial, by rw [Oper.semAt_eq _ _ _ hd, hr]; exact hk⟩
theorem wpIn_of_skip {a : Act} {w w' : World} {next : Act → World → Prop} {Q : Exit → Act → World → Prop} (hd : ∀ c, o.op ≠ .defer c)
    (hr : (execOp a.eval o).run P w = .ok .skip w') (hk : next (a.put o.dst undef) w') : o.wpIn (FW r) 0 P a w next Q :=
  ⟨fun _ _ => trivial, by rw [Oper.semAt_eq _ _ _ hd, hr]; exact hk⟩

theorem OPc_of_Q {v : Value} (q : QOP P o fr h L v) (k : K h [] v) : OPc P r o fr h L K :=
  fun a ha w hw => wpIn_of_value q.1 (q.2 a ha w hw.sees) ⟨h, [], v, rfl, k, .refl hw⟩
theorem OPw_of_c {K' : OCont} (x : OPc P r o fr h L K') (hk : ∀ h' M v, K' h' M v → K h' (M ++ L) v) : OPw P r o fr h L K :=
  fun a ha w hw => Oper.wpIn_mono (fun _ _ ⟨h', M, v, e, k, x⟩ => ⟨h', M ++ L, v, e, hk _ _ _ k, x⟩) (x a ha w hw)
theorem OPc.mono {K' : OCont} (x : OPc P r o fr h L K') (hk : ∀ h' M v, K' h' M v → K h' M v) : OPc P r o fr h L K :=
  fun a ha w hw => Oper.wpIn_mono (fun _ _ ⟨h', M, v, e, k, x⟩ => ⟨h', M, v, e, hk _ _ _ k, x⟩) (x a ha w hw)
theorem OPw.mono {K' : OCont} (x : OPw P r o fr h L K') (hk : ∀ h' M v, K' h' M v → K h' M v) : OPw P r o fr h L K :=
  fun a ha w hw => Oper.wpIn_mono (fun _ _ ⟨h', M, v, e, k, x⟩ => ⟨h', M, v, e, hk _ _ _ k, x⟩) (x a ha w hw)

/-! ### A region in the order of its text -/
def OPS (P : Program) (r : Option Nat) (N : Nat) (D : List Nat) (ops : Array Oper) (l : List Oper) (h : Frag) (L : Hp) (fr : Fr) (K : Frag → Hp → Fr → Prop) : Prop :=
  ∀ a w, FrOk N D fr a → Holds h L w → wpListIn (FW r) 0 P ops (fun e a' w' => e = .normal ∧ ∃ h' L' fr', K h' L' fr' ∧ FrOk N D fr' a' ∧ Ext h L w h' L' w') l a w

theorem wpListIn_mono {ops : Array Oper} {Q Q' : Exit → Act → World → Prop} (hq : ∀ e a w, Q e a w → Q' e a w) : ∀ (l : List Oper) (a : Act) (w : World),
    wpListIn (FW r) 0 P ops Q l a w → wpListIn (FW r) 0 P ops Q' l a w := by
  intro l
  induction l with
  | nil => exact fun a w x => hq _ _ _ x
  | cons o rest ih =>
    intro a w x
    simp only [wpListIn] at x ⊢
    split
    · rename_i hw
      simp only [hw, if_true] at x
      refine ⟨x.1, ?_⟩
      have hx := x.2
      have hQn : ∀ chain a w, Q (.panic chain) a w → Q' (.panic chain) a w := fun _ _ _ => hq _ _ _
      have hout : LetsOut Q → LetsOut Q' := fun ⟨a₀, w₀, q⟩ => ⟨a₀, w₀, hq _ _ _ q⟩
      revert hx
      generalize (o.semAt (FW r).round a.eval).run P w = res
      intro hx
      cases res with
      | ok y w' =>
        cases y <;> simp only [Oper.uponIn] at hx ⊢ <;>
          first
            | exact ih _ _ hx
            | exact ⟨hx.1, CallsIn.mono hx.2 (fun e w'' he => by cases e <;> first | exact ih _ _ he | exact hQn _ _ _ he | exact hout he)⟩
            | exact ⟨hx.1, RowsIn.mono hx.2 (fun _ _ he => ih _ _ he)⟩
            | exact ⟨hx.1, RoundIn.mono hx.2 (fun e w'' he => by cases e <;> first | exact ih _ _ he | exact hQn _ _ _ he | exact hout he)⟩
      | halt y w' => cases y <;> simp only [Oper.uponIn] at hx ⊢ <;> exact hQn _ _ _ hx
    · rename_i hw
      simp only [hw] at x
      exact ⟨x.1, ih _ _ x.2⟩

theorem Oper.wpIn_monoQ {a : Act} {w : World} {next : Act → World → Prop} {Q : Exit → Act → World → Prop} (x : o.wpIn (FW r) 0 P a w next (fun _ _ _ => False)) : o.wpIn (FW r) 0 P a w next Q := by
  refine ⟨x.1, ?_⟩
  have hx := x.2
  revert hx
  generalize (o.semAt (FW r).round a.eval).run P w = res
  intro hx
  have hout : ∀ {q : Prop}, LetsOut (fun _ _ _ => False) → q := fun ⟨_, _, f⟩ => f.elim
  cases res with
  | ok y w' =>
    cases y <;> simp only [Oper.uponIn] at hx ⊢ <;>
      first
        | exact hx
        | exact ⟨hx.1, CallsIn.mono hx.2 (fun e w'' he => by cases e <;> first | exact he | exact he.elim | exact hout he)⟩
        | exact ⟨hx.1, RoundIn.mono hx.2 (fun e w'' he => by cases e <;> first | exact he | exact he.elim | exact hout he)⟩
  | halt y w' => cases y <;> simp only [Oper.uponIn] at hx ⊢ <;> exact hx.elim

variable {ops : Array Oper} {rest : List Oper} {C : Frag → Hp → Fr → Prop}

theorem WP_region {id : Nat} {Q : Post} (x : OPS P r N D ops ops.toList h L fr (fun h' L' fr' => Q .normal h' L' D fr')) : WP P r N (.region id ops false) h L D fr Q :=
  fun a w fa hw => wpIn_region_list (wpListIn_mono (fun e a' w' ⟨he, h', L', fr', q, f, e1⟩ => by subst he; exact ⟨h', L', D, fr', q, f, e1⟩) _ _ _ (x a w fa hw))

theorem OPS_nil (x : C h L fr) : OPS P r N D ops [] h L fr C := fun _ _ fa hw => ⟨rfl, h, L, fr, x, fa, .refl hw⟩

theorem OPS_w (hg : o.guard = none) (hd : dstOk N o.dst = true) (x : OPw P r o fr h L (fun h' L' v => OPS P r N D ops rest h' L' (putd fr o.dst v) C)) : OPS P r N D ops (o :: rest) h L fr C := by
  intro a w fa hw
  simp only [wpListIn, Region.wanted, hg, if_true]
  refine Oper.wpIn_monoQ (Oper.wpIn_mono (fun a' w' ⟨h', L', v, e, k, x1⟩ => ?_) (x a (fun _ _ e => fa.eval e) w hw))
  subst e
  exact wpListIn_mono (fun e a2 w2 ⟨he, h2, L2, fr2, q, f2, e2⟩ => ⟨he, h2, L2, fr2, q, f2, x1.trans e2⟩) _ _ _ (k _ _ (fa.put hd v) x1.holds)
theorem OPS_c (hg : o.guard = none) (hd : dstOk N o.dst = true) (x : OPc P r o fr h L (fun h' M v => OPS P r N D ops rest h' (M ++ L) (putd fr o.dst v) C)) : OPS P r N D ops (o :: rest) h L fr C :=
  OPS_w hg hd (OPw_of_c x fun _ _ _ k => k)
theorem OPS_q {v : Value} (hg : o.guard = none) (hd : dstOk N o.dst = true) (q : QOP P o fr h L v) (x : OPS P r N D ops rest h L (putd fr o.dst v) C) : OPS P r N D ops (o :: rest) h L fr C :=
  OPS_c hg hd (OPc_of_Q q x)

/-- what a guard's operation has yielded -/
theorem yielded_of {a : Act} (fa : FrOk N D fr a) {j : Nat} {oj : Oper} {d : Nat} {t : Bool} (hj : ops[j]? = some oj) (hd : oj.dst = some d) (hv : get? fr d = some (.bool t)) : yielded ops a.tmps j = some t := by
  simp [yielded, hj, hd, fa.slots d _ hv]
theorem OPS_gw {j : Nat} {want : Bool} {oj : Oper} {d : Nat} (hg : o.guard = some (j, want)) (hj : ops[j]? = some oj) (hdj : oj.dst = some d) (hv : get? fr d = some (.bool want)) (hd : dstOk N o.dst = true)
    (x : OPw P r o fr h L (fun h' L' v => OPS P r N D ops rest h' L' (putd fr o.dst v) C)) : OPS P r N D ops (o :: rest) h L fr C := by
  intro a w fa hw
  have hy := yielded_of (ops := ops) fa hj hdj hv
  simp only [wpListIn, Region.wanted, hg, hy, beq_self_eq_true, if_true]
  refine Oper.wpIn_monoQ (Oper.wpIn_mono (fun a' w' ⟨h', L', v, e, k, x1⟩ => ?_) (x a (fun _ _ e => fa.eval e) w hw))
  subst e
  exact wpListIn_mono (fun e a2 w2 ⟨he, h2, L2, fr2, q, f2, e2⟩ => ⟨he, h2, L2, fr2, q, f2, x1.trans e2⟩) _ _ _ (k _ _ (fa.put hd v) x1.holds)
theorem OPS_gc {j : Nat} {want : Bool} {oj : Oper} {d : Nat} (hg : o.guard = some (j, want)) (hj : ops[j]? = some oj) (hdj : oj.dst = some d) (hv : get? fr d = some (.bool want)) (hd : dstOk N o.dst = true)
    (x : OPc P r o fr h L (fun h' M v => OPS P r N D ops rest h' (M ++ L) (putd fr o.dst v) C)) : OPS P r N D ops (o :: rest) h L fr C :=
  OPS_gw hg hj hdj hv hd (OPw_of_c x fun _ _ _ k => k)
theorem OPS_gq {j : Nat} {want : Bool} {oj : Oper} {d : Nat} {v : Value} (hg : o.guard = some (j, want)) (hj : ops[j]? = some oj) (hdj : oj.dst = some d) (hv : get? fr d = some (.bool want)) (hd : dstOk N o.dst = true)
    (q : QOP P o fr h L v) (x : OPS P r N D ops rest h L (putd fr o.dst v) C) : OPS P r N D ops (o :: rest) h L fr C :=
  OPS_gc hg hj hdj hv hd (OPc_of_Q q x)
theorem OPS_gn {j : Nat} {want : Bool} {oj : Oper} {d : Nat} (hg : o.guard = some (j, want)) (hj : ops[j]? = some oj) (hdj : oj.dst = some d) (hv : get? fr d = some (.bool (!want))) (hd : dstOk N o.dst = true)
    (x : OPS P r N D ops rest h L (putd fr o.dst undef) C) : OPS P r N D ops (o :: rest) h L fr C := by
  intro a w fa hw
  have hy := yielded_of (ops := ops) fa hj hdj hv
  have hne : (some (!want) == some want) = false := by cases want <;> rfl
  simp only [wpListIn, Region.wanted, hg, hy, hne, Bool.false_eq_true, if_false]
  exact ⟨fun _ _ => trivial, x _ _ (fa.put hd undef) hw⟩

/-! ### Contracts -/
def FSpec (P : Program) (f : FuncId) (args : Array Value) (h : Frag) (L : Hp) (R : OCont) : Prop :=
  ∀ w, Holds h L w → Calls P f args w fun e w' => ∃ v h' L', e = .returned v ∧ R h' L' v ∧ Ext h L w h' L' w'

theorem FSpec.mono {f : FuncId} {args : Array Value} {R R' : OCont} (x : FSpec P f args h L R) (hr : ∀ h' L' v, le h h' → R h' L' v → R' h' L' v) : FSpec P f args h L R' :=
  fun w hw => (x w hw).mono fun _ _ ⟨v, h', L', e, q, y⟩ => ⟨v, h', L', e, hr _ _ _ y.le q, y⟩
theorem FSpec.framed {f : FuncId} {args : Array Value} {R : OCont} (M : Hp) (x : FSpec P f args h L R) : FSpec P f args h (L ++ M) (fun h' L' v => ∃ L1, L' = L1 ++ M ∧ R h' L1 v) :=
  fun w hw => (x w (hw.drop (List.sublist_append_left _ _))).mono fun _ _ ⟨v, h', L', e, q, y⟩ => ⟨v, h', L' ++ M, e, ⟨L', rfl, q⟩, y.framed hw⟩
/-- what is proved over less holds over more -/
theorem FSpec.wider {f : FuncId} {args : Array Value} {R : OCont} {h0 : Frag} (hl : le h0 h) (x : FSpec P f args h0 [] (fun h' L' v => L' = [] ∧ R h' [] v)) (hm : ∀ h1 h2 v, le h1 h2 → R h1 [] v → R h2 [] v) :
    FSpec P f args h [] (fun h' L' v => L' = [] ∧ R h' [] v) := by
  intro w hw
  have hw0 : Holds h0 [] w := ⟨⟨fun b o e => hw.sees.pers b o (hl b o e), fun p hp => by cases hp⟩, by simp [ids], fun p hp => by cases hp⟩
  refine (x w hw0).mono fun e w' ⟨v, h', L', he, ⟨hL, q⟩, y⟩ => ?_
  subst hL
  refine ⟨v, fun b => match h' b with | some o => some o | none => h b, [], he, ⟨rfl, hm h' _ v (fun b o e => by simp [e]) q⟩, ?_⟩
  have hfr : ∀ b, b < w.heap.size → w'.heap[b]? = w.heap[b]? := fun b hb => y.frame b hb (by simp [ids])
  refine ⟨fun b o e => ?_, ⟨⟨fun b o e => ?_, (fun p hp => by cases hp)⟩, by simp [ids], (fun p hp => by cases hp)⟩, y.size, fun b hb _ => hfr b hb, fun b o e => ?_, (fun p hp => by cases hp), y.os, y.tape, y.output, y.drawn⟩
  · cases hb : h' b with
    | none => simpa using e
    | some o' =>
      have h1 := y.holds.sees.pers b o' hb
      have h2 := hw.sees.pers b o e
      rw [hfr b (hw.pers_lt e), h2] at h1
      cases h1; rfl
  · cases hb : h' b with
    | none =>
      simp only [hb] at e
      rw [hfr b (hw.pers_lt e)]; exact hw.sees.pers b o e
    | some o' =>
      simp only [hb] at e
      cases e; exact y.holds.sees.pers b o hb
  · cases hb : h' b with
    | none => simp only [hb] at e; exact .inl e
    | some o' =>
      simp only [hb] at e
      cases e
      rcases y.persNew b o hb with h1 | h1
      · exact .inl (hl _ _ h1)
      · exact .inr h1

/-- the values of operands -/
def evs (fr : Fr) : List Operand → List Value → Prop
  | [], vs => vs = []
  | x :: xs, vs => ∃ v us, ev fr x = some v ∧ evs fr xs us ∧ vs = v :: us
theorem evs_map {a : Act} (ha : ∀ x u, ev fr x = some u → a.eval x = u) : ∀ {xs : List Operand} {vs : List Value}, evs fr xs vs → xs.map a.eval = vs
  | [], _, e => e.symm
  | x :: xs, _, ⟨v, us, e1, e2, e3⟩ => by subst e3; simp [ha x v e1, evs_map ha e2]

/-- A call of the program's function. -/
theorem OPw_call {c : Call} {f : FuncId} {fo : Operand} {first cap : Array Value} {vs : List Value} {fn : Func} {R : OCont} (hop : o.op = .call c) (hc : c.callee = .value fo) (hf : ev fr fo = some (.func (.func f) first cap))
    (hvs : evs fr c.args.toList vs) (hfn : P.funcs[f]? = some fn) (hn : fn.name ≠ "runtime.NumGoroutine") (hb : fn.body.isSome = true)
    (x : FSpec P f (first ++ vs.toArray ++ cap) h L R) (k : ∀ h' L' v, le h h' → R h' L' v → K h' L' v) : OPw P r o fr h L K := by
  intro a ha w hw
  have hd : ∀ c', o.op ≠ .defer c' := fun c' => by rw [hop]; simp
  have hargs : c.args.map a.eval = vs.toArray := by
    have := evs_map ha hvs
    rw [← this]
    exact Array.toList_inj.1 (by simp)
  have hrun : (execOp a.eval o).run P w = .ok (.enter f (first ++ vs.toArray ++ cap)) w := by
    have hbn : fn.body.isNone = false := by
      cases hx : fn.body with
      | none => rw [hx] at hb; cases hb
      | some _ => rfl
    unfold execOp
    rw [hop]
    simp only [Sem.run_bind, resolve, hc, hargs, ha fo _ hf, Deferred.ofValue, Sem.run_pure, Result.andThen_ok, invoke, callFunc, run_program, hfn]
    simp [hn, hbn]
  refine ⟨fun _ _ => trivial, ?_⟩
  rw [Oper.semAt_eq _ _ _ hd, hrun]
  refine ⟨fun e => by simp [FW] at e, callsIn_FW ((x w hw).mono fun e w' ⟨v, h', L', he, q, y⟩ => ?_)⟩
  subst he
  exact ⟨h', L', v, rfl, k _ _ _ y.le q, y⟩
/-- A call of a function that needs nothing owned. -/
theorem OPc_call {c : Call} {f : FuncId} {fo : Operand} {first cap : Array Value} {vs : List Value} {fn : Func} {R : OCont} (hop : o.op = .call c) (hc : c.callee = .value fo) (hf : ev fr fo = some (.func (.func f) first cap))
    (hvs : evs fr c.args.toList vs) (hfn : P.funcs[f]? = some fn) (hn : fn.name ≠ "runtime.NumGoroutine") (hb : fn.body.isSome = true)
    (x : FSpec P f (first ++ vs.toArray ++ cap) h [] R) (k : ∀ h' L' v, le h h' → R h' L' v → K h' L' v) : OPc P r o fr h L K := by
  have y := OPw_call (r := r) (L := [] ++ L) (K := fun h' L' v => ∃ L1, L' = L1 ++ L ∧ K h' L1 v) hop hc hf hvs hfn hn hb (x.framed L)
    (fun h' L' v hl ⟨L1, e, q⟩ => ⟨L1, e, k _ _ _ hl q⟩)
  intro a ha w hw
  exact Oper.wpIn_mono (fun a' w' ⟨h', L', v, e, ⟨L1, e1, q⟩, z⟩ => ⟨h', L1, v, e, q, by rw [e1] at z; exact z⟩) (y a ha w hw)
/-- A call of a function that needs some of what is owned, M; the rest is L2. -/
theorem OPw_callM {c : Call} {f : FuncId} {fo : Operand} {first cap : Array Value} {vs : List Value} {fn : Func} {R : OCont} {M L2 : Hp} (hop : o.op = .call c) (hc : c.callee = .value fo) (hf : ev fr fo = some (.func (.func f) first cap))
    (hvs : evs fr c.args.toList vs) (hfn : P.funcs[f]? = some fn) (hn : fn.name ≠ "runtime.NumGoroutine") (hb : fn.body.isSome = true) (hp : L.Perm (M ++ L2))
    (x : FSpec P f (first ++ vs.toArray ++ cap) h M R) (k : ∀ h' M' v, le h h' → R h' M' v → K h' (M' ++ L2) v) : OPw P r o fr h L K := by
  have y := OPw_call (r := r) (L := M ++ L2) (K := K) hop hc hf hvs hfn hn hb (x.framed L2) (fun h' L' v hl ⟨L1, e, q⟩ => by subst e; exact k _ _ _ hl q)
  intro a ha w hw
  exact Oper.wpIn_mono (fun a' w' ⟨h', L', v, e, q, z⟩ => ⟨h', L', v, e, q, z.of_perm hp⟩) (y a ha w (hw.perm hp.symm))

/-! ### A function's contract from its body -/
def LoadsAt (P : Program) (h : Frag) (L : Hp) (t : TypeId) (p v : Value) : Prop :=
  ∃ a, p = .pointer (some a) ∧ ∀ w, Sees h L w → (loadVar t a).run P w = .ok v w
def resVals (P : Program) (h : Frag) (L : Hp) (fr : Fr) : List ResultVar → List Value → Prop
  | [], vs => vs = []
  | .tmp t :: rs, vs => ∃ v us, get? fr t = some v ∧ resVals P h L fr rs us ∧ vs = v :: us
  | .cell c t :: rs, vs => ∃ p v us, get? fr c = some p ∧ LoadsAt P h L t p v ∧ resVals P h L fr rs us ∧ vs = v :: us
def resOf : List Value → Value
  | [v] => v
  | vs => .tuple vs.toArray

def resSem (tmps : Array Value) : ResultVar → Sem Value
  | .tmp t => pure (tmps.getD t undef)
  | .cell c t => do loadVar t (← asAddr (tmps.getD c undef))
theorem results_def (fn : Func) (tmps : Array Value) : results fn tmps = (do let vs ← fn.results.mapM (resSem tmps); pure (if h : vs.size = 1 then vs[0] else .tuple vs)) := by
  unfold results
  congr 2
theorem run_asAddr_some (q : Addr) (w : World) : (asAddr (.pointer (some q))).run P w = .ok q w := rfl
theorem results_run {a : Act} {w : World} (fa : FrOk N D fr a) (hw : Sees h L w) : ∀ {rs : List ResultVar} {vs : List Value}, resVals P h L fr rs vs →
    (rs.mapM (resSem a.tmps)).run P w = .ok vs w
  | [], _, e => by subst e; rfl
  | .tmp t :: rs, _, ⟨v, us, e1, e2, e3⟩ => by
    subst e3
    have hv : a.tmps.getD t undef = v := by simp [fa.slots t v e1]
    have ih := results_run fa hw e2
    simp only [List.mapM_cons, resSem, Sem.run_bind, Sem.run_pure, Result.andThen_ok, hv, ih]
  | .cell c t :: rs, _, ⟨p, v, us, e1, ⟨q, hq, hl⟩, e2, e3⟩ => by
    subst e3
    subst hq
    have hv : a.tmps.getD c undef = .pointer (some q) := by simp [fa.slots c _ e1]
    have ih := results_run fa hw e2
    simp only [List.mapM_cons, resSem, Sem.run_bind, Sem.run_pure, Result.andThen_ok, hv, run_asAddr_some, hl w hw, ih]

theorem results_eq {fn : Func} {a : Act} {w : World} (fa : FrOk N D fr a) (hw : Sees h L w) {vs : List Value} (hr : resVals P h L fr fn.results.toList vs) :
    (results fn a.tmps).run P w = .ok (resOf vs) w := by
  have hl := results_run fa hw hr
  rw [results_def]
  have : ∀ (xs : Array ResultVar) (g : ResultVar → Sem Value) (us : List Value), (xs.toList.mapM g).run P w = .ok us w → (xs.mapM g).run P w = .ok us.toArray w := by
    intro xs g us hx
    rw [Array.mapM_eq_mapM_toList]
    rw [Sem.run_map, hx]; rfl
  rw [Sem.run_bind, this _ _ _ hl]
  simp only [Result.andThen_ok, Sem.run_pure]
  cases vs with
  | nil => simp [resOf]
  | cons v vs =>
    cases vs with
    | nil => simp [resOf]
    | cons u vs => simp [resOf]

/-- What a function's body must come to: D marks' blocks are among what is owned, with no deferred call. -/
def retQ (P : Program) (fn : Func) (R : OCont) : Post := fun e h' L' D' fr' => (e = .ret ∨ e = .normal) ∧ D' = [] ∧ ∃ vs, resVals P h' L' fr' fn.results.toList vs ∧ ∀ w, Holds h' L' w → ∃ h2 L2, Ext h' L' w h2 L2 w ∧ R h2 L2 (resOf vs)

def argFr : List Value → Nat → Fr
  | [], _ => []
  | v :: vs, i => (i, v) :: argFr vs (i + 1)
theorem argFr_get : ∀ (vs : List Value) (k i : Nat) (v : Value), get? (argFr vs k) i = some v → k ≤ i ∧ vs[i - k]? = some v
  | [], _, _, _, e => by cases e
  | u :: vs, k, i, v, e => by
    simp only [argFr, get?_cons] at e
    split at e
    · rename_i h; subst h; cases e; simp
    · rename_i h
      obtain ⟨h1, h2⟩ := argFr_get vs (k + 1) i v e
      refine ⟨by omega, ?_⟩
      have : i - k = (i - (k + 1)) + 1 := by omega
      rw [this]; simpa using h2

theorem FSpec_of {f : FuncId} {fn : Func} {c : Code} {vs : List Value} {R : OCont} (hf : P.funcs[f]? = some fn) (hb : fn.body = some c) (hN : Nat.ble vs.length fn.ntmps = true)
    (x : WP P none fn.ntmps c h L [] (argFr vs 0) (retQ P fn R)) : FSpec P f vs.toArray h L R := by
  intro w hw
  have hN' : vs.length ≤ fn.ntmps := Nat.le_of_ble_eq_true hN
  refine calls_of_FW (r := none) (n := 0) (callsIn_of_wp hf hb trivial (wpIn_mono (x _ w ⟨rfl, by simp; omega, fun i v e => ?_⟩ hw) fun e a' w' ⟨h', L', D', fr', ⟨he, hD, us, hr, q⟩, fa, y⟩ => ?_) rfl)
  · obtain ⟨_, h2⟩ := argFr_get vs 0 i v e
    simp only [Nat.sub_zero] at h2
    have hlt := (List.getElem?_eq_some_iff.1 h2).1
    rw [Array.getElem?_append_left (by simpa using hlt)]
    simpa using h2
  · subst hD
    have hres := results_eq (fn := fn) fa y.holds.sees hr
    have hdf : a'.defers = [] := fa.defers
    obtain ⟨h2, L2, e2, q⟩ := q w' y.holds
    rcases he with he | he <;> subst he <;> exact ⟨hdf, _, hres, _, h2, L2, rfl, q, y.trans e2⟩
end
end Go.Mesh
/-
  A REGION THAT DRAWS ITS ORDER: operations that yield one value wherever what is known holds are taken first, in the order of the text; where one other operation alone is ready it is taken; where several are, each is.
-/
set_option linter.all false
namespace Go.Mesh
open Go.RowKit

def calmOp : Op → Bool
  | .store .. | .mapUpdate .. | .insert .. | .mapEntry .. | .entryStore .. | .next .. | .ready _ | .go _ | .defer _ | .panic _ | .send .. | .recv .. | .select .. => false
  | .call { callee := .builtin b, .. } => match b with | .len | .cap | .min | .max => true | _ => false
  | _ => true
theorem calmOp_defer {o : Op} (h : calmOp o = true) : ∀ c, o ≠ .defer c := fun c e => by subst e; cases h
theorem calmOp_select {o : Op} (h : calmOp o = true) : ∀ c b, o ≠ .select c b := fun c b e => by subst e; cases h

section
variable {P : Program} {r : Option Nat} {N : Nat} {D : List Nat} {ops : Array Oper}

def STEPa (P : Program) (r : Option Nat) (ops : Array Oper) (i : Nat) (a : Act) (h : Frag) (L : Hp) (KK : Act → Frag → Hp → Prop) : Prop :=
  match ops[i]? with
  | none => KK a h L
  | some o => if Region.wanted o (yielded ops a.tmps) then
      ∀ w, Holds h L w → o.wpIn (FW r) 0 P a w (fun a' w' => ∃ h' L', KK a' h' L' ∧ Ext h L w h' L' w' ∧ (calmOp o.op = true → ∀ w1, Sees h' L' w1 → Sees h L w1)) (fun _ _ _ => False)
    else KK (a.put o.dst undef) h L

def ANYa (P : Program) (r : Option Nat) (ops : Array Oper) (E : Act → Frag → Hp → Prop) : Nat → Array Bool → Act → Frag → Hp → Prop
  | 0, listed, a, h, L => Region.ready .any ops listed = [] ∧ E a h L
  | fuel + 1, listed, a, h, L => (Region.ready .any ops listed = [] → E a h L) ∧ ∀ i ∈ Region.ready .any ops listed, STEPa P r ops i a h L (ANYa P r ops E fuel (listed.setIfInBounds i true))

theorem STEPa.mono {i : Nat} {a : Act} {h : Frag} {L : Hp} {KK KK' : Act → Frag → Hp → Prop} (hk : ∀ a h L, KK a h L → KK' a h L) (x : STEPa P r ops i a h L KK) : STEPa P r ops i a h L KK' := by
  unfold STEPa at *
  cases ho : ops[i]? with
  | none => simp only [ho] at x ⊢; exact hk _ _ _ x
  | some o =>
    simp only [ho] at x ⊢
    split
    · rename_i hw
      simp only [hw, if_true] at x
      exact fun w hh => Oper.wpIn_mono (fun a' w' ⟨h', L', k, e⟩ => ⟨h', L', hk _ _ _ k, e⟩) (x w hh)
    · rename_i hw
      simp only [hw] at x
      exact hk _ _ _ x

theorem ANYa_sound {E : Act → Frag → Hp → Prop} {h0 : Frag} {L0 : Hp} {w0 : World} : ∀ (fuel : Nat) (listed : Array Bool) (a : Act) (h : Frag) (L : Hp) (w : World), ANYa P r ops E fuel listed a h L → Ext h0 L0 w0 h L w →
    wpAnyIn (FW r) 0 P .any ops (fun e a' w' => e = .normal ∧ ∃ h' L', E a' h' L' ∧ Ext h0 L0 w0 h' L' w') fuel listed a w := by
  intro fuel
  induction fuel with
  | zero => exact fun listed a h L w x e => ⟨x.1, rfl, h, L, x.2, e⟩
  | succ fuel ih =>
    intro listed a h L w x e
    refine ⟨fun hr => ⟨rfl, h, L, x.1 hr, e⟩, fun i hi => ?_⟩
    have hs := x.2 i hi
    unfold STEPa at hs
    unfold wpOpIn
    cases ho : ops[i]? with
    | none => simp only [ho] at hs ⊢; exact ih _ _ _ _ _ hs e
    | some o =>
      simp only [ho] at hs ⊢
      split
      · rename_i hw
        simp only [hw, if_true] at hs
        exact Oper.wpIn_monoQ (Oper.wpIn_mono (fun a' w' ⟨h', L', k, e1, _⟩ => ih _ _ _ _ _ k (e.trans e1)) (hs w e.holds))
      · rename_i hw
        simp only [hw] at hs
        exact ⟨fun _ _ => trivial, ih _ _ _ _ _ hs e⟩

/-- Operation o yields v in state a, wherever h and L are seen. -/
def Yv (P : Program) (ops : Array Oper) (o : Oper) (v : Value) (a : Act) (h : Frag) (L : Hp) : Prop :=
  (Region.wanted o (yielded ops a.tmps) = true ∧ (∀ c, o.op ≠ .defer c) ∧ ∀ w, Sees h L w → (execOp a.eval o).run P w = .ok (.value v) w) ∨ (Region.wanted o (yielded ops a.tmps) = false ∧ v = undef)

theorem Yv.step {i : Nat} {o : Oper} {v : Value} {a : Act} {h : Frag} {L : Hp} {KK : Act → Frag → Hp → Prop} (hi : ops[i]? = some o) (y : Yv P ops o v a h L) (k : KK (a.put o.dst v) h L) : STEPa P r ops i a h L KK := by
  unfold STEPa
  simp only [hi]
  rcases y with ⟨hw, hd, hr⟩ | ⟨hw, rfl⟩
  · simp only [hw, if_true]
    exact fun w hh => wpIn_of_value hd (hr w hh.sees) ⟨h, L, k, .refl hh, fun _ _ s => s⟩
  · simp only [hw, Bool.false_eq_true, if_false]; exact k
theorem Yv.keep {o oj : Oper} {v u : Value} {a : Act} {h h' : Frag} {L L' : Hp} (hs : ∀ cs b, o.op ≠ .select cs b) (h3 : ∀ d, oj.dst = some d → d ∉ o.looksAt ops) (y : Yv P ops o v a h L) (hS : ∀ w, Sees h' L' w → Sees h L w) :
    Yv P ops o v (a.put oj.dst u) h' L' := by
  unfold Yv at *
  rw [wanted_put o a oj.dst u h3, execOp_put o hs a oj.dst u h3]
  exact y.imp (fun ⟨a1, a2, a3⟩ => ⟨a1, a2, fun w hw => a3 w (hS w hw)⟩) id
theorem Act.put_defers (a : Act) (dst : Option Tmp) (v : Value) (ds : List Deferred) : ({ a.put dst v with defers := ds } : Act) = ({ a with defers := ds } : Act).put dst v := by cases dst <;> rfl
theorem Act.defers_put (a : Act) (dst : Option Tmp) (v : Value) : (a.put dst v).defers = a.defers := by cases dst <;> rfl

theorem STEPa_put {j : Nat} {oi oj : Oper} {v : Value} {a : Act} {h : Frag} {L : Hp} {KK : Act → Frag → Hp → Prop} (hj : ops[j]? = some oj) (hap : oi.apart ops oj = true) (hcj : calmOp oj.op = true) (hsi : ∀ cs b, oi.op ≠ .select cs b)
    (y : Yv P ops oi v a h L) (x : STEPa P r ops j (a.put oi.dst v) h L KK) : STEPa P r ops j a h L (fun a' h' L' => Yv P ops oi v a' h' L' ∧ KK (a'.put oi.dst v) h' L') := by
  obtain ⟨h1, h2, h3⟩ := Oper.apart_spec hap
  unfold STEPa at *
  simp only [hj] at *
  rw [wanted_put oj a oi.dst v h1] at x
  split
  · rename_i hw
    simp only [hw, if_true] at x
    intro w hh
    have xx := x w hh
    refine ⟨fun _ _ => trivial, ?_⟩
    have hx := xx.2
    rw [Oper.semAt_eq _ _ _ (calmOp_defer hcj)] at hx ⊢
    rw [execOp_put oj (calmOp_select hcj) a oi.dst v h1] at hx
    have key : ∀ (u : Value) (w' : World), (∃ h' L', KK ((a.put oi.dst v).put oj.dst u) h' L' ∧ Ext h L w h' L' w' ∧ (calmOp oj.op = true → ∀ w1, Sees h' L' w1 → Sees h L w1)) →
        ∃ h' L', (Yv P ops oi v (a.put oj.dst u) h' L' ∧ KK ((a.put oj.dst u).put oi.dst v) h' L') ∧ Ext h L w h' L' w' ∧ (calmOp oj.op = true → ∀ w1, Sees h' L' w1 → Sees h L w1) := by
      rintro u w' ⟨h', L', k, e, hc⟩
      refine ⟨h', L', ⟨y.keep hsi h3 (hc hcj), ?_⟩, e, hc⟩
      rw [← Act.put_comm a v u h2]; exact k
    revert hx
    cases hres : (execOp a.eval oj).run P w with
    | ok z w' =>
      intro hx
      cases z <;> simp only [Oper.uponIn] at hx ⊢ <;>
        first
          | exact key _ _ hx
          | exact ⟨hx.1, CallsIn.mono hx.2 (fun e w'' he => by cases e <;> first | exact key _ _ he | exact he)⟩
          | exact ⟨hx.1, RowsIn.mono hx.2 (fun _ _ he => key _ _ he)⟩
          | exact ⟨hx.1, RoundIn.mono hx.2 (fun e w'' he => by cases e <;> first | exact key _ _ he | exact he)⟩
          | skip
      case defer d =>
        rw [Act.defers_put, Act.put_defers] at hx
        obtain ⟨h', L', k, e, hc⟩ := hx
        refine ⟨h', L', ⟨?_, ?_⟩, e, hc⟩
        · exact Yv.keep (a := { a with defers := d :: a.defers }) hsi h3 y (hc hcj)
        · rw [← Act.put_comm { a with defers := d :: a.defers } v undef h2]; exact k
    | halt z w' =>
      intro hx
      cases z <;> simp only [Oper.uponIn] at hx ⊢ <;> exact hx
  · rename_i hw
    simp only [hw] at x
    exact ⟨y.keep hsi h3 (fun _ s => s), by rw [← Act.put_comm a v undef h2]; exact x⟩

/-- Is i among what j waits for, directly or through others? -/
def anc (ops : Array Oper) (i : Nat) : Nat → Nat → Bool
  | 0, _ => false
  | f + 1, j => match ops[j]? with
    | none => false
    | some o => o.after.any fun e => Region.binds .any e && (e.on == i || anc ops i f e.on)
def Closed (ops : Array Oper) (listed : Array Bool) : Prop :=
  ∀ j o, ops[j]? = some o → listed.getD j false = true → ∀ e ∈ o.after, Region.binds .any e = true → listed.getD e.on false = true
theorem anc_listed {listed : Array Bool} (hc : Closed ops listed) {i : Nat} : ∀ (f j : Nat) (o : Oper), ops[j]? = some o → (∀ e ∈ o.after, Region.binds .any e = true → listed.getD e.on false = true) → anc ops i f j = true → listed.getD i false = true := by
  intro f
  induction f with
  | zero => intro j o _ _ h; cases h
  | succ f ih =>
    intro j o ho hall h
    simp only [anc, ho, Array.any_eq_true] at h
    obtain ⟨k, hk, h⟩ := h
    simp only [Bool.and_eq_true, Bool.or_eq_true, beq_iff_eq] at h
    have hm : o.after[k] ∈ o.after := Array.getElem_mem hk
    have hl := hall _ hm h.1
    rcases h.2 with h2 | h2
    · rw [← h2]; exact hl
    · cases ho2 : ops[o.after[k].on]? with
      | none =>
        cases f with
        | zero => cases h2
        | succ f => simp [anc, ho2] at h2
      | some o2 => exact ih _ o2 ho2 (hc _ o2 ho2 hl) h2

def okFirst (ops : Array Oper) (listed : Array Bool) (i : Nat) : Bool :=
  match ops[i]? with
  | none => false
  | some oi => calmOp oi.op && (List.range ops.size).all fun j => j == i || listed.getD j true || anc ops i ops.size j || (match ops[j]? with | none => true | some oj => oi.apart ops oj && calmOp oj.op)

theorem ANYa_first {E : Act → Frag → Hp → Prop} {i : Nat} {oi : Oper} {v : Value} (hi : ops[i]? = some oi) (hsi : ∀ cs b, oi.op ≠ .select cs b) :
    ∀ (fuel : Nat) (listed : Array Bool) (a : Act) (h : Frag) (L : Hp), Closed ops listed →
      (∀ j oj, ops[j]? = some oj → j ≠ i → listed.getD j true = false → anc ops i ops.size j = false → oi.apart ops oj = true ∧ calmOp oj.op = true) →
      i ∈ Region.ready .any ops listed → Yv P ops oi v a h L → ANYa P r ops E fuel (listed.setIfInBounds i true) (a.put oi.dst v) h L → ANYa P r ops E (fuel + 1) listed a h L := by
  intro fuel
  induction fuel with
  | zero =>
    intro listed a h L _ _ hr hy H
    refine ⟨fun e => (by rw [e] at hr; cases hr), fun j hj => ?_⟩
    by_cases hji : j = i
    · subst hji; exact hy.step hi H
    · have := ready_mono hj hji
      rw [H.1] at this
      cases this
  | succ fuel ih =>
    intro listed a h L hc hfree hr hy H
    refine ⟨fun e => (by rw [e] at hr; cases hr), fun j hj => ?_⟩
    by_cases hji : j = i
    · subst hji; exact hy.step hi H
    · have h1 := H.2 j (ready_mono hj hji)
      obtain ⟨hjun, oj, hoj, hall⟩ := mem_ready.1 hj
      have hiun := (mem_ready.1 hr).1
      have hnl : listed.getD i false ≠ true := fun e => by
        rcases Nat.lt_or_ge i listed.size with h' | h'
        · simp [h'] at hiun e; rw [hiun] at e; cases e
        · simp [Array.getElem?_eq_none h'] at e
      have hanc : anc ops i ops.size j = false := by
        cases ha : anc ops i ops.size j with
        | false => rfl
        | true => exact absurd (anc_listed hc _ _ oj hoj hall ha) hnl
      obtain ⟨hap, hcj⟩ := hfree j oj hoj hji hjun hanc
      have h2 := STEPa_put hoj hap hcj hsi hy h1
      have hc' : Closed ops (listed.setIfInBounds j true) := by
        intro k o ho hl e he hb
        by_cases hjk : j = k
        · subst hjk
          rw [hoj] at ho; cases ho
          exact getD_set_true (hall e he hb)
        · rw [getD_set_ne false hjk] at hl
          exact getD_set_true (hc k o ho hl e he hb)
      have hfree' : ∀ k ok, ops[k]? = some ok → k ≠ i → (listed.setIfInBounds j true).getD k true = false → anc ops i ops.size k = false → oi.apart ops ok = true ∧ calmOp ok.op = true := fun k ok hk hki hun hno => by
        refine hfree k ok hk hki ?_ hno
        by_cases hjk : j = k
        · subst hjk; exact hjun
        · rw [getD_set_ne true hjk] at hun; exact hun
      refine STEPa.mono (fun a' h' L' h3 => ih (listed.setIfInBounds j true) a' h' L' hc' hfree' (ready_mono hr (Ne.symm hji)) h3.1 ?_) h2
      rw [Array.setIfInBounds_comm _ _ hji]
      exact h3.2

/-! ### The words for a proof -/
/-- Which operations have come up, as a Bool over their numbers. -/
def ANY (P : Program) (r : Option Nat) (N : Nat) (D : List Nat) (ops : Array Oper) (fuel : Nat) (listed : Array Bool) (h : Frag) (L : Hp) (fr : Fr) (C : Frag → Hp → Fr → Prop) : Prop :=
  ∀ a, FrOk N D fr a → ANYa P r ops (fun a' h' L' => ∃ fr', FrOk N D fr' a' ∧ C h' L' fr') fuel listed a h L

def closedB (ops : Array Oper) (listed : Array Bool) : Bool :=
  (List.range ops.size).all fun j => !listed.getD j false || (match ops[j]? with | none => true | some o => o.after.all fun e => !Region.binds .any e || listed.getD e.on false)
theorem closed_of {listed : Array Bool} (hc : closedB ops listed = true) : Closed ops listed := by
  intro j o ho hl e he hb
  unfold closedB at hc
  rw [List.all_eq_true] at hc
  have hj : j < ops.size := (Array.getElem?_eq_some_iff.1 ho).1
  have := hc j (List.mem_range.2 hj)
  simp only [ho, hl, Bool.not_true, Bool.false_or] at this
  rw [Array.all_eq_true'] at this
  have := this e he
  simpa [hb] using this

/-- i may be taken first: what is asked of the region, by the kernel. -/
def firstB (ops : Array Oper) (listed : Array Bool) (i : Nat) : Bool :=
  closedB ops listed && okFirst ops listed i && (Region.ready .any ops listed).contains i

variable {h : Frag} {L : Hp} {fr : Fr} {C : Frag → Hp → Fr → Prop} {fuel : Nat} {listed : Array Bool}

theorem first_parts {i : Nat} {o : Oper} (hi : ops[i]? = some o) (hf : firstB ops listed i = true) : Closed ops listed ∧ (∀ cs b, o.op ≠ .select cs b) ∧ i ∈ Region.ready .any ops listed ∧
    (∀ j oj, ops[j]? = some oj → j ≠ i → listed.getD j true = false → anc ops i ops.size j = false → o.apart ops oj = true ∧ calmOp oj.op = true) := by
  unfold firstB okFirst at hf
  simp only [Bool.and_eq_true, hi] at hf
  obtain ⟨⟨h1, h2, h3⟩, h4⟩ := hf
  refine ⟨closed_of h1, calmOp_select h2, by simpa using h4, fun j oj hj hne hun han => ?_⟩
  rw [List.all_eq_true] at h3
  have := h3 j (List.mem_range.2 (Array.getElem?_eq_some_iff.1 hj).1)
  simp only [hj, hun, han, Bool.or_false, Bool.or_eq_true, beq_iff_eq, Bool.and_eq_true] at this
  rcases this with h | h
  · exact absurd h hne
  · exact h

theorem WP_draw {id : Nat} {Q : Post} (hm : P.follows .mixedOrders = true) (x : ANY P r N D ops ops.size (Array.replicate ops.size false) h L fr (fun h' L' fr' => Q .normal h' L' D fr')) : WP P r N (.region id ops true) h L D fr Q := by
  intro a w fa hw
  refine wpIn_region_any hm ?_
  have hs := ANYa_sound (h0 := h) (L0 := L) (w0 := w) ops.size (Array.replicate ops.size false) a h L { w with drawn := w.drawn + 1 } (x a fa) (Ext.same hw rfl rfl rfl rfl (Nat.le_succ _))
  have mono : ∀ (Q1 Q2 : Exit → Act → World → Prop), (∀ e a w, Q1 e a w → Q2 e a w) → ∀ (n : Nat) (l : Array Bool) (a : Act) (w : World), wpAnyIn (FW r) 0 P .any ops Q1 n l a w → wpAnyIn (FW r) 0 P .any ops Q2 n l a w := by
    intro Q1 Q2 hq n
    induction n with
    | zero => exact fun l a w y => ⟨y.1, hq _ _ _ y.2⟩
    | succ n ih =>
      intro l a w y
      refine ⟨fun e => hq _ _ _ (y.1 e), fun i hi => ?_⟩
      have yi := y.2 i hi
      unfold wpOpIn at yi ⊢
      cases ho : ops[i]? with
      | none => simp only [ho] at yi ⊢; exact ih _ _ _ yi
      | some o =>
        simp only [ho] at yi ⊢
        split
        · rename_i hw'
          simp only [hw', if_true] at yi
          refine ⟨yi.1, ?_⟩
          have hx := yi.2
          have hout : LetsOut Q1 → LetsOut Q2 := fun ⟨a₀, w₀, q⟩ => ⟨a₀, w₀, hq _ _ _ q⟩
          revert hx
          generalize (o.semAt (FW r).round a.eval).run P w = res
          intro hx
          cases res with
          | ok z w' =>
            cases z <;> simp only [Oper.uponIn] at hx ⊢ <;>
              first
                | exact ih _ _ _ hx
                | exact ⟨hx.1, CallsIn.mono hx.2 (fun e w'' he => by cases e <;> first | exact ih _ _ _ he | exact hq _ _ _ he | exact hout he)⟩
                | exact ⟨hx.1, RowsIn.mono hx.2 (fun _ _ he => ih _ _ _ he)⟩
                | exact ⟨hx.1, RoundIn.mono hx.2 (fun e w'' he => by cases e <;> first | exact ih _ _ _ he | exact hq _ _ _ he | exact hout he)⟩
          | halt z w' => cases z <;> simp only [Oper.uponIn] at hx ⊢ <;> exact hq _ _ _ hx
        · rename_i hw'
          simp only [hw'] at yi
          exact ⟨yi.1, ih _ _ _ yi.2⟩
  exact mono _ _ (fun e a' w' ⟨he, h', L', ⟨fr', f', q⟩, e1⟩ => by subst he; exact ⟨h', L', D, fr', q, f', e1⟩) _ _ _ _ hs

theorem ANY_done (hr : Region.ready .any ops listed = []) (x : C h L fr) : ANY P r N D ops fuel listed h L fr C := by
  intro a fa
  cases fuel with
  | zero => exact ⟨hr, fr, fa, x⟩
  | succ n => exact ⟨fun _ => ⟨fr, fa, x⟩, fun i hi => by rw [hr] at hi; cases hi⟩
theorem ANY_q {o : Oper} {v : Value} (i : Nat) (hi : ops[i]? = some o) (hf : firstB ops listed i = true) (hg : o.guard = none) (hd : dstOk N o.dst = true) (q : QOP P o fr h L v)
    (x : ANY P r N D ops fuel (listed.setIfInBounds i true) h L (putd fr o.dst v) C) : ANY P r N D ops (fuel + 1) listed h L fr C := by
  intro a fa
  obtain ⟨h1, h2, h3, h4⟩ := first_parts hi hf
  exact ANYa_first hi h2 fuel listed a h L h1 h4 h3 (.inl ⟨by simp [Region.wanted, hg], q.1, q.2 a (fun _ _ e => fa.eval e)⟩) (x _ (fa.put hd v))
theorem ANY_gq {o oj : Oper} {v : Value} {j d : Nat} {want : Bool} (i : Nat) (hi : ops[i]? = some o) (hf : firstB ops listed i = true) (hg : o.guard = some (j, want)) (hj : ops[j]? = some oj) (hdj : oj.dst = some d)
    (hv : get? fr d = some (.bool want)) (hd : dstOk N o.dst = true) (q : QOP P o fr h L v)
    (x : ANY P r N D ops fuel (listed.setIfInBounds i true) h L (putd fr o.dst v) C) : ANY P r N D ops (fuel + 1) listed h L fr C := by
  intro a fa
  obtain ⟨h1, h2, h3, h4⟩ := first_parts hi hf
  have hy := yielded_of (ops := ops) fa hj hdj hv
  exact ANYa_first hi h2 fuel listed a h L h1 h4 h3 (.inl ⟨by simp [Region.wanted, hg, hy], q.1, q.2 a (fun _ _ e => fa.eval e)⟩) (x _ (fa.put hd v))
theorem ANY_gn {o oj : Oper} {j d : Nat} {want : Bool} (i : Nat) (hi : ops[i]? = some o) (hf : firstB ops listed i = true) (hg : o.guard = some (j, want)) (hj : ops[j]? = some oj) (hdj : oj.dst = some d)
    (hv : get? fr d = some (.bool (!want))) (hd : dstOk N o.dst = true)
    (x : ANY P r N D ops fuel (listed.setIfInBounds i true) h L (putd fr o.dst undef) C) : ANY P r N D ops (fuel + 1) listed h L fr C := by
  intro a fa
  obtain ⟨h1, h2, h3, h4⟩ := first_parts hi hf
  have hy := yielded_of (ops := ops) fa hj hdj hv
  exact ANYa_first hi h2 fuel listed a h L h1 h4 h3 (.inr ⟨by simp only [Region.wanted, hg, hy]; cases want <;> rfl, rfl⟩) (x _ (fa.put hd undef))

/-- One operation at a time, where each that is ready is met. -/
def STEP (P : Program) (r : Option Nat) (N : Nat) (D : List Nat) (ops : Array Oper) (i : Nat) (h : Frag) (L : Hp) (fr : Fr) (C : Frag → Hp → Fr → Prop) : Prop :=
  ∀ a, FrOk N D fr a → STEPa P r ops i a h L (fun a' h' L' => ∃ fr', FrOk N D fr' a' ∧ C h' L' fr')
theorem ANY_one (i : Nat) (hr : Region.ready .any ops listed = [i]) (x : STEP P r N D ops i h L fr (fun h' L' fr' => ANY P r N D ops fuel (listed.setIfInBounds i true) h' L' fr' C)) : ANY P r N D ops (fuel + 1) listed h L fr C := by
  intro a fa
  refine ⟨(fun e => by rw [hr] at e; cases e), fun j hj => ?_⟩
  rw [hr, List.mem_singleton] at hj
  subst hj
  exact (x a fa).mono fun a' h' L' ⟨fr', f', k⟩ => k a' f'
theorem ANY_two (i j : Nat) (hr : Region.ready .any ops listed = [i, j]) (x : STEP P r N D ops i h L fr (fun h' L' fr' => ANY P r N D ops fuel (listed.setIfInBounds i true) h' L' fr' C))
    (y : STEP P r N D ops j h L fr (fun h' L' fr' => ANY P r N D ops fuel (listed.setIfInBounds j true) h' L' fr' C)) : ANY P r N D ops (fuel + 1) listed h L fr C := by
  intro a fa
  refine ⟨(fun e => by rw [hr] at e; cases e), fun k hk => ?_⟩
  rw [hr] at hk
  simp only [List.mem_cons, List.not_mem_nil, or_false] at hk
  rcases hk with rfl | rfl
  · exact (x a fa).mono fun a' h' L' ⟨fr', f', k⟩ => k a' f'
  · exact (y a fa).mono fun a' h' L' ⟨fr', f', k⟩ => k a' f'
theorem STEP_c {o : Oper} {i : Nat} (hi : ops[i]? = some o) (hg : o.guard = none) (hd : dstOk N o.dst = true) (x : OPc P r o fr h L (fun h' M v => C h' (M ++ L) (putd fr o.dst v))) : STEP P r N D ops i h L fr C := by
  intro a fa
  unfold STEPa
  simp only [hi, Region.wanted, hg, if_true]
  exact fun w hw => Oper.wpIn_mono (fun a' w' ⟨h', M, v, e, k, x1⟩ => ⟨h', M ++ L, ⟨_, by rw [e]; exact fa.put hd v, k⟩, x1, fun _ w1 s => s.mono x1.le (fun p hp => List.mem_append_right _ hp)⟩) (x a (fun _ _ e => fa.eval e) w hw)
theorem STEP_w {o : Oper} {i : Nat} (hi : ops[i]? = some o) (hg : o.guard = none) (hc : calmOp o.op = false) (hd : dstOk N o.dst = true) (x : OPw P r o fr h L (fun h' L' v => C h' L' (putd fr o.dst v))) : STEP P r N D ops i h L fr C := by
  intro a fa
  unfold STEPa
  simp only [hi, Region.wanted, hg, if_true]
  exact fun w hw => Oper.wpIn_mono (fun a' w' ⟨h', L', v, e, k, x1⟩ => ⟨h', L', ⟨_, by rw [e]; exact fa.put hd v, k⟩, x1, fun hx => by rw [hc] at hx; cases hx⟩) (x a (fun _ _ e => fa.eval e) w hw)
theorem STEP_gc {o oj : Oper} {i j d : Nat} {want : Bool} (hi : ops[i]? = some o) (hg : o.guard = some (j, want)) (hj : ops[j]? = some oj) (hdj : oj.dst = some d) (hv : get? fr d = some (.bool want)) (hd : dstOk N o.dst = true)
    (x : OPc P r o fr h L (fun h' M v => C h' (M ++ L) (putd fr o.dst v))) : STEP P r N D ops i h L fr C := by
  intro a fa
  have hy := yielded_of (ops := ops) fa hj hdj hv
  unfold STEPa
  simp only [hi, Region.wanted, hg, hy, beq_self_eq_true, if_true]
  exact fun w hw => Oper.wpIn_mono (fun a' w' ⟨h', M, v, e, k, x1⟩ => ⟨h', M ++ L, ⟨_, by rw [e]; exact fa.put hd v, k⟩, x1, fun _ w1 s => s.mono x1.le (fun p hp => List.mem_append_right _ hp)⟩) (x a (fun _ _ e => fa.eval e) w hw)
/-- An operation that may take over what is owned, so that it is seen still. -/
def OPv (P : Program) (r : Option Nat) (o : Oper) (fr : Fr) (h : Frag) (L : Hp) (K : OCont) : Prop :=
  ∀ a : Act, (∀ x u, ev fr x = some u → a.eval x = u) → ∀ w, Holds h L w →
    o.wpIn (FW r) 0 P a w (fun a' w' => ∃ h' L' v, a' = a.put o.dst v ∧ K h' L' v ∧ Ext h L w h' L' w' ∧ ∀ w1, Sees h' L' w1 → Sees h L w1) (fun _ _ _ => False)
theorem STEP_v {o : Oper} {i : Nat} (hi : ops[i]? = some o) (hg : o.guard = none) (hd : dstOk N o.dst = true) (x : OPv P r o fr h L (fun h' L' v => C h' L' (putd fr o.dst v))) : STEP P r N D ops i h L fr C := by
  intro a fa
  unfold STEPa
  simp only [hi, Region.wanted, hg, if_true]
  exact fun w hw => Oper.wpIn_mono (fun a' w' ⟨h', L', v, e, k, x1, x2⟩ => ⟨h', L', ⟨_, by rw [e]; exact fa.put hd v, k⟩, x1, fun _ => x2⟩) (x a (fun _ _ e => fa.eval e) w hw)
theorem OPw_of_v {o : Oper} {K : OCont} (x : OPv P r o fr h L K) : OPw P r o fr h L K :=
  fun a ha w hw => Oper.wpIn_mono (fun _ _ ⟨h', L', v, e, k, x1, _⟩ => ⟨h', L', v, e, k, x1⟩) (x a ha w hw)
end
end Go.Mesh
