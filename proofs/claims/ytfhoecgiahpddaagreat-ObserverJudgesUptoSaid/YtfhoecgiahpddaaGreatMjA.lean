/-
  Part A of the proof's ground: Core, Steps, Draws, Ops, Rules, Data, Ops2, Maps, RangeF, Rules2, Tabs, Types, Own, Rules3, Rules4, DrawsL.
-/
import Derived.TacticsIn
import Derived.RangeFuncLeaves
import Derived.OrdersIn
import Derived.Below
import Derived.IntWalk
import Derived.Laws.StructEq
import Derived.Laws.AppendOwn
import Derived.Test.YtfhoecgiahpddaaGreatProg
import Derived.KernelRfl
/-
  THE GROUND OF THE OBSERVER PROOFS: a small separation logic over the guide's fenced calculus ('Code.wpIn' at the wide fence).
  A state is: h (blocks that nobody writes any more), L (blocks that are owned), D (marks of ranges over functions), fr (what is known of the slots).
-/
set_option linter.all false
namespace Go.Mesh
open Go.RowKit

abbrev Frag := Nat → Option Obj
abbrev Hp := List (Nat × Obj)
abbrev Fr := List (Nat × Value)

def le (h h' : Frag) : Prop := ∀ b o, h b = some o → h' b = some o
theorem le_refl (h : Frag) : le h h := fun _ _ x => x
theorem le_trans {a b c : Frag} (x : le a b) (y : le b c) : le a c := fun k o e => y k o (x k o e)

def ids (L : Hp) : List Nat := L.map (·.1)
theorem mem_ids {L : Hp} {p : Nat × Obj} (h : p ∈ L) : p.1 ∈ ids L := List.mem_map.2 ⟨p, h, rfl⟩
theorem ids_append (L M : Hp) : ids (L ++ M) = ids L ++ ids M := by simp [ids]

structure Sees (h : Frag) (L : Hp) (w : World) : Prop where
  pers : ∀ b o, h b = some o → w.heap[b]? = some o
  own : ∀ p, p ∈ L → w.heap[p.1]? = some p.2

structure Holds (h : Frag) (L : Hp) (w : World) : Prop where
  sees : Sees h L w
  nodup : (ids L).Nodup
  apart : ∀ p, p ∈ L → h p.1 = none

theorem Sees.mono {h h' : Frag} {L L' : Hp} {w : World} (s : Sees h' L' w) (hl : le h h') (hL : ∀ p, p ∈ L → p ∈ L') : Sees h L w :=
  ⟨fun b o e => s.pers b o (hl b o e), fun p hp => s.own p (hL p hp)⟩

theorem Holds.lt {h : Frag} {L : Hp} {w : World} (s : Holds h L w) {p : Nat × Obj} (hp : p ∈ L) : p.1 < w.heap.size := by
  have := s.sees.own p hp
  exact (Array.getElem?_eq_some_iff.1 this).1
theorem Holds.lt_ids {h : Frag} {L : Hp} {w : World} (s : Holds h L w) {b : Nat} (hb : b ∈ ids L) : b < w.heap.size := by
  obtain ⟨p, hp, rfl⟩ := List.mem_map.1 hb
  exact s.lt hp
theorem Holds.pers_lt {h : Frag} {L : Hp} {w : World} (s : Holds h L w) {b : Nat} {o : Obj} (hb : h b = some o) : b < w.heap.size :=
  (Array.getElem?_eq_some_iff.1 (s.sees.pers b o hb)).1

structure Ext (h : Frag) (L : Hp) (w : World) (h' : Frag) (L' : Hp) (w' : World) : Prop where
  le : le h h'
  holds : Holds h' L' w'
  size : w.heap.size ≤ w'.heap.size
  frame : ∀ b, b < w.heap.size → b ∉ ids L → w'.heap[b]? = w.heap[b]?
  persNew : ∀ b o, h' b = some o → h b = some o ∨ w.heap.size ≤ b ∨ b ∈ ids L
  ownNew : ∀ p, p ∈ L' → w.heap.size ≤ p.1 ∨ p.1 ∈ ids L
  os : w'.os = w.os
  tape : w'.tape = w.tape
  output : w'.output = w.output
  drawn : w.drawn ≤ w'.drawn

theorem Ext.same {h : Frag} {L : Hp} {w w' : World} (s : Holds h L w) (hh : w'.heap = w.heap) (ho : w'.os = w.os) (ht : w'.tape = w.tape) (hp : w'.output = w.output) (hn : w.drawn ≤ w'.drawn) :
    Ext h L w h L w' where
  le := le_refl h
  holds := ⟨⟨fun b o e => by rw [hh]; exact s.sees.pers b o e, fun p hp => by rw [hh]; exact s.sees.own p hp⟩, s.nodup, s.apart⟩
  size := by rw [hh]; exact Nat.le_refl _
  frame := fun b _ _ => by rw [hh]
  persNew := fun b o e => .inl e
  ownNew := fun p hp => .inr (mem_ids hp)
  os := ho
  tape := ht
  output := hp
  drawn := hn
theorem Ext.refl {h : Frag} {L : Hp} {w : World} (s : Holds h L w) : Ext h L w h L w := Ext.same s rfl rfl rfl rfl (Nat.le_refl _)

theorem Ext.trans {h h1 h2 : Frag} {L L1 L2 : Hp} {w w1 w2 : World} (x : Ext h L w h1 L1 w1) (y : Ext h1 L1 w1 h2 L2 w2) : Ext h L w h2 L2 w2 where
  le := le_trans x.le y.le
  holds := y.holds
  size := Nat.le_trans x.size y.size
  frame := fun b hb hn => by
    have hn1 : b ∉ ids L1 := fun hm => by
      obtain ⟨p, hp, rfl⟩ := List.mem_map.1 hm
      rcases x.ownNew p hp with h | h
      · omega
      · exact hn h
    rw [y.frame b (Nat.lt_of_lt_of_le hb x.size) hn1, x.frame b hb hn]
  persNew := fun b o e => by
    rcases y.persNew b o e with h | h | h
    · exact x.persNew b o h
    · exact .inr (.inl (Nat.le_trans x.size h))
    · obtain ⟨p, hp, rfl⟩ := List.mem_map.1 h
      exact .inr (x.ownNew p hp)
  ownNew := fun p hp => by
    rcases y.ownNew p hp with h | h
    · exact .inl (Nat.le_trans x.size h)
    · obtain ⟨q, hq, e⟩ := List.mem_map.1 h
      rw [← e]; exact x.ownNew q hq
  os := y.os.trans x.os
  tape := y.tape.trans x.tape
  output := y.output.trans x.output
  drawn := Nat.le_trans x.drawn y.drawn

/-- THE FRAME RULE. -/
theorem Ext.framed {h h' : Frag} {L L' M : Hp} {w w' : World} (s : Holds h (L ++ M) w) (x : Ext h L w h' L' w') : Ext h (L ++ M) w h' (L' ++ M) w' := by
  have hnd := s.nodup
  rw [ids_append, List.nodup_append] at hnd
  obtain ⟨_, hM, hd⟩ := hnd
  have hMw : ∀ p, p ∈ M → p.1 < w.heap.size := fun p hp => s.lt (List.mem_append_right _ hp)
  have hML : ∀ p, p ∈ M → p.1 ∉ ids L := fun p hp hm => hd _ hm _ (mem_ids hp) rfl
  refine ⟨x.le, ⟨⟨x.holds.sees.pers, fun p hp => ?_⟩, ?_, fun p hp => ?_⟩, x.size, fun b hb hn => ?_, fun b o e => ?_, fun p hp => ?_, x.os, x.tape, x.output, x.drawn⟩
  · rcases List.mem_append.1 hp with hp | hp
    · exact x.holds.sees.own p hp
    · rw [x.frame _ (hMw p hp) (hML p hp)]; exact s.sees.own p (List.mem_append_right _ hp)
  · rw [ids_append, List.nodup_append]
    refine ⟨x.holds.nodup, hM, fun a ha b hb e => ?_⟩
    obtain ⟨p, hp, rfl⟩ := List.mem_map.1 ha
    obtain ⟨q, hq, rfl⟩ := List.mem_map.1 hb
    rcases x.ownNew p hp with h | h
    · have := hMw q hq; omega
    · exact hML q hq (by rw [← e]; exact h)
  · rcases List.mem_append.1 hp with hp | hp
    · exact x.holds.apart p hp
    · cases hh : h' p.1 with
      | none => rfl
      | some o =>
        rcases x.persNew _ o hh with h | h | h
        · rw [s.apart p (List.mem_append_right _ hp)] at h; cases h
        · have := hMw p hp; omega
        · exact absurd h (hML p hp)
  · rw [ids_append] at hn
    exact x.frame b hb (fun hm => hn (List.mem_append_left _ hm))
  · rcases x.persNew b o e with h | h | h
    · exact .inl h
    · exact .inr (.inl h)
    · exact .inr (.inr (by rw [ids_append]; exact List.mem_append_left _ h))
  · rcases List.mem_append.1 hp with hp | hp
    · rcases x.ownNew p hp with h | h
      · exact .inl h
      · exact .inr (by rw [ids_append]; exact List.mem_append_left _ h)
    · exact .inr (by rw [ids_append]; exact List.mem_append_right _ (mem_ids hp))

/-- Owned blocks may be let go. -/
theorem Ext.drop {h h' : Frag} {L L' L2 : Hp} {w w' : World} (x : Ext h L w h' L' w') (hs : List.Sublist L2 L') : Ext h L w h' L2 w' where
  le := x.le
  holds := ⟨⟨x.holds.sees.pers, fun p hp => x.holds.sees.own p (hs.subset hp)⟩, (hs.map _).nodup x.holds.nodup, fun p hp => x.holds.apart p (hs.subset hp)⟩
  size := x.size
  frame := x.frame
  persNew := x.persNew
  ownNew := fun p hp => x.ownNew p (hs.subset hp)
  os := x.os
  tape := x.tape
  output := x.output
  drawn := x.drawn
/-- The order of owned blocks does not matter. -/
theorem Ext.perm {h h' : Frag} {L L' L2 : Hp} {w w' : World} (x : Ext h L w h' L' w') (hs : L2.Perm L') : Ext h L w h' L2 w' where
  le := x.le
  holds := ⟨⟨x.holds.sees.pers, fun p hp => x.holds.sees.own p (hs.mem_iff.1 hp)⟩, ((hs.map _).nodup_iff).2 x.holds.nodup, fun p hp => x.holds.apart p (hs.mem_iff.1 hp)⟩
  size := x.size
  frame := x.frame
  persNew := x.persNew
  ownNew := fun p hp => x.ownNew p (hs.mem_iff.1 hp)
  os := x.os
  tape := x.tape
  output := x.output
  drawn := x.drawn
theorem Holds.perm {h : Frag} {L L2 : Hp} {w : World} (s : Holds h L w) (hs : L2.Perm L) : Holds h L2 w :=
  ((Ext.refl s).perm hs).holds
theorem Holds.drop {h : Frag} {L L2 : Hp} {w : World} (s : Holds h L w) (hs : List.Sublist L2 L) : Holds h L2 w :=
  ((Ext.refl s).drop hs).holds
/-- The start may be widened. -/
theorem Ext.of_perm {h h' : Frag} {L L' L2 : Hp} {w w' : World} (x : Ext h L w h' L' w') (hs : L2.Perm L) : Ext h L2 w h' L' w' where
  le := x.le
  holds := x.holds
  size := x.size
  frame := fun b hb hn => x.frame b hb (fun hm => hn (((hs.map _).mem_iff).2 hm))
  persNew := fun b o e => (x.persNew b o e).imp id (Or.imp id fun hm => ((hs.map _).mem_iff).2 hm)
  ownNew := fun p hp => (x.ownNew p hp).imp id fun hm => ((hs.map _).mem_iff).2 hm
  os := x.os
  tape := x.tape
  output := x.output
  drawn := x.drawn

/-- A new block. -/
theorem Ext.alloc {h : Frag} {L : Hp} {w : World} (s : Holds h L w) (o : Obj) : Ext h L w h ((w.heap.size, o) :: L) { w with heap := w.heap.push o } := by
  have hlt : ∀ b, b < w.heap.size → (w.heap.push o)[b]? = w.heap[b]? := fun b hb => by rw [Array.getElem?_push, if_neg (by omega)]
  refine ⟨le_refl h, ⟨⟨fun b o' e => ?_, fun p hp => ?_⟩, ?_, fun p hp => ?_⟩, ?_, fun b hb _ => hlt b hb, fun b o e => .inl e, fun p hp => ?_, rfl, rfl, rfl, Nat.le_refl _⟩
  · rw [hlt b (s.pers_lt e)]; exact s.sees.pers b o' e
  · rcases List.mem_cons.1 hp with rfl | hp
    · simp
    · rw [hlt _ (s.lt hp)]; exact s.sees.own p hp
  · show (w.heap.size :: ids L).Nodup
    rw [List.nodup_cons]
    exact ⟨fun hm => by have := s.lt_ids hm; omega, s.nodup⟩
  · rcases List.mem_cons.1 hp with rfl | hp
    · cases hh : h w.heap.size with
      | none => rfl
      | some o' => have := s.pers_lt hh; omega
    · exact s.apart p hp
  · simp
  · rcases List.mem_cons.1 hp with rfl | hp
    · exact .inl (Nat.le_refl _)
    · exact .inr (mem_ids hp)

/-- 'L has b with o; with o' in its place it is L''. -/
def Upd (b : Nat) (o o' : Obj) (L L' : Hp) : Prop := ∃ A B, L = A ++ (b, o) :: B ∧ L' = A ++ (b, o') :: B
theorem Upd.head {b : Nat} {o o' : Obj} (L : Hp) : Upd b o o' ((b, o) :: L) ((b, o') :: L) := ⟨[], L, rfl, rfl⟩
theorem Upd.tail {b : Nat} {o o' : Obj} (p : Nat × Obj) {L L' : Hp} (u : Upd b o o' L L') : Upd b o o' (p :: L) (p :: L') := by
  obtain ⟨A, B, rfl, rfl⟩ := u; exact ⟨p :: A, B, rfl, rfl⟩
theorem Upd.skip {b : Nat} {o o' : Obj} (M : Hp) {L L' : Hp} (u : Upd b o o' L L') : Upd b o o' (M ++ L) (M ++ L') := by
  obtain ⟨A, B, rfl, rfl⟩ := u; exact ⟨M ++ A, B, by simp, by simp⟩
theorem Upd.split {b : Nat} {o o' : Obj} {L L' : Hp} (u : Upd b o o' L L') : ∃ A B, L = A ++ (b, o) :: B ∧ L' = A ++ (b, o') :: B := u
theorem Upd.mem {b : Nat} {o o' : Obj} {L L' : Hp} (u : Upd b o o' L L') : (b, o) ∈ L := by
  obtain ⟨A, B, rfl, _⟩ := u.split; simp
theorem Upd.ids {b : Nat} {o o' : Obj} {L L' : Hp} (u : Upd b o o' L L') : Mesh.ids L' = Mesh.ids L := by
  obtain ⟨A, B, rfl, rfl⟩ := u.split; simp [Mesh.ids]

theorem Ext.set {h : Frag} {L L' : Hp} {w : World} (s : Holds h L w) {b : Nat} {o o' : Obj} (u : Upd b o o' L L') {w' : World}
    (hb : w'.heap[b]? = some o') (hne : ∀ k, k ≠ b → w'.heap[k]? = w.heap[k]?) (hsz : w'.heap.size = w.heap.size) (ho : w'.os = w.os) (ht : w'.tape = w.tape) (hp : w'.output = w.output) (hdn : w'.drawn = w.drawn) :
    Ext h L w h L' w' := by
  have hid := u.ids
  have hbL : b ∈ ids L := mem_ids u.mem
  have hmem : ∀ p, p ∈ L' → p = (b, o') ∨ (p ∈ L ∧ p.1 ≠ b) := by
    intro p hp
    obtain ⟨A, B, e1, e2⟩ := u.split
    have hnd := s.nodup
    rw [e1] at hnd
    simp only [ids, List.map_append, List.map_cons] at hnd
    rw [List.nodup_append] at hnd
    obtain ⟨_, hnd2, hdis⟩ := hnd
    rw [List.nodup_cons] at hnd2
    rw [e2] at hp
    rcases List.mem_append.1 hp with hp | hp
    · refine .inr ⟨by rw [e1]; exact List.mem_append_left _ hp, fun e => ?_⟩
      exact hdis p.1 (List.mem_map.2 ⟨p, hp, rfl⟩) b (by simp) e
    · rcases List.mem_cons.1 hp with rfl | hp
      · exact .inl rfl
      · exact .inr ⟨by rw [e1]; exact List.mem_append_right _ (List.mem_cons_of_mem _ hp), fun e => hnd2.1 (by rw [← e]; exact List.mem_map.2 ⟨p, hp, rfl⟩)⟩
  refine ⟨le_refl h, ⟨⟨fun k o e => ?_, fun p hp => ?_⟩, by rw [hid]; exact s.nodup, fun p hp => ?_⟩, by rw [hsz]; exact Nat.le_refl _, fun k _ hk => hne k (fun e => hk (e ▸ hbL)), fun k o e => .inl e, fun p hp => ?_, ho, ht, hp, Nat.le_of_eq hdn.symm⟩
  · rw [hne k (fun e' => by
      subst e'
      have := s.apart _ u.mem
      rw [this] at e; cases e)]
    exact s.sees.pers k o e
  · rcases hmem p hp with rfl | ⟨hp, hn⟩
    · exact hb
    · rw [hne _ hn]; exact s.sees.own p hp
  · rcases hmem p hp with rfl | ⟨hp, _⟩
    · exact s.apart (b, o) u.mem
    · exact s.apart p hp
  · exact .inr (by rw [← hid]; exact mem_ids hp)

/-- Owned blocks may be given over to those that nobody writes any more. -/
def add (h : Frag) (M : Hp) : Frag := fun b => match M.lookup b with | some o => some o | none => h b
theorem lookup_mem {M : Hp} {b : Nat} {o : Obj} (e : M.lookup b = some o) : (b, o) ∈ M := by
  induction M with
  | nil => simp at e
  | cons p M ih =>
    obtain ⟨k, o'⟩ := p
    simp only [List.lookup] at e
    by_cases hk : b = k
    · subst hk; simp at e; simp [e]
    · have : (b == k) = false := by simpa using hk
      simp only [this] at e
      exact List.mem_cons_of_mem _ (ih e)
theorem mem_lookup {M : Hp} (hn : (ids M).Nodup) {b : Nat} {o : Obj} (hm : (b, o) ∈ M) : M.lookup b = some o := by
  induction M with
  | nil => cases hm
  | cons p M ih =>
    obtain ⟨k, o'⟩ := p
    simp only [ids, List.map_cons] at hn
    rw [List.nodup_cons] at hn
    simp only [List.lookup]
    rcases List.mem_cons.1 hm with e | hm
    · cases e; simp
    · have : (b == k) = false := by
        have : b ≠ k := fun e => hn.1 (by rw [← e]; exact List.mem_map.2 ⟨_, hm, rfl⟩)
        simpa using this
      simp only [this]
      exact ih hn.2 hm
theorem Ext.keep {h : Frag} {L M : Hp} {w : World} (s : Holds h (M ++ L) w) : Ext h (M ++ L) w (add h M) L w ∧ ∀ p, p ∈ M → add h M p.1 = some p.2 := by
  have hnd := s.nodup
  rw [ids_append, List.nodup_append] at hnd
  obtain ⟨hM, hL, hd⟩ := hnd
  refine ⟨⟨fun b o e => ?_, ⟨⟨fun b o e => ?_, fun p hp => s.sees.own p (List.mem_append_right _ hp)⟩, hL, fun p hp => ?_⟩, Nat.le_refl _, fun _ _ _ => rfl, fun b o e => ?_, fun p hp => .inr (mem_ids (List.mem_append_right _ hp)), rfl, rfl, rfl, Nat.le_refl _⟩, fun p hp => ?_⟩
  · unfold add
    cases hl : M.lookup b with
    | none => exact e
    | some o' =>
      have := s.apart (b, o') (List.mem_append_left _ (lookup_mem hl))
      simp only at this
      rw [this] at e; cases e
  · unfold add at e
    cases hl : M.lookup b with
    | none => rw [hl] at e; exact s.sees.pers b o e
    | some o' =>
      rw [hl] at e
      cases e
      exact s.sees.own (b, o) (List.mem_append_left _ (lookup_mem hl))
  · unfold add
    cases hl : M.lookup p.1 with
    | none => exact s.apart p (List.mem_append_right _ hp)
    | some o' => exact absurd rfl (hd p.1 (mem_ids (p := (p.1, o')) (lookup_mem hl)) p.1 (mem_ids hp))
  · unfold add at e
    cases hl : M.lookup b with
    | none => rw [hl] at e; exact .inl e
    | some o' => exact .inr (.inr (by rw [ids_append]; exact List.mem_append_left _ (mem_ids (p := (b, o')) (lookup_mem hl))))
  · unfold add
    rw [mem_lookup hM hp]

/-! ### Frames -/
def get? : Fr → Nat → Option Value
  | [], _ => none
  | (j, v) :: r, i => bif Nat.beq j i then some v else get? r i
theorem get?_cons (j i : Nat) (v : Value) (r : Fr) : get? ((j, v) :: r) i = if j = i then some v else get? r i := by
  simp only [get?]
  by_cases h : j = i
  · subst h; simp
  · have : Nat.beq j i = false := by
      cases hb : Nat.beq j i with
      | false => rfl
      | true => exact absurd (Nat.eq_of_beq_eq_true hb) h
    simp [this, h]

def marks (D : List Nat) : List Deferred := D.map fun d => { target := .collected d, args := #[] }

structure FrOk (N : Nat) (D : List Nat) (fr : Fr) (a : Act) : Prop where
  defers : a.defers = marks D
  size : a.tmps.size = N
  slots : ∀ i v, get? fr i = some v → a.tmps[i]? = some v

def putd (fr : Fr) : Option Tmp → Value → Fr
  | some d, v => (d, v) :: fr
  | none, _ => fr
def dstOk (N : Nat) : Option Tmp → Bool
  | some d => Nat.blt d N
  | none => true

theorem FrOk.put {N : Nat} {D : List Nat} {fr : Fr} {a : Act} (f : FrOk N D fr a) {dst : Option Tmp} (hd : dstOk N dst = true) (v : Value) : FrOk N D (putd fr dst v) (a.put dst v) := by
  cases dst with
  | none => exact f
  | some d =>
    have hd' : d < N := by simpa [dstOk, Nat.blt_eq] using hd
    refine ⟨f.defers, by simp [Act.put, f.size], fun i u e => ?_⟩
    simp only [putd, get?_cons] at e
    simp only [Act.put]
    rw [Array.getElem?_setIfInBounds]
    split at e
    · rename_i h; subst h; cases e; simp [f.size, hd']
    · rename_i h; rw [if_neg h]; exact f.slots i u e

def ev (fr : Fr) : Operand → Option Value
  | .tmp t => get? fr t
  | .const v => some v
  | .global g => some (.pointer (some ⟨g, 0, none⟩))
  | .func f => some (.func (.func f) #[] #[])

theorem FrOk.eval {N : Nat} {D : List Nat} {fr : Fr} {a : Act} (f : FrOk N D fr a) {x : Operand} {v : Value} (h : ev fr x = some v) : a.eval x = v := by
  cases x with
  | tmp t => have := f.slots t v h; simp [Act.eval, this]
  | const u => simpa [ev, Act.eval] using h
  | global g => simpa [ev, Act.eval] using h
  | func g => simpa [ev, Act.eval] using h

def FrSub : Fr → Fr → Prop
  | [], _ => True
  | (s, v) :: r, fr => get? fr s = some v ∧ FrSub r fr
theorem FrSub.get {f g : Fr} (h : FrSub f g) {i : Nat} {v : Value} (e : get? f i = some v) : get? g i = some v := by
  induction f with
  | nil => cases e
  | cons p f ih =>
    obtain ⟨s, u⟩ := p
    rw [get?_cons] at e
    split at e
    · rename_i hs; subst hs; cases e; exact h.1
    · exact ih h.2 e
theorem FrOk.sub {N : Nat} {D : List Nat} {fr fr' : Fr} {a : Act} (f : FrOk N D fr a) (h : FrSub fr' fr) : FrOk N D fr' a :=
  ⟨f.defers, f.size, fun i v e => f.slots i v (h.get e)⟩

/-! ### The fence -/
def FW (r : Option Nat) : Fence := { fn := fun _ => True, depth := none, alive := false, round := r }
theorem callsIn_FW {r : Option Nat} {n : Nat} {P : Program} {f : FuncId} {args : Array Value} {w : World} {R : Ending → World → Prop} (h : Calls P f args w R) : CallsIn (FW r) n P f args w R :=
  (callsIn_wide (n := n)).2 h
theorem calls_of_FW {r : Option Nat} {n : Nat} {P : Program} {f : FuncId} {args : Array Value} {w : World} {R : Ending → World → Prop} (h : CallsIn (FW r) n P f args w R) : Calls P f args w R :=
  (callsIn_wide (n := n)).1 h

abbrev Post := Exit → Frag → Hp → List Nat → Fr → Prop
abbrev Cont := Frag → Hp → List Nat → Fr → Prop

def lift (N : Nat) (h : Frag) (L : Hp) (w : World) (Q : Post) : Exit → Act → World → Prop :=
  fun e a' w' => ∃ h' L' D' fr', Q e h' L' D' fr' ∧ FrOk N D' fr' a' ∧ Ext h L w h' L' w'

def WP (P : Program) (r : Option Nat) (N : Nat) (c : Code) (h : Frag) (L : Hp) (D : List Nat) (fr : Fr) (Q : Post) : Prop :=
  ∀ a w, FrOk N D fr a → Holds h L w → c.wpIn (FW r) 0 P (lift N h L w Q) a w

def thenQ (K : Cont) (Q : Post) : Post
  | .normal, h, L, D, fr => K h L D fr
  | e, h, L, D, fr => Q e h L D fr
def blockQ (id : Nat) (Q : Post) : Post
  | .exit k, h, L, D, fr => if k = id then Q .normal h L D fr else Q (.exit k) h L D fr
  | e, h, L, D, fr => Q e h L D fr

section rules
variable {P : Program} {r : Option Nat} {N : Nat} {h : Frag} {L : Hp} {D : List Nat} {fr : Fr} {Q : Post}

theorem WP.mono {c : Code} {Q' : Post} (x : WP P r N c h L D fr Q) (hq : ∀ e h' L' D' fr', le h h' → Q e h' L' D' fr' → Q' e h' L' D' fr') : WP P r N c h L D fr Q' :=
  fun a w fa hw => wpIn_mono (x a w fa hw) fun _ _ _ ⟨h', L', D', fr', q, f, e⟩ => ⟨h', L', D', fr', hq _ _ _ _ _ e.le q, f, e⟩
theorem WP.sub {c : Code} {fr' : Fr} (hs : FrSub fr' fr) (x : WP P r N c h L D fr' Q) : WP P r N c h L D fr Q :=
  fun a w fa hw => x a w (fa.sub hs) hw
theorem WP.perm {c : Code} {L2 : Hp} (hs : L2.Perm L) (x : WP P r N c h L2 D fr Q) : WP P r N c h L D fr Q :=
  fun a w fa hw => wpIn_mono (x a w fa (hw.perm hs)) fun _ _ _ ⟨h', L', D', fr', q, f, e⟩ => ⟨h', L', D', fr', q, f, e.of_perm hs.symm⟩
theorem Ext.of_drop {h h' : Frag} {L L' L2 : Hp} {w w' : World} (x : Ext h L2 w h' L' w') (hs : List.Sublist L2 L) : Ext h L w h' L' w' where
  le := x.le
  holds := x.holds
  size := x.size
  frame := fun b hb hn => x.frame b hb (fun hm => hn ((hs.map _).subset hm))
  persNew := fun b o e => (x.persNew b o e).imp id (Or.imp id fun hm => (hs.map _).subset hm)
  ownNew := fun p hp => (x.ownNew p hp).imp id fun hm => (hs.map _).subset hm
  os := x.os
  tape := x.tape
  output := x.output
  drawn := x.drawn
theorem WP.drop {c : Code} {L2 : Hp} (hs : List.Sublist L2 L) (x : WP P r N c h L2 D fr Q) : WP P r N c h L D fr Q :=
  fun a w fa hw => wpIn_mono (x a w fa (hw.drop hs)) fun _ _ _ ⟨h', L', D', fr', q, f, e⟩ => ⟨h', L', D', fr', q, f, e.of_drop hs⟩
theorem WP.keep {c : Code} {M : Hp} (x : ∀ h', le h h' → (∀ p, p ∈ M → h' p.1 = some p.2) → WP P r N c h' L D fr Q) : WP P r N c h (M ++ L) D fr Q :=
  fun a w fa hw => by
    obtain ⟨e0, hm⟩ := Ext.keep hw
    exact wpIn_mono (x _ e0.le hm a w fa e0.holds) fun _ _ _ ⟨h', L', D', fr', q, f, e⟩ => ⟨h', L', D', fr', q, f, e0.trans e⟩

theorem WP_skip (x : Q .normal h L D fr) : WP P r N .skip h L D fr Q :=
  fun _ _ fa hw => wpIn_skip ⟨h, L, D, fr, x, fa, .refl hw⟩
theorem WP_exit {id : Nat} (x : Q (.exit id) h L D fr) : WP P r N (.exit id) h L D fr Q :=
  fun _ _ fa hw => wpIn_exit ⟨h, L, D, fr, x, fa, .refl hw⟩
theorem WP_ret (x : Q .ret h L D fr) : WP P r N .ret h L D fr Q :=
  fun _ _ fa hw => wpIn_ret ⟨h, L, D, fr, x, fa, .refl hw⟩
theorem WP_seq {x y : Code} (k : WP P r N x h L D fr (thenQ (fun h' L' D' fr' => WP P r N y h' L' D' fr' Q) Q)) : WP P r N (.seq x y) h L D fr Q :=
  fun a w fa hw => wpIn_seq (wpIn_mono (k a w fa hw) fun e a1 w1 ⟨h1, L1, D1, fr1, q, f1, e1⟩ => by
    cases e with
    | normal => exact wpIn_mono (q a1 w1 f1 e1.holds) fun _ _ _ ⟨h', L', D', fr', q, f, e⟩ => ⟨h', L', D', fr', q, f, e1.trans e⟩
    | _ => exact ⟨h1, L1, D1, fr1, q, f1, e1⟩)
theorem WP_cond {c : Operand} {x y : Code} {t : Bool} (hc : ev fr c = some (.bool t)) (ht : t = true → WP P r N x h L D fr Q) (hf : t = false → WP P r N y h L D fr Q) :
    WP P r N (.cond c x y) h L D fr Q :=
  fun a w fa hw => wpIn_cond_split (fa.eval hc) (fun e => ht e a w fa hw) (fun e => hf e a w fa hw)
theorem WP_block {id : Nat} {c : Code} (x : WP P r N c h L D fr (blockQ id Q)) : WP P r N (.block id c) h L D fr Q :=
  fun a w fa hw => wpIn_block (wpIn_mono (x a w fa hw) fun e a1 w1 ⟨h1, L1, D1, fr1, q, f1, e1⟩ => by
    cases e with
    | exit k =>
      simp only [Exit.inBlock]
      simp only [blockQ] at q
      by_cases hk : k = id
      · simp only [hk, if_true] at q ⊢; exact ⟨h1, L1, D1, fr1, q, f1, e1⟩
      · simp only [hk, if_false] at q ⊢; exact ⟨h1, L1, D1, fr1, q, f1, e1⟩
    | _ => exact ⟨h1, L1, D1, fr1, q, f1, e1⟩)

/-- A loop: I n at every round's head, n going down. -/
def roundQ (I : Nat → Cont) (n : Nat) (Q : Post) : Post
  | .normal, h, L, D, fr => ∃ m, m < n ∧ ∃ fr', FrSub fr' fr ∧ I m h L D fr'
  | e, h, L, D, fr => Q e h L D fr
theorem least (p : Nat → Prop) : ∀ n, p n → ∃ n, p n ∧ ∀ m, p m → n ≤ m := by
  intro n
  induction n using Nat.strongRecOn with
  | _ n ih =>
    intro hp
    by_cases hx : ∃ m, m < n ∧ p m
    · obtain ⟨m, hm, hpm⟩ := hx; exact ih m hm hpm
    · exact ⟨n, hp, fun m hm => Nat.le_of_not_lt fun hlt => hx ⟨m, hlt, hm⟩⟩
theorem leastFn {α β : Type} (p : α → β → Nat → Prop) : ∃ f : α → β → Nat, ∀ a b n, p a b n → p a b (f a b) ∧ ∀ m, p a b m → f a b ≤ m := by
  refine ⟨fun a b => @dite _ (∃ n, p a b n ∧ ∀ m, p a b m → n ≤ m) (Classical.propDecidable _) (fun hx => Classical.choose hx) (fun _ => 0), fun a b n hp => ?_⟩
  have hx := least (p a b) n hp
  simp only [dif_pos hx]
  exact Classical.choose_spec hx
theorem WP_loop {c : Code} (I : Nat → Cont) (n0 : Nat) (fr0 : Fr) (h0 : I n0 h L D fr0) (hs : FrSub fr0 fr)
    (round : ∀ n h1 L1 D1 fr1, le h h1 → I n h1 L1 D1 fr1 → WP P r N c h1 L1 D1 fr1 (roundQ I n Q)) : WP P r N (.loop c) h L D fr Q := by
  intro a w fa hw
  obtain ⟨f, hf⟩ := leastFn fun (a1 : Act) (w1 : World) n => ∃ h1 L1 D1 fr1, I n h1 L1 D1 fr1 ∧ FrOk N D1 fr1 a1 ∧ Ext h L w h1 L1 w1
  refine wpIn_loop (fun a1 w1 => ∃ n h1 L1 D1 fr1, I n h1 L1 D1 fr1 ∧ FrOk N D1 fr1 a1 ∧ Ext h L w h1 L1 w1) f ?_ ?_
  · exact ⟨n0, h, L, D, fr0, h0, fa.sub hs, .refl hw⟩
  · intro a1 w1 hI
    obtain ⟨n1, hI⟩ := hI
    obtain ⟨⟨h1, L1, D1, fr1, i1, f1, e1⟩, _⟩ := hf a1 w1 n1 hI
    refine wpIn_mono (round _ h1 L1 D1 fr1 e1.le i1 a1 w1 f1 e1.holds) fun e a2 w2 ⟨h2, L2, D2, fr2, q, f2, e2⟩ => ?_
    cases e with
    | normal =>
      obtain ⟨m, hm, fr', hs', im⟩ := q
      have hex : ∃ h1 L1 D1 fr1, I m h1 L1 D1 fr1 ∧ FrOk N D1 fr1 a2 ∧ Ext h L w h1 L1 w2 := ⟨h2, L2, D2, fr', im, f2.sub hs', e1.trans e2⟩
      exact ⟨⟨m, hex⟩, Nat.lt_of_le_of_lt ((hf a2 w2 m hex).2 m hex) hm⟩
    | _ => exact ⟨h2, L2, D2, fr2, q, f2, e1.trans e2⟩
end rules

end Go.Mesh
/-
  OPERATIONS, REGIONS AND CALLS in the logic of the first text: one operation; a region in the order of its text; a region that draws its order; a call by its contract; a function's contract from its body.
-/
set_option linter.all false
namespace Go.Mesh
open Go.RowKit

/-- An operation that yields the one value v and leaves the world alone, wherever what is known holds. -/
def QOP (P : Program) (o : Oper) (fr : Fr) (h : Frag) (L : Hp) (v : Value) : Prop :=
  (∀ c, o.op ≠ .defer c) ∧ ∀ a : Act, (∀ x u, ev fr x = some u → a.eval x = u) → ∀ w, Sees h L w → (execOp a.eval o).run P w = .ok (.value v) w

abbrev OCont := Frag → Hp → Value → Prop

/-- An operation that keeps what is owned (new blocks M may come). -/
def OPc (P : Program) (r : Option Nat) (o : Oper) (fr : Fr) (h : Frag) (L : Hp) (K : OCont) : Prop :=
  ∀ a : Act, (∀ x u, ev fr x = some u → a.eval x = u) → ∀ w, Holds h L w →
    o.wpIn (FW r) 0 P a w (fun a' w' => ∃ h' M v, a' = a.put o.dst v ∧ K h' M v ∧ Ext h L w h' (M ++ L) w') (fun _ _ _ => False)
/-- An operation that may change what is owned. -/
def OPw (P : Program) (r : Option Nat) (o : Oper) (fr : Fr) (h : Frag) (L : Hp) (K : OCont) : Prop :=
  ∀ a : Act, (∀ x u, ev fr x = some u → a.eval x = u) → ∀ w, Holds h L w →
    o.wpIn (FW r) 0 P a w (fun a' w' => ∃ h' L' v, a' = a.put o.dst v ∧ K h' L' v ∧ Ext h L w h' L' w') (fun _ _ _ => False)

section
variable {P : Program} {r : Option Nat} {N : Nat} {h : Frag} {L : Hp} {D : List Nat} {fr : Fr} {o : Oper} {K : OCont}

theorem wpIn_of_value {a : Act} {w w' : World} {v : Value} {next : Act → World → Prop} {Q : Exit → Act → World → Prop} (hd : ∀ c, o.op ≠ .defer c)
    (hr : (execOp a.eval o).run P w = .ok (.value v) w') (hk : next (a.put o.dst v) w') : o.wpIn (FW r) 0 P a w next Q :=
  ⟨fun _ _ => trivial, by rw [Oper.semAt_eq _ _ _ hd, hr]; exact hk⟩
theorem wpIn_of_skip {a : Act} {w w' : World} {next : Act → World → Prop} {Q : Exit → Act → World → Prop} (hd : ∀ c, o.op ≠ .defer c)
    (hr : (execOp a.eval o).run P w = .ok .skip w') (hk : next (a.put o.dst undef) w') : o.wpIn (FW r) 0 P a w next Q :=
  ⟨fun _ _ => trivial, by rw [Oper.semAt_eq _ _ _ hd, hr]; exact hk⟩

theorem OPc_of_Q {v : Value} (q : QOP P o fr h L v) (k : K h [] v) : OPc P r o fr h L K :=
  fun a ha w hw => wpIn_of_value q.1 (q.2 a ha w hw.sees) ⟨h, [], v, rfl, k, .refl hw⟩
theorem OPw_of_c {K' : OCont} (x : OPc P r o fr h L K') (hk : ∀ h' M v, K' h' M v → K h' (M ++ L) v) : OPw P r o fr h L K :=
  fun a ha w hw => Oper.wpIn_mono (fun _ _ ⟨h', M, v, e, k, x⟩ => ⟨h', M ++ L, v, e, hk _ _ _ k, x⟩) (x a ha w hw)
theorem OPc.mono {K' : OCont} (x : OPc P r o fr h L K') (hk : ∀ h' M v, K' h' M v → K h' M v) : OPc P r o fr h L K :=
  fun a ha w hw => Oper.wpIn_mono (fun _ _ ⟨h', M, v, e, k, x⟩ => ⟨h', M, v, e, hk _ _ _ k, x⟩) (x a ha w hw)
theorem OPw.mono {K' : OCont} (x : OPw P r o fr h L K') (hk : ∀ h' M v, K' h' M v → K h' M v) : OPw P r o fr h L K :=
  fun a ha w hw => Oper.wpIn_mono (fun _ _ ⟨h', M, v, e, k, x⟩ => ⟨h', M, v, e, hk _ _ _ k, x⟩) (x a ha w hw)

/-! ### A region in the order of its text -/
def OPS (P : Program) (r : Option Nat) (N : Nat) (D : List Nat) (ops : Array Oper) (l : List Oper) (h : Frag) (L : Hp) (fr : Fr) (K : Frag → Hp → Fr → Prop) : Prop :=
  ∀ a w, FrOk N D fr a → Holds h L w → wpListIn (FW r) 0 P ops (fun e a' w' => e = .normal ∧ ∃ h' L' fr', K h' L' fr' ∧ FrOk N D fr' a' ∧ Ext h L w h' L' w') l a w

theorem wpListIn_mono {ops : Array Oper} {Q Q' : Exit → Act → World → Prop} (hq : ∀ e a w, Q e a w → Q' e a w) : ∀ (l : List Oper) (a : Act) (w : World),
    wpListIn (FW r) 0 P ops Q l a w → wpListIn (FW r) 0 P ops Q' l a w := by
  intro l
  induction l with
  | nil => exact fun a w x => hq _ _ _ x
  | cons o rest ih =>
    intro a w x
    simp only [wpListIn] at x ⊢
    split
    · rename_i hw
      simp only [hw, if_true] at x
      refine ⟨x.1, ?_⟩
      have hx := x.2
      have hQn : ∀ chain a w, Q (.panic chain) a w → Q' (.panic chain) a w := fun _ _ _ => hq _ _ _
      have hout : LetsOut Q → LetsOut Q' := fun ⟨a₀, w₀, q⟩ => ⟨a₀, w₀, hq _ _ _ q⟩
      revert hx
      generalize (o.semAt (FW r).round a.eval).run P w = res
      intro hx
      cases res with
      | ok y w' =>
        cases y <;> simp only [Oper.uponIn] at hx ⊢ <;>
          first
            | exact ih _ _ hx
            | exact ⟨hx.1, CallsIn.mono hx.2 (fun e w'' he => by cases e <;> first | exact ih _ _ he | exact hQn _ _ _ he | exact hout he)⟩
            | exact ⟨hx.1, RowsIn.mono hx.2 (fun _ _ he => ih _ _ he)⟩
            | exact ⟨hx.1, RoundIn.mono hx.2 (fun e w'' he => by cases e <;> first | exact ih _ _ he | exact hQn _ _ _ he | exact hout he)⟩
      | halt y w' => cases y <;> simp only [Oper.uponIn] at hx ⊢ <;> exact hQn _ _ _ hx
    · rename_i hw
      simp only [hw] at x
      exact ⟨x.1, ih _ _ x.2⟩

theorem Oper.wpIn_monoQ {a : Act} {w : World} {next : Act → World → Prop} {Q : Exit → Act → World → Prop} (x : o.wpIn (FW r) 0 P a w next (fun _ _ _ => False)) : o.wpIn (FW r) 0 P a w next Q := by
  refine ⟨x.1, ?_⟩
  have hx := x.2
  revert hx
  generalize (o.semAt (FW r).round a.eval).run P w = res
  intro hx
  have hout : ∀ {q : Prop}, LetsOut (fun _ _ _ => False) → q := fun ⟨_, _, f⟩ => f.elim
  cases res with
  | ok y w' =>
    cases y <;> simp only [Oper.uponIn] at hx ⊢ <;>
      first
        | exact hx
        | exact ⟨hx.1, CallsIn.mono hx.2 (fun e w'' he => by cases e <;> first | exact he | exact he.elim | exact hout he)⟩
        | exact ⟨hx.1, RoundIn.mono hx.2 (fun e w'' he => by cases e <;> first | exact he | exact he.elim | exact hout he)⟩
  | halt y w' => cases y <;> simp only [Oper.uponIn] at hx ⊢ <;> exact hx.elim

variable {ops : Array Oper} {rest : List Oper} {C : Frag → Hp → Fr → Prop}

theorem WP_region {id : Nat} {Q : Post} (x : OPS P r N D ops ops.toList h L fr (fun h' L' fr' => Q .normal h' L' D fr')) : WP P r N (.region id ops false) h L D fr Q :=
  fun a w fa hw => wpIn_region_list (wpListIn_mono (fun e a' w' ⟨he, h', L', fr', q, f, e1⟩ => by subst he; exact ⟨h', L', D, fr', q, f, e1⟩) _ _ _ (x a w fa hw))

theorem OPS_nil (x : C h L fr) : OPS P r N D ops [] h L fr C := fun _ _ fa hw => ⟨rfl, h, L, fr, x, fa, .refl hw⟩

theorem OPS_w (hg : o.guard = none) (hd : dstOk N o.dst = true) (x : OPw P r o fr h L (fun h' L' v => OPS P r N D ops rest h' L' (putd fr o.dst v) C)) : OPS P r N D ops (o :: rest) h L fr C := by
  intro a w fa hw
  simp only [wpListIn, Region.wanted, hg, if_true]
  refine Oper.wpIn_monoQ (Oper.wpIn_mono (fun a' w' ⟨h', L', v, e, k, x1⟩ => ?_) (x a (fun _ _ e => fa.eval e) w hw))
  subst e
  exact wpListIn_mono (fun e a2 w2 ⟨he, h2, L2, fr2, q, f2, e2⟩ => ⟨he, h2, L2, fr2, q, f2, x1.trans e2⟩) _ _ _ (k _ _ (fa.put hd v) x1.holds)
theorem OPS_c (hg : o.guard = none) (hd : dstOk N o.dst = true) (x : OPc P r o fr h L (fun h' M v => OPS P r N D ops rest h' (M ++ L) (putd fr o.dst v) C)) : OPS P r N D ops (o :: rest) h L fr C :=
  OPS_w hg hd (OPw_of_c x fun _ _ _ k => k)
theorem OPS_q {v : Value} (hg : o.guard = none) (hd : dstOk N o.dst = true) (q : QOP P o fr h L v) (x : OPS P r N D ops rest h L (putd fr o.dst v) C) : OPS P r N D ops (o :: rest) h L fr C :=
  OPS_c hg hd (OPc_of_Q q x)

/-- what a guard's operation has yielded -/
theorem yielded_of {a : Act} (fa : FrOk N D fr a) {j : Nat} {oj : Oper} {d : Nat} {t : Bool} (hj : ops[j]? = some oj) (hd : oj.dst = some d) (hv : get? fr d = some (.bool t)) : yielded ops a.tmps j = some t := by
  simp [yielded, hj, hd, fa.slots d _ hv]
theorem OPS_gw {j : Nat} {want : Bool} {oj : Oper} {d : Nat} (hg : o.guard = some (j, want)) (hj : ops[j]? = some oj) (hdj : oj.dst = some d) (hv : get? fr d = some (.bool want)) (hd : dstOk N o.dst = true)
    (x : OPw P r o fr h L (fun h' L' v => OPS P r N D ops rest h' L' (putd fr o.dst v) C)) : OPS P r N D ops (o :: rest) h L fr C := by
  intro a w fa hw
  have hy := yielded_of (ops := ops) fa hj hdj hv
  simp only [wpListIn, Region.wanted, hg, hy, beq_self_eq_true, if_true]
  refine Oper.wpIn_monoQ (Oper.wpIn_mono (fun a' w' ⟨h', L', v, e, k, x1⟩ => ?_) (x a (fun _ _ e => fa.eval e) w hw))
  subst e
  exact wpListIn_mono (fun e a2 w2 ⟨he, h2, L2, fr2, q, f2, e2⟩ => ⟨he, h2, L2, fr2, q, f2, x1.trans e2⟩) _ _ _ (k _ _ (fa.put hd v) x1.holds)
theorem OPS_gc {j : Nat} {want : Bool} {oj : Oper} {d : Nat} (hg : o.guard = some (j, want)) (hj : ops[j]? = some oj) (hdj : oj.dst = some d) (hv : get? fr d = some (.bool want)) (hd : dstOk N o.dst = true)
    (x : OPc P r o fr h L (fun h' M v => OPS P r N D ops rest h' (M ++ L) (putd fr o.dst v) C)) : OPS P r N D ops (o :: rest) h L fr C :=
  OPS_gw hg hj hdj hv hd (OPw_of_c x fun _ _ _ k => k)
theorem OPS_gq {j : Nat} {want : Bool} {oj : Oper} {d : Nat} {v : Value} (hg : o.guard = some (j, want)) (hj : ops[j]? = some oj) (hdj : oj.dst = some d) (hv : get? fr d = some (.bool want)) (hd : dstOk N o.dst = true)
    (q : QOP P o fr h L v) (x : OPS P r N D ops rest h L (putd fr o.dst v) C) : OPS P r N D ops (o :: rest) h L fr C :=
  OPS_gc hg hj hdj hv hd (OPc_of_Q q x)
theorem OPS_gn {j : Nat} {want : Bool} {oj : Oper} {d : Nat} (hg : o.guard = some (j, want)) (hj : ops[j]? = some oj) (hdj : oj.dst = some d) (hv : get? fr d = some (.bool (!want))) (hd : dstOk N o.dst = true)
    (x : OPS P r N D ops rest h L (putd fr o.dst undef) C) : OPS P r N D ops (o :: rest) h L fr C := by
  intro a w fa hw
  have hy := yielded_of (ops := ops) fa hj hdj hv
  have hne : (some (!want) == some want) = false := by cases want <;> rfl
  simp only [wpListIn, Region.wanted, hg, hy, hne, Bool.false_eq_true, if_false]
  exact ⟨fun _ _ => trivial, x _ _ (fa.put hd undef) hw⟩

/-! ### Contracts -/
def FSpec (P : Program) (f : FuncId) (args : Array Value) (h : Frag) (L : Hp) (R : OCont) : Prop :=
  ∀ w, Holds h L w → Calls P f args w fun e w' => ∃ v h' L', e = .returned v ∧ R h' L' v ∧ Ext h L w h' L' w'

theorem FSpec.mono {f : FuncId} {args : Array Value} {R R' : OCont} (x : FSpec P f args h L R) (hr : ∀ h' L' v, le h h' → R h' L' v → R' h' L' v) : FSpec P f args h L R' :=
  fun w hw => (x w hw).mono fun _ _ ⟨v, h', L', e, q, y⟩ => ⟨v, h', L', e, hr _ _ _ y.le q, y⟩
theorem FSpec.framed {f : FuncId} {args : Array Value} {R : OCont} (M : Hp) (x : FSpec P f args h L R) : FSpec P f args h (L ++ M) (fun h' L' v => ∃ L1, L' = L1 ++ M ∧ R h' L1 v) :=
  fun w hw => (x w (hw.drop (List.sublist_append_left _ _))).mono fun _ _ ⟨v, h', L', e, q, y⟩ => ⟨v, h', L' ++ M, e, ⟨L', rfl, q⟩, y.framed hw⟩
/-- what is proved over less holds over more -/
theorem FSpec.wider {f : FuncId} {args : Array Value} {R : OCont} {h0 : Frag} (hl : le h0 h) (x : FSpec P f args h0 [] (fun h' L' v => L' = [] ∧ R h' [] v)) (hm : ∀ h1 h2 v, le h1 h2 → R h1 [] v → R h2 [] v) :
    FSpec P f args h [] (fun h' L' v => L' = [] ∧ R h' [] v) := by
  intro w hw
  have hw0 : Holds h0 [] w := ⟨⟨fun b o e => hw.sees.pers b o (hl b o e), fun p hp => by cases hp⟩, by simp [ids], fun p hp => by cases hp⟩
  refine (x w hw0).mono fun e w' ⟨v, h', L', he, ⟨hL, q⟩, y⟩ => ?_
  subst hL
  refine ⟨v, fun b => match h' b with | some o => some o | none => h b, [], he, ⟨rfl, hm h' _ v (fun b o e => by simp [e]) q⟩, ?_⟩
  have hfr : ∀ b, b < w.heap.size → w'.heap[b]? = w.heap[b]? := fun b hb => y.frame b hb (by simp [ids])
  refine ⟨fun b o e => ?_, ⟨⟨fun b o e => ?_, (fun p hp => by cases hp)⟩, by simp [ids], (fun p hp => by cases hp)⟩, y.size, fun b hb _ => hfr b hb, fun b o e => ?_, (fun p hp => by cases hp), y.os, y.tape, y.output, y.drawn⟩
  · cases hb : h' b with
    | none => simpa using e
    | some o' =>
      have h1 := y.holds.sees.pers b o' hb
      have h2 := hw.sees.pers b o e
      rw [hfr b (hw.pers_lt e), h2] at h1
      cases h1; rfl
  · cases hb : h' b with
    | none =>
      simp only [hb] at e
      rw [hfr b (hw.pers_lt e)]; exact hw.sees.pers b o e
    | some o' =>
      simp only [hb] at e
      cases e; exact y.holds.sees.pers b o hb
  · cases hb : h' b with
    | none => simp only [hb] at e; exact .inl e
    | some o' =>
      simp only [hb] at e
      cases e
      rcases y.persNew b o hb with h1 | h1
      · exact .inl (hl _ _ h1)
      · exact .inr h1

/-- the values of operands -/
def evs (fr : Fr) : List Operand → List Value → Prop
  | [], vs => vs = []
  | x :: xs, vs => ∃ v us, ev fr x = some v ∧ evs fr xs us ∧ vs = v :: us
theorem evs_map {a : Act} (ha : ∀ x u, ev fr x = some u → a.eval x = u) : ∀ {xs : List Operand} {vs : List Value}, evs fr xs vs → xs.map a.eval = vs
  | [], _, e => e.symm
  | x :: xs, _, ⟨v, us, e1, e2, e3⟩ => by subst e3; simp [ha x v e1, evs_map ha e2]

/-- A call of the program's function. -/
theorem OPw_call {c : Call} {f : FuncId} {fo : Operand} {first cap : Array Value} {vs : List Value} {fn : Func} {R : OCont} (hop : o.op = .call c) (hc : c.callee = .value fo) (hf : ev fr fo = some (.func (.func f) first cap))
    (hvs : evs fr c.args.toList vs) (hfn : P.funcs[f]? = some fn) (hn : fn.name ≠ "runtime.NumGoroutine") (hb : fn.body.isSome = true)
    (x : FSpec P f (first ++ vs.toArray ++ cap) h L R) (k : ∀ h' L' v, le h h' → R h' L' v → K h' L' v) : OPw P r o fr h L K := by
  intro a ha w hw
  have hd : ∀ c', o.op ≠ .defer c' := fun c' => by rw [hop]; simp
  have hargs : c.args.map a.eval = vs.toArray := by
    have := evs_map ha hvs
    rw [← this]
    exact Array.toList_inj.1 (by simp)
  have hrun : (execOp a.eval o).run P w = .ok (.enter f (first ++ vs.toArray ++ cap)) w := by
    have hbn : fn.body.isNone = false := by
      cases hx : fn.body with
      | none => rw [hx] at hb; cases hb
      | some _ => rfl
    unfold execOp
    rw [hop]
    simp only [Sem.run_bind, resolve, hc, hargs, ha fo _ hf, Deferred.ofValue, Sem.run_pure, Result.andThen_ok, invoke, callFunc, run_program, hfn]
    simp [hn, hbn]
  refine ⟨fun _ _ => trivial, ?_⟩
  rw [Oper.semAt_eq _ _ _ hd, hrun]
  refine ⟨fun e => by simp [FW] at e, callsIn_FW ((x w hw).mono fun e w' ⟨v, h', L', he, q, y⟩ => ?_)⟩
  subst he
  exact ⟨h', L', v, rfl, k _ _ _ y.le q, y⟩
/-- A call of a function that needs nothing owned. -/
theorem OPc_call {c : Call} {f : FuncId} {fo : Operand} {first cap : Array Value} {vs : List Value} {fn : Func} {R : OCont} (hop : o.op = .call c) (hc : c.callee = .value fo) (hf : ev fr fo = some (.func (.func f) first cap))
    (hvs : evs fr c.args.toList vs) (hfn : P.funcs[f]? = some fn) (hn : fn.name ≠ "runtime.NumGoroutine") (hb : fn.body.isSome = true)
    (x : FSpec P f (first ++ vs.toArray ++ cap) h [] R) (k : ∀ h' L' v, le h h' → R h' L' v → K h' L' v) : OPc P r o fr h L K := by
  have y := OPw_call (r := r) (L := [] ++ L) (K := fun h' L' v => ∃ L1, L' = L1 ++ L ∧ K h' L1 v) hop hc hf hvs hfn hn hb (x.framed L)
    (fun h' L' v hl ⟨L1, e, q⟩ => ⟨L1, e, k _ _ _ hl q⟩)
  intro a ha w hw
  exact Oper.wpIn_mono (fun a' w' ⟨h', L', v, e, ⟨L1, e1, q⟩, z⟩ => ⟨h', L1, v, e, q, by rw [e1] at z; exact z⟩) (y a ha w hw)
/-- A call of a function that needs some of what is owned, M; the rest is L2. -/
theorem OPw_callM {c : Call} {f : FuncId} {fo : Operand} {first cap : Array Value} {vs : List Value} {fn : Func} {R : OCont} {M L2 : Hp} (hop : o.op = .call c) (hc : c.callee = .value fo) (hf : ev fr fo = some (.func (.func f) first cap))
    (hvs : evs fr c.args.toList vs) (hfn : P.funcs[f]? = some fn) (hn : fn.name ≠ "runtime.NumGoroutine") (hb : fn.body.isSome = true) (hp : L.Perm (M ++ L2))
    (x : FSpec P f (first ++ vs.toArray ++ cap) h M R) (k : ∀ h' M' v, le h h' → R h' M' v → K h' (M' ++ L2) v) : OPw P r o fr h L K := by
  have y := OPw_call (r := r) (L := M ++ L2) (K := K) hop hc hf hvs hfn hn hb (x.framed L2) (fun h' L' v hl ⟨L1, e, q⟩ => by subst e; exact k _ _ _ hl q)
  intro a ha w hw
  exact Oper.wpIn_mono (fun a' w' ⟨h', L', v, e, q, z⟩ => ⟨h', L', v, e, q, z.of_perm hp⟩) (y a ha w (hw.perm hp.symm))

/-! ### A function's contract from its body -/
def LoadsAt (P : Program) (h : Frag) (L : Hp) (t : TypeId) (p v : Value) : Prop :=
  ∃ a, p = .pointer (some a) ∧ ∀ w, Sees h L w → (loadVar t a).run P w = .ok v w
def resVals (P : Program) (h : Frag) (L : Hp) (fr : Fr) : List ResultVar → List Value → Prop
  | [], vs => vs = []
  | .tmp t :: rs, vs => ∃ v us, get? fr t = some v ∧ resVals P h L fr rs us ∧ vs = v :: us
  | .cell c t :: rs, vs => ∃ p v us, get? fr c = some p ∧ LoadsAt P h L t p v ∧ resVals P h L fr rs us ∧ vs = v :: us
def resOf : List Value → Value
  | [v] => v
  | vs => .tuple vs.toArray

def resSem (tmps : Array Value) : ResultVar → Sem Value
  | .tmp t => pure (tmps.getD t undef)
  | .cell c t => do loadVar t (← asAddr (tmps.getD c undef))
theorem results_def (fn : Func) (tmps : Array Value) : results fn tmps = (do let vs ← fn.results.mapM (resSem tmps); pure (if h : vs.size = 1 then vs[0] else .tuple vs)) := by
  unfold results
  congr 2
theorem run_asAddr_some (q : Addr) (w : World) : (asAddr (.pointer (some q))).run P w = .ok q w := rfl
theorem results_run {a : Act} {w : World} (fa : FrOk N D fr a) (hw : Sees h L w) : ∀ {rs : List ResultVar} {vs : List Value}, resVals P h L fr rs vs →
    (rs.mapM (resSem a.tmps)).run P w = .ok vs w
  | [], _, e => by subst e; rfl
  | .tmp t :: rs, _, ⟨v, us, e1, e2, e3⟩ => by
    subst e3
    have hv : a.tmps.getD t undef = v := by simp [fa.slots t v e1]
    have ih := results_run fa hw e2
    simp only [List.mapM_cons, resSem, Sem.run_bind, Sem.run_pure, Result.andThen_ok, hv, ih]
  | .cell c t :: rs, _, ⟨p, v, us, e1, ⟨q, hq, hl⟩, e2, e3⟩ => by
    subst e3
    subst hq
    have hv : a.tmps.getD c undef = .pointer (some q) := by simp [fa.slots c _ e1]
    have ih := results_run fa hw e2
    simp only [List.mapM_cons, resSem, Sem.run_bind, Sem.run_pure, Result.andThen_ok, hv, run_asAddr_some, hl w hw, ih]

theorem results_eq {fn : Func} {a : Act} {w : World} (fa : FrOk N D fr a) (hw : Sees h L w) {vs : List Value} (hr : resVals P h L fr fn.results.toList vs) :
    (results fn a.tmps).run P w = .ok (resOf vs) w := by
  have hl := results_run fa hw hr
  rw [results_def]
  have : ∀ (xs : Array ResultVar) (g : ResultVar → Sem Value) (us : List Value), (xs.toList.mapM g).run P w = .ok us w → (xs.mapM g).run P w = .ok us.toArray w := by
    intro xs g us hx
    rw [Array.mapM_eq_mapM_toList]
    rw [Sem.run_map, hx]; rfl
  rw [Sem.run_bind, this _ _ _ hl]
  simp only [Result.andThen_ok, Sem.run_pure]
  cases vs with
  | nil => simp [resOf]
  | cons v vs =>
    cases vs with
    | nil => simp [resOf]
    | cons u vs => simp [resOf]

/-- What a function's body must come to: D marks' blocks are among what is owned, with no deferred call. -/
def retQ (P : Program) (fn : Func) (R : OCont) : Post := fun e h' L' D' fr' => (e = .ret ∨ e = .normal) ∧ D' = [] ∧ ∃ vs, resVals P h' L' fr' fn.results.toList vs ∧ ∀ w, Holds h' L' w → ∃ h2 L2, Ext h' L' w h2 L2 w ∧ R h2 L2 (resOf vs)

def argFr : List Value → Nat → Fr
  | [], _ => []
  | v :: vs, i => (i, v) :: argFr vs (i + 1)
theorem argFr_get : ∀ (vs : List Value) (k i : Nat) (v : Value), get? (argFr vs k) i = some v → k ≤ i ∧ vs[i - k]? = some v
  | [], _, _, _, e => by cases e
  | u :: vs, k, i, v, e => by
    simp only [argFr, get?_cons] at e
    split at e
    · rename_i h; subst h; cases e; simp
    · rename_i h
      obtain ⟨h1, h2⟩ := argFr_get vs (k + 1) i v e
      refine ⟨by omega, ?_⟩
      have : i - k = (i - (k + 1)) + 1 := by omega
      rw [this]; simpa using h2

theorem FSpec_of {f : FuncId} {fn : Func} {c : Code} {vs : List Value} {R : OCont} (hf : P.funcs[f]? = some fn) (hb : fn.body = some c) (hN : Nat.ble vs.length fn.ntmps = true)
    (x : WP P none fn.ntmps c h L [] (argFr vs 0) (retQ P fn R)) : FSpec P f vs.toArray h L R := by
  intro w hw
  have hN' : vs.length ≤ fn.ntmps := Nat.le_of_ble_eq_true hN
  refine calls_of_FW (r := none) (n := 0) (callsIn_of_wp hf hb trivial (wpIn_mono (x _ w ⟨rfl, by simp; omega, fun i v e => ?_⟩ hw) fun e a' w' ⟨h', L', D', fr', ⟨he, hD, us, hr, q⟩, fa, y⟩ => ?_) rfl)
  · obtain ⟨_, h2⟩ := argFr_get vs 0 i v e
    simp only [Nat.sub_zero] at h2
    have hlt := (List.getElem?_eq_some_iff.1 h2).1
    rw [Array.getElem?_append_left (by simpa using hlt)]
    simpa using h2
  · subst hD
    have hres := results_eq (fn := fn) fa y.holds.sees hr
    have hdf : a'.defers = [] := fa.defers
    obtain ⟨h2, L2, e2, q⟩ := q w' y.holds
    rcases he with he | he <;> subst he <;> exact ⟨hdf, _, hres, _, h2, L2, rfl, q, y.trans e2⟩
end
end Go.Mesh
/-
  A REGION THAT DRAWS ITS ORDER: operations that yield one value wherever what is known holds are taken first, in the order of the text; where one other operation alone is ready it is taken; where several are, each is.
-/
set_option linter.all false
namespace Go.Mesh
open Go.RowKit

def calmOp : Op → Bool
  | .store .. | .mapUpdate .. | .insert .. | .mapEntry .. | .entryStore .. | .next .. | .ready _ | .go _ | .defer _ | .panic _ | .send .. | .recv .. | .select .. => false
  | .call { callee := .builtin b, .. } => match b with | .len | .cap | .min | .max => true | _ => false
  | _ => true
theorem calmOp_defer {o : Op} (h : calmOp o = true) : ∀ c, o ≠ .defer c := fun c e => by subst e; cases h
theorem calmOp_select {o : Op} (h : calmOp o = true) : ∀ c b, o ≠ .select c b := fun c b e => by subst e; cases h

section
variable {P : Program} {r : Option Nat} {N : Nat} {D : List Nat} {ops : Array Oper}

def STEPa (P : Program) (r : Option Nat) (ops : Array Oper) (i : Nat) (a : Act) (h : Frag) (L : Hp) (KK : Act → Frag → Hp → Prop) : Prop :=
  match ops[i]? with
  | none => KK a h L
  | some o => if Region.wanted o (yielded ops a.tmps) then
      ∀ w, Holds h L w → o.wpIn (FW r) 0 P a w (fun a' w' => ∃ h' L', KK a' h' L' ∧ Ext h L w h' L' w' ∧ (calmOp o.op = true → ∀ w1, Sees h' L' w1 → Sees h L w1)) (fun _ _ _ => False)
    else KK (a.put o.dst undef) h L

def ANYa (P : Program) (r : Option Nat) (ops : Array Oper) (E : Act → Frag → Hp → Prop) : Nat → Array Bool → Act → Frag → Hp → Prop
  | 0, listed, a, h, L => Region.ready .any ops listed = [] ∧ E a h L
  | fuel + 1, listed, a, h, L => (Region.ready .any ops listed = [] → E a h L) ∧ ∀ i ∈ Region.ready .any ops listed, STEPa P r ops i a h L (ANYa P r ops E fuel (listed.setIfInBounds i true))

theorem STEPa.mono {i : Nat} {a : Act} {h : Frag} {L : Hp} {KK KK' : Act → Frag → Hp → Prop} (hk : ∀ a h L, KK a h L → KK' a h L) (x : STEPa P r ops i a h L KK) : STEPa P r ops i a h L KK' := by
  unfold STEPa at *
  cases ho : ops[i]? with
  | none => simp only [ho] at x ⊢; exact hk _ _ _ x
  | some o =>
    simp only [ho] at x ⊢
    split
    · rename_i hw
      simp only [hw, if_true] at x
      exact fun w hh => Oper.wpIn_mono (fun a' w' ⟨h', L', k, e⟩ => ⟨h', L', hk _ _ _ k, e⟩) (x w hh)
    · rename_i hw
      simp only [hw] at x
      exact hk _ _ _ x

theorem ANYa_sound {E : Act → Frag → Hp → Prop} {h0 : Frag} {L0 : Hp} {w0 : World} : ∀ (fuel : Nat) (listed : Array Bool) (a : Act) (h : Frag) (L : Hp) (w : World), ANYa P r ops E fuel listed a h L → Ext h0 L0 w0 h L w →
    wpAnyIn (FW r) 0 P .any ops (fun e a' w' => e = .normal ∧ ∃ h' L', E a' h' L' ∧ Ext h0 L0 w0 h' L' w') fuel listed a w := by
  intro fuel
  induction fuel with
  | zero => exact fun listed a h L w x e => ⟨x.1, rfl, h, L, x.2, e⟩
  | succ fuel ih =>
    intro listed a h L w x e
    refine ⟨fun hr => ⟨rfl, h, L, x.1 hr, e⟩, fun i hi => ?_⟩
    have hs := x.2 i hi
    unfold STEPa at hs
    unfold wpOpIn
    cases ho : ops[i]? with
    | none => simp only [ho] at hs ⊢; exact ih _ _ _ _ _ hs e
    | some o =>
      simp only [ho] at hs ⊢
      split
      · rename_i hw
        simp only [hw, if_true] at hs
        exact Oper.wpIn_monoQ (Oper.wpIn_mono (fun a' w' ⟨h', L', k, e1, _⟩ => ih _ _ _ _ _ k (e.trans e1)) (hs w e.holds))
      · rename_i hw
        simp only [hw] at hs
        exact ⟨fun _ _ => trivial, ih _ _ _ _ _ hs e⟩

/-- Operation o yields v in state a, wherever h and L are seen. -/
def Yv (P : Program) (ops : Array Oper) (o : Oper) (v : Value) (a : Act) (h : Frag) (L : Hp) : Prop :=
  (Region.wanted o (yielded ops a.tmps) = true ∧ (∀ c, o.op ≠ .defer c) ∧ ∀ w, Sees h L w → (execOp a.eval o).run P w = .ok (.value v) w) ∨ (Region.wanted o (yielded ops a.tmps) = false ∧ v = undef)

theorem Yv.step {i : Nat} {o : Oper} {v : Value} {a : Act} {h : Frag} {L : Hp} {KK : Act → Frag → Hp → Prop} (hi : ops[i]? = some o) (y : Yv P ops o v a h L) (k : KK (a.put o.dst v) h L) : STEPa P r ops i a h L KK := by
  unfold STEPa
  simp only [hi]
  rcases y with ⟨hw, hd, hr⟩ | ⟨hw, rfl⟩
  · simp only [hw, if_true]
    exact fun w hh => wpIn_of_value hd (hr w hh.sees) ⟨h, L, k, .refl hh, fun _ _ s => s⟩
  · simp only [hw, Bool.false_eq_true, if_false]; exact k
theorem Yv.keep {o oj : Oper} {v u : Value} {a : Act} {h h' : Frag} {L L' : Hp} (hs : ∀ cs b, o.op ≠ .select cs b) (h3 : ∀ d, oj.dst = some d → d ∉ o.looksAt ops) (y : Yv P ops o v a h L) (hS : ∀ w, Sees h' L' w → Sees h L w) :
    Yv P ops o v (a.put oj.dst u) h' L' := by
  unfold Yv at *
  rw [wanted_put o a oj.dst u h3, execOp_put o hs a oj.dst u h3]
  exact y.imp (fun ⟨a1, a2, a3⟩ => ⟨a1, a2, fun w hw => a3 w (hS w hw)⟩) id
theorem Act.put_defers (a : Act) (dst : Option Tmp) (v : Value) (ds : List Deferred) : ({ a.put dst v with defers := ds } : Act) = ({ a with defers := ds } : Act).put dst v := by cases dst <;> rfl
theorem Act.defers_put (a : Act) (dst : Option Tmp) (v : Value) : (a.put dst v).defers = a.defers := by cases dst <;> rfl

theorem STEPa_put {j : Nat} {oi oj : Oper} {v : Value} {a : Act} {h : Frag} {L : Hp} {KK : Act → Frag → Hp → Prop} (hj : ops[j]? = some oj) (hap : oi.apart ops oj = true) (hcj : calmOp oj.op = true) (hsi : ∀ cs b, oi.op ≠ .select cs b)
    (y : Yv P ops oi v a h L) (x : STEPa P r ops j (a.put oi.dst v) h L KK) : STEPa P r ops j a h L (fun a' h' L' => Yv P ops oi v a' h' L' ∧ KK (a'.put oi.dst v) h' L') := by
  obtain ⟨h1, h2, h3⟩ := Oper.apart_spec hap
  unfold STEPa at *
  simp only [hj] at *
  rw [wanted_put oj a oi.dst v h1] at x
  split
  · rename_i hw
    simp only [hw, if_true] at x
    intro w hh
    have xx := x w hh
    refine ⟨fun _ _ => trivial, ?_⟩
    have hx := xx.2
    rw [Oper.semAt_eq _ _ _ (calmOp_defer hcj)] at hx ⊢
    rw [execOp_put oj (calmOp_select hcj) a oi.dst v h1] at hx
    have key : ∀ (u : Value) (w' : World), (∃ h' L', KK ((a.put oi.dst v).put oj.dst u) h' L' ∧ Ext h L w h' L' w' ∧ (calmOp oj.op = true → ∀ w1, Sees h' L' w1 → Sees h L w1)) →
        ∃ h' L', (Yv P ops oi v (a.put oj.dst u) h' L' ∧ KK ((a.put oj.dst u).put oi.dst v) h' L') ∧ Ext h L w h' L' w' ∧ (calmOp oj.op = true → ∀ w1, Sees h' L' w1 → Sees h L w1) := by
      rintro u w' ⟨h', L', k, e, hc⟩
      refine ⟨h', L', ⟨y.keep hsi h3 (hc hcj), ?_⟩, e, hc⟩
      rw [← Act.put_comm a v u h2]; exact k
    revert hx
    cases hres : (execOp a.eval oj).run P w with
    | ok z w' =>
      intro hx
      cases z <;> simp only [Oper.uponIn] at hx ⊢ <;>
        first
          | exact key _ _ hx
          | exact ⟨hx.1, CallsIn.mono hx.2 (fun e w'' he => by cases e <;> first | exact key _ _ he | exact he)⟩
          | exact ⟨hx.1, RowsIn.mono hx.2 (fun _ _ he => key _ _ he)⟩
          | exact ⟨hx.1, RoundIn.mono hx.2 (fun e w'' he => by cases e <;> first | exact key _ _ he | exact he)⟩
          | skip
      case defer d =>
        rw [Act.defers_put, Act.put_defers] at hx
        obtain ⟨h', L', k, e, hc⟩ := hx
        refine ⟨h', L', ⟨?_, ?_⟩, e, hc⟩
        · exact Yv.keep (a := { a with defers := d :: a.defers }) hsi h3 y (hc hcj)
        · rw [← Act.put_comm { a with defers := d :: a.defers } v undef h2]; exact k
    | halt z w' =>
      intro hx
      cases z <;> simp only [Oper.uponIn] at hx ⊢ <;> exact hx
  · rename_i hw
    simp only [hw] at x
    exact ⟨y.keep hsi h3 (fun _ s => s), by rw [← Act.put_comm a v undef h2]; exact x⟩

/-- Is i among what j waits for, directly or through others? -/
def anc (ops : Array Oper) (i : Nat) : Nat → Nat → Bool
  | 0, _ => false
  | f + 1, j => match ops[j]? with
    | none => false
    | some o => o.after.any fun e => Region.binds .any e && (e.on == i || anc ops i f e.on)
def Closed (ops : Array Oper) (listed : Array Bool) : Prop :=
  ∀ j o, ops[j]? = some o → listed.getD j false = true → ∀ e ∈ o.after, Region.binds .any e = true → listed.getD e.on false = true
theorem anc_listed {listed : Array Bool} (hc : Closed ops listed) {i : Nat} : ∀ (f j : Nat) (o : Oper), ops[j]? = some o → (∀ e ∈ o.after, Region.binds .any e = true → listed.getD e.on false = true) → anc ops i f j = true → listed.getD i false = true := by
  intro f
  induction f with
  | zero => intro j o _ _ h; cases h
  | succ f ih =>
    intro j o ho hall h
    simp only [anc, ho, Array.any_eq_true] at h
    obtain ⟨k, hk, h⟩ := h
    simp only [Bool.and_eq_true, Bool.or_eq_true, beq_iff_eq] at h
    have hm : o.after[k] ∈ o.after := Array.getElem_mem hk
    have hl := hall _ hm h.1
    rcases h.2 with h2 | h2
    · rw [← h2]; exact hl
    · cases ho2 : ops[o.after[k].on]? with
      | none =>
        cases f with
        | zero => cases h2
        | succ f => simp [anc, ho2] at h2
      | some o2 => exact ih _ o2 ho2 (hc _ o2 ho2 hl) h2

def okFirst (ops : Array Oper) (listed : Array Bool) (i : Nat) : Bool :=
  match ops[i]? with
  | none => false
  | some oi => calmOp oi.op && (List.range ops.size).all fun j => j == i || listed.getD j true || anc ops i ops.size j || (match ops[j]? with | none => true | some oj => oi.apart ops oj && calmOp oj.op)

theorem ANYa_first {E : Act → Frag → Hp → Prop} {i : Nat} {oi : Oper} {v : Value} (hi : ops[i]? = some oi) (hsi : ∀ cs b, oi.op ≠ .select cs b) :
    ∀ (fuel : Nat) (listed : Array Bool) (a : Act) (h : Frag) (L : Hp), Closed ops listed →
      (∀ j oj, ops[j]? = some oj → j ≠ i → listed.getD j true = false → anc ops i ops.size j = false → oi.apart ops oj = true ∧ calmOp oj.op = true) →
      i ∈ Region.ready .any ops listed → Yv P ops oi v a h L → ANYa P r ops E fuel (listed.setIfInBounds i true) (a.put oi.dst v) h L → ANYa P r ops E (fuel + 1) listed a h L := by
  intro fuel
  induction fuel with
  | zero =>
    intro listed a h L _ _ hr hy H
    refine ⟨fun e => (by rw [e] at hr; cases hr), fun j hj => ?_⟩
    by_cases hji : j = i
    · subst hji; exact hy.step hi H
    · have := ready_mono hj hji
      rw [H.1] at this
      cases this
  | succ fuel ih =>
    intro listed a h L hc hfree hr hy H
    refine ⟨fun e => (by rw [e] at hr; cases hr), fun j hj => ?_⟩
    by_cases hji : j = i
    · subst hji; exact hy.step hi H
    · have h1 := H.2 j (ready_mono hj hji)
      obtain ⟨hjun, oj, hoj, hall⟩ := mem_ready.1 hj
      have hiun := (mem_ready.1 hr).1
      have hnl : listed.getD i false ≠ true := fun e => by
        rcases Nat.lt_or_ge i listed.size with h' | h'
        · simp [h'] at hiun e; rw [hiun] at e; cases e
        · simp [Array.getElem?_eq_none h'] at e
      have hanc : anc ops i ops.size j = false := by
        cases ha : anc ops i ops.size j with
        | false => rfl
        | true => exact absurd (anc_listed hc _ _ oj hoj hall ha) hnl
      obtain ⟨hap, hcj⟩ := hfree j oj hoj hji hjun hanc
      have h2 := STEPa_put hoj hap hcj hsi hy h1
      have hc' : Closed ops (listed.setIfInBounds j true) := by
        intro k o ho hl e he hb
        by_cases hjk : j = k
        · subst hjk
          rw [hoj] at ho; cases ho
          exact getD_set_true (hall e he hb)
        · rw [getD_set_ne false hjk] at hl
          exact getD_set_true (hc k o ho hl e he hb)
      have hfree' : ∀ k ok, ops[k]? = some ok → k ≠ i → (listed.setIfInBounds j true).getD k true = false → anc ops i ops.size k = false → oi.apart ops ok = true ∧ calmOp ok.op = true := fun k ok hk hki hun hno => by
        refine hfree k ok hk hki ?_ hno
        by_cases hjk : j = k
        · subst hjk; exact hjun
        · rw [getD_set_ne true hjk] at hun; exact hun
      refine STEPa.mono (fun a' h' L' h3 => ih (listed.setIfInBounds j true) a' h' L' hc' hfree' (ready_mono hr (Ne.symm hji)) h3.1 ?_) h2
      rw [Array.setIfInBounds_comm _ _ hji]
      exact h3.2

/-! ### The words for a proof -/
/-- Which operations have come up, as a Bool over their numbers. -/
def ANY (P : Program) (r : Option Nat) (N : Nat) (D : List Nat) (ops : Array Oper) (fuel : Nat) (listed : Array Bool) (h : Frag) (L : Hp) (fr : Fr) (C : Frag → Hp → Fr → Prop) : Prop :=
  ∀ a, FrOk N D fr a → ANYa P r ops (fun a' h' L' => ∃ fr', FrOk N D fr' a' ∧ C h' L' fr') fuel listed a h L

def closedB (ops : Array Oper) (listed : Array Bool) : Bool :=
  (List.range ops.size).all fun j => !listed.getD j false || (match ops[j]? with | none => true | some o => o.after.all fun e => !Region.binds .any e || listed.getD e.on false)
theorem closed_of {listed : Array Bool} (hc : closedB ops listed = true) : Closed ops listed := by
  intro j o ho hl e he hb
  unfold closedB at hc
  rw [List.all_eq_true] at hc
  have hj : j < ops.size := (Array.getElem?_eq_some_iff.1 ho).1
  have := hc j (List.mem_range.2 hj)
  simp only [ho, hl, Bool.not_true, Bool.false_or] at this
  rw [Array.all_eq_true'] at this
  have := this e he
  simpa [hb] using this

/-- i may be taken first: what is asked of the region, by the kernel. -/
def firstB (ops : Array Oper) (listed : Array Bool) (i : Nat) : Bool :=
  closedB ops listed && okFirst ops listed i && (Region.ready .any ops listed).contains i

variable {h : Frag} {L : Hp} {fr : Fr} {C : Frag → Hp → Fr → Prop} {fuel : Nat} {listed : Array Bool}

theorem first_parts {i : Nat} {o : Oper} (hi : ops[i]? = some o) (hf : firstB ops listed i = true) : Closed ops listed ∧ (∀ cs b, o.op ≠ .select cs b) ∧ i ∈ Region.ready .any ops listed ∧
    (∀ j oj, ops[j]? = some oj → j ≠ i → listed.getD j true = false → anc ops i ops.size j = false → o.apart ops oj = true ∧ calmOp oj.op = true) := by
  unfold firstB okFirst at hf
  simp only [Bool.and_eq_true, hi] at hf
  obtain ⟨⟨h1, h2, h3⟩, h4⟩ := hf
  refine ⟨closed_of h1, calmOp_select h2, by simpa using h4, fun j oj hj hne hun han => ?_⟩
  rw [List.all_eq_true] at h3
  have := h3 j (List.mem_range.2 (Array.getElem?_eq_some_iff.1 hj).1)
  simp only [hj, hun, han, Bool.or_false, Bool.or_eq_true, beq_iff_eq, Bool.and_eq_true] at this
  rcases this with h | h
  · exact absurd h hne
  · exact h

theorem WP_draw {id : Nat} {Q : Post} (hm : P.follows .mixedOrders = true) (x : ANY P r N D ops ops.size (Array.replicate ops.size false) h L fr (fun h' L' fr' => Q .normal h' L' D fr')) : WP P r N (.region id ops true) h L D fr Q := by
  intro a w fa hw
  refine wpIn_region_any hm ?_
  have hs := ANYa_sound (h0 := h) (L0 := L) (w0 := w) ops.size (Array.replicate ops.size false) a h L { w with drawn := w.drawn + 1 } (x a fa) (Ext.same hw rfl rfl rfl rfl (Nat.le_succ _))
  have mono : ∀ (Q1 Q2 : Exit → Act → World → Prop), (∀ e a w, Q1 e a w → Q2 e a w) → ∀ (n : Nat) (l : Array Bool) (a : Act) (w : World), wpAnyIn (FW r) 0 P .any ops Q1 n l a w → wpAnyIn (FW r) 0 P .any ops Q2 n l a w := by
    intro Q1 Q2 hq n
    induction n with
    | zero => exact fun l a w y => ⟨y.1, hq _ _ _ y.2⟩
    | succ n ih =>
      intro l a w y
      refine ⟨fun e => hq _ _ _ (y.1 e), fun i hi => ?_⟩
      have yi := y.2 i hi
      unfold wpOpIn at yi ⊢
      cases ho : ops[i]? with
      | none => simp only [ho] at yi ⊢; exact ih _ _ _ yi
      | some o =>
        simp only [ho] at yi ⊢
        split
        · rename_i hw'
          simp only [hw', if_true] at yi
          refine ⟨yi.1, ?_⟩
          have hx := yi.2
          have hout : LetsOut Q1 → LetsOut Q2 := fun ⟨a₀, w₀, q⟩ => ⟨a₀, w₀, hq _ _ _ q⟩
          revert hx
          generalize (o.semAt (FW r).round a.eval).run P w = res
          intro hx
          cases res with
          | ok z w' =>
            cases z <;> simp only [Oper.uponIn] at hx ⊢ <;>
              first
                | exact ih _ _ _ hx
                | exact ⟨hx.1, CallsIn.mono hx.2 (fun e w'' he => by cases e <;> first | exact ih _ _ _ he | exact hq _ _ _ he | exact hout he)⟩
                | exact ⟨hx.1, RowsIn.mono hx.2 (fun _ _ he => ih _ _ _ he)⟩
                | exact ⟨hx.1, RoundIn.mono hx.2 (fun e w'' he => by cases e <;> first | exact ih _ _ _ he | exact hq _ _ _ he | exact hout he)⟩
          | halt z w' => cases z <;> simp only [Oper.uponIn] at hx ⊢ <;> exact hq _ _ _ hx
        · rename_i hw'
          simp only [hw'] at yi
          exact ⟨yi.1, ih _ _ _ yi.2⟩
  exact mono _ _ (fun e a' w' ⟨he, h', L', ⟨fr', f', q⟩, e1⟩ => by subst he; exact ⟨h', L', D, fr', q, f', e1⟩) _ _ _ _ hs

theorem ANY_done (hr : Region.ready .any ops listed = []) (x : C h L fr) : ANY P r N D ops fuel listed h L fr C := by
  intro a fa
  cases fuel with
  | zero => exact ⟨hr, fr, fa, x⟩
  | succ n => exact ⟨fun _ => ⟨fr, fa, x⟩, fun i hi => by rw [hr] at hi; cases hi⟩
theorem ANY_q {o : Oper} {v : Value} (i : Nat) (hi : ops[i]? = some o) (hf : firstB ops listed i = true) (hg : o.guard = none) (hd : dstOk N o.dst = true) (q : QOP P o fr h L v)
    (x : ANY P r N D ops fuel (listed.setIfInBounds i true) h L (putd fr o.dst v) C) : ANY P r N D ops (fuel + 1) listed h L fr C := by
  intro a fa
  obtain ⟨h1, h2, h3, h4⟩ := first_parts hi hf
  exact ANYa_first hi h2 fuel listed a h L h1 h4 h3 (.inl ⟨by simp [Region.wanted, hg], q.1, q.2 a (fun _ _ e => fa.eval e)⟩) (x _ (fa.put hd v))
theorem ANY_gq {o oj : Oper} {v : Value} {j d : Nat} {want : Bool} (i : Nat) (hi : ops[i]? = some o) (hf : firstB ops listed i = true) (hg : o.guard = some (j, want)) (hj : ops[j]? = some oj) (hdj : oj.dst = some d)
    (hv : get? fr d = some (.bool want)) (hd : dstOk N o.dst = true) (q : QOP P o fr h L v)
    (x : ANY P r N D ops fuel (listed.setIfInBounds i true) h L (putd fr o.dst v) C) : ANY P r N D ops (fuel + 1) listed h L fr C := by
  intro a fa
  obtain ⟨h1, h2, h3, h4⟩ := first_parts hi hf
  have hy := yielded_of (ops := ops) fa hj hdj hv
  exact ANYa_first hi h2 fuel listed a h L h1 h4 h3 (.inl ⟨by simp [Region.wanted, hg, hy], q.1, q.2 a (fun _ _ e => fa.eval e)⟩) (x _ (fa.put hd v))
theorem ANY_gn {o oj : Oper} {j d : Nat} {want : Bool} (i : Nat) (hi : ops[i]? = some o) (hf : firstB ops listed i = true) (hg : o.guard = some (j, want)) (hj : ops[j]? = some oj) (hdj : oj.dst = some d)
    (hv : get? fr d = some (.bool (!want))) (hd : dstOk N o.dst = true)
    (x : ANY P r N D ops fuel (listed.setIfInBounds i true) h L (putd fr o.dst undef) C) : ANY P r N D ops (fuel + 1) listed h L fr C := by
  intro a fa
  obtain ⟨h1, h2, h3, h4⟩ := first_parts hi hf
  have hy := yielded_of (ops := ops) fa hj hdj hv
  exact ANYa_first hi h2 fuel listed a h L h1 h4 h3 (.inr ⟨by simp only [Region.wanted, hg, hy]; cases want <;> rfl, rfl⟩) (x _ (fa.put hd undef))

/-- One operation at a time, where each that is ready is met. -/
def STEP (P : Program) (r : Option Nat) (N : Nat) (D : List Nat) (ops : Array Oper) (i : Nat) (h : Frag) (L : Hp) (fr : Fr) (C : Frag → Hp → Fr → Prop) : Prop :=
  ∀ a, FrOk N D fr a → STEPa P r ops i a h L (fun a' h' L' => ∃ fr', FrOk N D fr' a' ∧ C h' L' fr')
theorem ANY_one (i : Nat) (hr : Region.ready .any ops listed = [i]) (x : STEP P r N D ops i h L fr (fun h' L' fr' => ANY P r N D ops fuel (listed.setIfInBounds i true) h' L' fr' C)) : ANY P r N D ops (fuel + 1) listed h L fr C := by
  intro a fa
  refine ⟨(fun e => by rw [hr] at e; cases e), fun j hj => ?_⟩
  rw [hr, List.mem_singleton] at hj
  subst hj
  exact (x a fa).mono fun a' h' L' ⟨fr', f', k⟩ => k a' f'
theorem ANY_two (i j : Nat) (hr : Region.ready .any ops listed = [i, j]) (x : STEP P r N D ops i h L fr (fun h' L' fr' => ANY P r N D ops fuel (listed.setIfInBounds i true) h' L' fr' C))
    (y : STEP P r N D ops j h L fr (fun h' L' fr' => ANY P r N D ops fuel (listed.setIfInBounds j true) h' L' fr' C)) : ANY P r N D ops (fuel + 1) listed h L fr C := by
  intro a fa
  refine ⟨(fun e => by rw [hr] at e; cases e), fun k hk => ?_⟩
  rw [hr] at hk
  simp only [List.mem_cons, List.not_mem_nil, or_false] at hk
  rcases hk with rfl | rfl
  · exact (x a fa).mono fun a' h' L' ⟨fr', f', k⟩ => k a' f'
  · exact (y a fa).mono fun a' h' L' ⟨fr', f', k⟩ => k a' f'
theorem STEP_c {o : Oper} {i : Nat} (hi : ops[i]? = some o) (hg : o.guard = none) (hd : dstOk N o.dst = true) (x : OPc P r o fr h L (fun h' M v => C h' (M ++ L) (putd fr o.dst v))) : STEP P r N D ops i h L fr C := by
  intro a fa
  unfold STEPa
  simp only [hi, Region.wanted, hg, if_true]
  exact fun w hw => Oper.wpIn_mono (fun a' w' ⟨h', M, v, e, k, x1⟩ => ⟨h', M ++ L, ⟨_, by rw [e]; exact fa.put hd v, k⟩, x1, fun _ w1 s => s.mono x1.le (fun p hp => List.mem_append_right _ hp)⟩) (x a (fun _ _ e => fa.eval e) w hw)
theorem STEP_w {o : Oper} {i : Nat} (hi : ops[i]? = some o) (hg : o.guard = none) (hc : calmOp o.op = false) (hd : dstOk N o.dst = true) (x : OPw P r o fr h L (fun h' L' v => C h' L' (putd fr o.dst v))) : STEP P r N D ops i h L fr C := by
  intro a fa
  unfold STEPa
  simp only [hi, Region.wanted, hg, if_true]
  exact fun w hw => Oper.wpIn_mono (fun a' w' ⟨h', L', v, e, k, x1⟩ => ⟨h', L', ⟨_, by rw [e]; exact fa.put hd v, k⟩, x1, fun hx => by rw [hc] at hx; cases hx⟩) (x a (fun _ _ e => fa.eval e) w hw)
theorem STEP_gc {o oj : Oper} {i j d : Nat} {want : Bool} (hi : ops[i]? = some o) (hg : o.guard = some (j, want)) (hj : ops[j]? = some oj) (hdj : oj.dst = some d) (hv : get? fr d = some (.bool want)) (hd : dstOk N o.dst = true)
    (x : OPc P r o fr h L (fun h' M v => C h' (M ++ L) (putd fr o.dst v))) : STEP P r N D ops i h L fr C := by
  intro a fa
  have hy := yielded_of (ops := ops) fa hj hdj hv
  unfold STEPa
  simp only [hi, Region.wanted, hg, hy, beq_self_eq_true, if_true]
  exact fun w hw => Oper.wpIn_mono (fun a' w' ⟨h', M, v, e, k, x1⟩ => ⟨h', M ++ L, ⟨_, by rw [e]; exact fa.put hd v, k⟩, x1, fun _ w1 s => s.mono x1.le (fun p hp => List.mem_append_right _ hp)⟩) (x a (fun _ _ e => fa.eval e) w hw)
/-- An operation that may take over what is owned, so that it is seen still. -/
def OPv (P : Program) (r : Option Nat) (o : Oper) (fr : Fr) (h : Frag) (L : Hp) (K : OCont) : Prop :=
  ∀ a : Act, (∀ x u, ev fr x = some u → a.eval x = u) → ∀ w, Holds h L w →
    o.wpIn (FW r) 0 P a w (fun a' w' => ∃ h' L' v, a' = a.put o.dst v ∧ K h' L' v ∧ Ext h L w h' L' w' ∧ ∀ w1, Sees h' L' w1 → Sees h L w1) (fun _ _ _ => False)
theorem STEP_v {o : Oper} {i : Nat} (hi : ops[i]? = some o) (hg : o.guard = none) (hd : dstOk N o.dst = true) (x : OPv P r o fr h L (fun h' L' v => C h' L' (putd fr o.dst v))) : STEP P r N D ops i h L fr C := by
  intro a fa
  unfold STEPa
  simp only [hi, Region.wanted, hg, if_true]
  exact fun w hw => Oper.wpIn_mono (fun a' w' ⟨h', L', v, e, k, x1, x2⟩ => ⟨h', L', ⟨_, by rw [e]; exact fa.put hd v, k⟩, x1, fun _ => x2⟩) (x a (fun _ _ e => fa.eval e) w hw)
theorem OPw_of_v {o : Oper} {K : OCont} (x : OPv P r o fr h L K) : OPw P r o fr h L K :=
  fun a ha w hw => Oper.wpIn_mono (fun _ _ ⟨h', L', v, e, k, x1, _⟩ => ⟨h', L', v, e, k, x1⟩) (x a ha w hw)
end
end Go.Mesh
/-
  THE OPERATIONS, one law each, in the logic of the first texts.
-/
set_option linter.all false
namespace Go.Mesh
open Go.RowKit

abbrev cells (l : List Value) (t : TypeId) : Obj := .cells l.toArray t (0, 0)
abbrev ptr (b off : Nat) : Value := .pointer (some ⟨b, off, none⟩)

/-- Is the type an aggregate, and how many cells has it? -/
def tyOf (P : Program) (t : TypeId) : Option (Bool × Nat) :=
  match P.underlying t, P.info? t with
  | some d, some i => some (match d with | .struct _ | .array _ _ => true | _ => false, i.size)
  | _, _ => none
/-- A struct's field: its type, its offset, and that it has cells. -/
def fieldOf (P : Program) (s : TypeId) (f : Nat) : Option (TypeId × Nat) :=
  match P.underlying s with
  | some (.struct fs) => match fs[f]? with
    | some x => match P.info? x.type with
      | some i => if i.size = 0 then none else some (x.type, x.offset)
      | none => none
    | none => none
  | _ => none
/-- A slice type's element: its cells and its bytes. -/
def elemOf? (P : Program) (t : TypeId) : Option (TypeId × Nat × Nat) :=
  match P.underlying t with
  | some (.slice e) => match P.info? e with
    | some i => some (e, i.size, i.bytes)
    | none => none
  | _ => none

section
variable {P : Program} {r : Option Nat} {h : Frag} {L : Hp} {fr : Fr} {o : Oper} {K : OCont} {w : World}

theorem run_isAgg {t : TypeId} {g : Bool} {k : Nat} (ht : tyOf P t = some (g, k)) : (isAgg t).run P w = .ok g w := by
  unfold tyOf at ht
  unfold isAgg underlying
  cases hu : P.underlying t with
  | none => simp [hu] at ht
  | some d =>
    cases hi : P.info? t with
    | none => simp [hu, hi] at ht
    | some i =>
      simp only [hu, hi, Option.some.injEq, Prod.mk.injEq] at ht
      obtain ⟨hg, _⟩ := ht
      subst hg
      cases d <;> simp [hu]
theorem run_sizeOf {t : TypeId} {g : Bool} {k : Nat} (ht : tyOf P t = some (g, k)) : (sizeOf t).run P w = .ok k w := by
  unfold tyOf at ht
  unfold sizeOf typeInfo
  cases hu : P.underlying t with
  | none => simp [hu] at ht
  | some d =>
    cases hi : P.info? t with
    | none => simp [hu, hi] at ht
    | some i =>
      simp only [hu, hi, Option.some.injEq, Prod.mk.injEq] at ht
      obtain ⟨_, hk⟩ := ht
      subst hk
      simp [hi]
theorem run_underlying' {t : TypeId} {d : TypeDesc} (ht : P.underlying t = some d) : (underlying t).run P w = .ok d w := by
  unfold underlying; simp [ht]

theorem Q_move {x : Operand} {v : Value} (hop : o.op = .move x) (hx : ev fr x = some v) : QOP P o fr h L v :=
  ⟨fun c => by rw [hop]; simp, fun a ha w _ => by unfold execOp; rw [hop]; simp [ha x v hx]⟩
theorem Q_assign {x : Operand} {v : Value} (hop : o.op = .assign x) (hx : ev fr x = some v) : QOP P o fr h L v :=
  ⟨fun c => by rw [hop]; simp, fun a ha w _ => by unfold execOp; rw [hop]; simp [ha x v hx]⟩
theorem Q_pick_t {c x y : Operand} {v : Value} (hop : o.op = .pick c x y) (hc : ev fr c = some (.bool true)) (hx : ev fr x = some v) : QOP P o fr h L v :=
  ⟨fun c => by rw [hop]; simp, fun a ha w _ => by unfold execOp; rw [hop]; simp [ha x v hx, ha c _ hc, asBool]⟩
theorem Q_pick_f {c x y : Operand} {v : Value} (hop : o.op = .pick c x y) (hc : ev fr c = some (.bool false)) (hx : ev fr y = some v) : QOP P o fr h L v :=
  ⟨fun c => by rw [hop]; simp, fun a ha w _ => by unfold execOp; rw [hop]; simp [ha y v hx, ha c _ hc, asBool]⟩
theorem Q_not {t : TypeId} {x : Operand} {b : Bool} (hop : o.op = .unOp .not t x) (hx : ev fr x = some (.bool b)) : QOP P o fr h L (.bool (!b)) :=
  ⟨fun c => by rw [hop]; simp, fun a ha w _ => by unfold execOp; rw [hop]; simp [ha x _ hx, Op.unary]⟩
theorem Q_extract {x : Operand} {i : Nat} {vs : Array Value} {v : Value} (hop : o.op = .extract x i) (hx : ev fr x = some (.tuple vs)) (hv : vs[i]? = some v) : QOP P o fr h L v :=
  ⟨fun c => by rw [hop]; simp, fun a ha w _ => by unfold execOp; rw [hop]; simp [ha x _ hx, Instr.extract, hv]⟩
theorem evs_map' {a : Act} (ha : ∀ x u, ev fr x = some u → a.eval x = u) {xs : Array Operand} {vs : List Value} (e : evs fr xs.toList vs) : xs.map a.eval = vs.toArray := by
  rw [← evs_map ha e]
  exact Array.toList_inj.1 (by simp)
theorem Q_makeFunc {fn : Fn} {xs ys : Array Operand} {us vs : List Value} (hop : o.op = .makeFunc fn xs ys) (hx : evs fr xs.toList us) (hy : evs fr ys.toList vs) : QOP P o fr h L (.func fn us.toArray vs.toArray) :=
  ⟨fun c => by rw [hop]; simp, fun a ha w _ => by unfold execOp; rw [hop]; simp only [evs_map' ha hx, evs_map' ha hy, Instr.makeFunc]; simp⟩

/-! ### Whole numbers -/
def cmpV : BinOp → Int → Int → Option Value
  | .lss, m, n => some (.bool (decide (m < n)))
  | .leq, m, n => some (.bool (decide (m ≤ n)))
  | .gtr, m, n => some (.bool (decide (m > n)))
  | .geq, m, n => some (.bool (decide (m ≥ n)))
  | .eql, m, n => some (.bool (m == n))
  | .neq, m, n => some (.bool (m != n))
  | _, _, _ => none
def arV (k : IntKind) : BinOp → Int → Int → Option Int
  | .add, m, n => some (k.wrap (m + n))
  | .sub, m, n => some (k.wrap (m - n))
  | .mul, m, n => some (k.wrap (m * n))
  | _, _, _ => none
theorem Q_cmp {op : BinOp} {t u : TypeId} {x y : Operand} {k : IntKind} {m n : Int} {v : Value} (hop : o.op = .binOp op t x y u) (hx : ev fr x = some (.int k m)) (hy : ev fr y = some (.int k n))
    (hv : cmpV op m n = some v) : QOP P o fr h L v :=
  ⟨fun c => by rw [hop]; simp, fun a ha w _ => by
    unfold execOp; rw [hop]
    simp only [ha x _ hx, ha y _ hy, eqGuard, binOp]
    cases op <;> simp [cmpV] at hv <;> subst hv <;> simp [Op.intCmp]⟩
theorem Q_arith {op : BinOp} {t u : TypeId} {x y : Operand} {k : IntKind} {m n q : Int} (hop : o.op = .binOp op t x y u) (hx : ev fr x = some (.int k m)) (hy : ev fr y = some (.int k n))
    (hv : arV k op m n = some q) : QOP P o fr h L (.int k q) :=
  ⟨fun c => by rw [hop]; simp, fun a ha w _ => by
    unfold execOp; rw [hop]
    simp only [ha x _ hx, ha y _ hy, eqGuard, binOp]
    cases op <;> simp [arV] at hv <;> subst hv <;> simp [Op.intArith]⟩
theorem Q_add {t u : TypeId} {x y : Operand} {m n : Int} (hop : o.op = .binOp .add t x y u) (hx : ev fr x = some (.int .i64 m)) (hy : ev fr y = some (.int .i64 n))
    (hv : -9223372036854775808 ≤ m + n ∧ m + n ≤ 9223372036854775807) : QOP P o fr h L (.int .i64 (m + n)) :=
  Q_arith (op := .add) hop hx hy (by simp only [arV]; rw [IntWalk.i64_in _ hv])
theorem Q_sub {t u : TypeId} {x y : Operand} {m n : Int} (hop : o.op = .binOp .sub t x y u) (hx : ev fr x = some (.int .i64 m)) (hy : ev fr y = some (.int .i64 n))
    (hv : -9223372036854775808 ≤ m - n ∧ m - n ≤ 9223372036854775807) : QOP P o fr h L (.int .i64 (m - n)) :=
  Q_arith (op := .sub) hop hx hy (by simp only [arV]; rw [IntWalk.i64_in _ hv])
theorem run_equal_bool {t : TypeId} (m n : Bool) (ht : P.underlying t = some .bool) : (Op.equal t (.bool m) (.bool n)).run P w = .ok (m == n) w := by
  unfold Op.equal
  rw [show Op.maxDepth = 9999 + 1 from rfl]
  rw [Op.equalIn]
  simp [run_underlying' ht]
theorem Q_beq {t u : TypeId} {x y : Operand} {m n : Bool} (hop : o.op = .binOp .eql t x y u) (hx : ev fr x = some (.bool m)) (hy : ev fr y = some (.bool n)) (ht : P.underlying t = some .bool) : QOP P o fr h L (.bool (m == n)) :=
  ⟨fun c => by rw [hop]; simp, fun a ha w _ => by
    unfold execOp; rw [hop]
    simp only [ha x _ hx, ha y _ hy, eqGuard, binOp, Sem.run_bind, run_equal_bool m n ht]
    simp⟩
theorem Q_bne {t u : TypeId} {x y : Operand} {m n : Bool} (hop : o.op = .binOp .neq t x y u) (hx : ev fr x = some (.bool m)) (hy : ev fr y = some (.bool n)) (ht : P.underlying t = some .bool) : QOP P o fr h L (.bool (!(m == n))) :=
  ⟨fun c => by rw [hop]; simp, fun a ha w _ => by
    unfold execOp; rw [hop]
    simp only [ha x _ hx, ha y _ hy, eqGuard, binOp, Sem.run_bind, run_equal_bool m n ht]
    simp⟩

/-! ### Memory -/
/-- The cells vs lie from (b, off) on: in a block that nobody writes, or in an owned one. -/
def Rd (h : Frag) (L : Hp) (b off : Nat) (vs : List Value) : Prop :=
  ∃ arr t fz, (h b = some (.cells arr t fz) ∨ (b, Obj.cells arr t fz) ∈ L) ∧ ∀ (j : Nat) (v : Value), vs[j]? = some v → arr[off + j]? = some v
def At (h : Frag) (b off : Nat) (vs : List Value) : Prop :=
  ∃ arr t fz, h b = some (.cells arr t fz) ∧ ∀ (j : Nat) (v : Value), vs[j]? = some v → arr[off + j]? = some v
theorem At.mono {h' : Frag} {b off : Nat} {vs : List Value} (x : At h b off vs) (hl : le h h') : At h' b off vs :=
  let ⟨arr, t, fz, e, g⟩ := x; ⟨arr, t, fz, hl _ _ e, g⟩
theorem Rd.pers {b off : Nat} {vs : List Value} (x : At h b off vs) : Rd h L b off vs :=
  let ⟨arr, t, fz, e, g⟩ := x; ⟨arr, t, fz, .inl e, g⟩
theorem Rd.own {b : Nat} {l : List Value} {t : TypeId} (x : (b, cells l t) ∈ L) : Rd h L b 0 l :=
  ⟨l.toArray, t, (0, 0), .inr x, fun j v e => by simpa using e⟩
theorem Rd.part {b off : Nat} {vs us : List Value} (fo : Nat) (x : Rd h L b off vs) (hu : ∀ j v, us[j]? = some v → vs[fo + j]? = some v) : Rd h L b (off + fo) us :=
  let ⟨arr, t, fz, e, g⟩ := x; ⟨arr, t, fz, e, fun j v ej => by rw [Nat.add_assoc]; exact g _ _ (hu j v ej)⟩
theorem At.part {b off : Nat} {vs us : List Value} (fo : Nat) (x : At h b off vs) (hu : ∀ j v, us[j]? = some v → vs[fo + j]? = some v) : At h b (off + fo) us :=
  let ⟨arr, t, fz, e, g⟩ := x; ⟨arr, t, fz, e, fun j v ej => by rw [Nat.add_assoc]; exact g _ _ (hu j v ej)⟩
theorem take_drop_get {vs : List Value} {fo k j : Nat} {v : Value} (e : ((vs.drop fo).take k)[j]? = some v) : vs[fo + j]? = some v := by
  have hj : j < k := by
    have := (List.getElem?_eq_some_iff.1 e).1
    simp at this; omega
  simpa [List.getElem?_take, hj] using e
theorem Rd.sub {b off : Nat} {vs : List Value} (fo k : Nat) (x : Rd h L b off vs) : Rd h L b (off + fo) ((vs.drop fo).take k) :=
  x.part fo fun _ _ e => take_drop_get e
theorem Rd.one {b off : Nat} {vs : List Value} (fo : Nat) {v : Value} (x : Rd h L b off vs) (hv : vs[fo]? = some v) : Rd h L b (off + fo) [v] :=
  x.part fo fun j u e => by
    cases j with
    | zero => simp at e; subst e; simpa using hv
    | succ j => simp at e

theorem Rd.cell {b off : Nat} {vs : List Value} (x : Rd h L b off vs) (hw : Sees h L w) {j : Nat} {v : Value} (e : vs[j]? = some v) : w.cell? ⟨b, off + j, none⟩ = some v := by
  obtain ⟨arr, t, fz, hb, g⟩ := x
  have : w.heap[b]? = some (.cells arr t fz) := by
    rcases hb with hb | hb
    · exact hw.pers _ _ hb
    · exact hw.own _ hb
  simp [World.cell?, this, g j v e]
theorem addr_add (b off n : Nat) : (⟨b, off, none⟩ : Addr).add n = ⟨b, off + n, none⟩ := by
  unfold Addr.add
  split
  · rename_i h; subst h; rfl
  · rfl
theorem run_loadCellsFrom {b off : Nat} {vs : List Value} (x : Rd h L b off vs) (hw : Sees h L w) : ∀ (n i : Nat) (acc : Array Value), i + n ≤ vs.length → (loadCellsFrom ⟨b, off, none⟩ i n acc).run P w = .ok (acc ++ ((vs.drop i).take n).toArray) w := by
  intro n
  induction n with
  | zero => intro i acc _; simp [loadCellsFrom]
  | succ n ih =>
    intro i acc hi
    have hlt : i < vs.length := by omega
    have hc := x.cell hw (j := i) (v := vs[i]) (by simp [hlt])
    simp only [loadCellsFrom, Sem.run_bind, run_load, addr_add, hc, Result.andThen_ok]
    rw [ih (i + 1) _ (by omega)]
    congr 1
    rw [List.drop_eq_getElem_cons hlt, List.take_succ_cons]
    simp
theorem run_loadVar_agg {b off : Nat} {vs : List Value} {t : TypeId} {k : Nat} (ht : tyOf P t = some (true, k)) (hk : vs.length = k) (x : Rd h L b off vs) (hw : Sees h L w) :
    (loadVar t ⟨b, off, none⟩).run P w = .ok (.agg vs.toArray) w := by
  unfold loadVar
  simp only [Sem.run_bind, run_isAgg ht, Result.andThen_ok, if_true, run_sizeOf ht, loadCells]
  rw [run_loadCellsFrom x hw k 0 #[] (by omega)]
  simp [← hk]
theorem run_loadVar_one {b off : Nat} {v : Value} {t : TypeId} {k : Nat} (ht : tyOf P t = some (false, k)) (x : Rd h L b off [v]) (hw : Sees h L w) :
    (loadVar t ⟨b, off, none⟩).run P w = .ok v w := by
  unfold loadVar
  have hc := x.cell hw (j := 0) (v := v) rfl
  simp only [Nat.add_zero] at hc
  simp [run_isAgg ht, hc]
theorem Q_load {t : TypeId} {p : Operand} {b off k : Nat} {vs : List Value} (hop : o.op = .load t p) (hp : ev fr p = some (ptr b off)) (x : Rd h L b off vs) (ht : tyOf P t = some (true, k)) (hk : vs.length = k) : QOP P o fr h L (.agg vs.toArray) :=
  ⟨fun c => by rw [hop]; simp, fun a ha w hw => by
    unfold execOp; rw [hop]
    simp [ha p _ hp, Instr.loadAt, Instr.sureAddr, run_loadVar_agg ht hk x hw]⟩
theorem Q_load1 {t : TypeId} {p : Operand} {b off k : Nat} {v : Value} (hop : o.op = .load t p) (hp : ev fr p = some (ptr b off)) (x : Rd h L b off [v]) (ht : tyOf P t = some (false, k)) : QOP P o fr h L v :=
  ⟨fun c => by rw [hop]; simp, fun a ha w hw => by
    unfold execOp; rw [hop]
    simp [ha p _ hp, Instr.loadAt, Instr.sureAddr, run_loadVar_one ht x hw]⟩
theorem Loads_agg {b off k : Nat} {vs : List Value} {t : TypeId} (x : Rd h L b off vs) (ht : tyOf P t = some (true, k)) (hk : vs.length = k) : LoadsAt P h L t (ptr b off) (.agg vs.toArray) :=
  ⟨_, rfl, fun _ hw => run_loadVar_agg ht hk x hw⟩
theorem Loads_one {b off k : Nat} {v : Value} {t : TypeId} (x : Rd h L b off [v]) (ht : tyOf P t = some (false, k)) : LoadsAt P h L t (ptr b off) v :=
  ⟨_, rfl, fun _ hw => run_loadVar_one ht x hw⟩

theorem Q_fieldAddr {s : TypeId} {p : Operand} {f b off ft fo : Nat} (hop : o.op = .fieldAddr s p f) (hp : ev fr p = some (ptr b off)) (hf : fieldOf P s f = some (ft, fo)) : QOP P o fr h L (ptr b (off + fo)) :=
  ⟨fun c => by rw [hop]; simp, fun a ha w hw => by
    unfold execOp; rw [hop]
    unfold fieldOf at hf
    simp only [ha p _ hp]
    cases hu : P.underlying s with
    | none => simp [hu] at hf
    | some d =>
      cases d <;> simp [hu] at hf
      rename_i fs
      cases hfs : fs[f]? with
      | none => simp [hfs] at hf
      | some x =>
        simp only [hfs] at hf
        cases hi : P.info? x.type with
        | none => simp [hi] at hf
        | some i =>
          simp only [hi] at hf
          split at hf
          · cases hf
          · rename_i hne
            cases hf
            simp [Instr.fieldAt, run_underlying' hu, hfs, Instr.sureAddr, fieldPlace, sizeOf, typeInfo, hi, hne, addr_add]⟩
theorem Q_field {s : TypeId} {p : Operand} {f ft fo k : Nat} {l : List Value} (hop : o.op = .field s p f) (hp : ev fr p = some (.agg l.toArray)) (hf : fieldOf P s f = some (ft, fo)) (ht : tyOf P ft = some (true, k)) : QOP P o fr h L (.agg ((l.drop fo).take k).toArray) :=
  ⟨fun c => by rw [hop]; simp, fun a ha w hw => by
    unfold execOp; rw [hop]
    unfold fieldOf at hf
    simp only [ha p _ hp]
    cases hu : P.underlying s with
    | none => simp [hu] at hf
    | some d =>
      cases d <;> simp [hu] at hf
      rename_i fs
      cases hfs : fs[f]? with
      | none => simp [hfs] at hf
      | some x =>
        simp only [hfs] at hf
        cases hi : P.info? x.type with
        | none => simp [hi] at hf
        | some i =>
          simp only [hi] at hf
          split at hf
          · cases hf
          · cases hf
            simp [Instr.field, run_underlying' hu, hfs, part, run_isAgg ht, run_sizeOf ht, asAgg, List.extract_eq_take_drop]⟩
theorem Q_field1 {s : TypeId} {p : Operand} {f ft fo k : Nat} {l : List Value} {v : Value} (hop : o.op = .field s p f) (hp : ev fr p = some (.agg l.toArray)) (hf : fieldOf P s f = some (ft, fo)) (ht : tyOf P ft = some (false, k)) (hv : l[fo]? = some v) : QOP P o fr h L v :=
  ⟨fun c => by rw [hop]; simp, fun a ha w hw => by
    unfold execOp; rw [hop]
    unfold fieldOf at hf
    simp only [ha p _ hp]
    cases hu : P.underlying s with
    | none => simp [hu] at hf
    | some d =>
      cases d <;> simp [hu] at hf
      rename_i fs
      cases hfs : fs[f]? with
      | none => simp [hfs] at hf
      | some x =>
        simp only [hfs] at hf
        cases hi : P.info? x.type with
        | none => simp [hi] at hf
        | some i =>
          simp only [hi] at hf
          split at hf
          · cases hf
          · cases hf
            simp [Instr.field, run_underlying' hu, hfs, part, run_isAgg ht, asAgg, hv]⟩
theorem elemOf?_spec {t e k by_ : Nat} (he : elemOf? P t = some (e, k, by_)) : P.underlying t = some (.slice e) ∧ ∃ i, P.info? e = some i ∧ i.size = k ∧ i.bytes = by_ := by
  unfold elemOf? at he
  cases hu : P.underlying t with
  | none => simp [hu] at he
  | some d =>
    cases d <;> simp [hu] at he
    rename_i e'
    cases hi : P.info? e' with
    | none => simp [hi] at he
    | some i => simp [hi] at he; obtain ⟨rfl, rfl, rfl⟩ := he; exact ⟨rfl, i, hi, rfl, rfl⟩
theorem Q_index {t : TypeId} {s x : Operand} {b off n cap e k by_ j : Nat} {q : IntKind} {i : Int} (hop : o.op = .indexAddr t s x) (hs : ev fr s = some (.slice (some ⟨b, off, none⟩) n cap)) (hx : ev fr x = some (.int q i))
    (he : elemOf? P t = some (e, k, by_)) (hj : i = (j : Int)) (hlt : j < n) : QOP P o fr h L (ptr b (off + j * k)) :=
  ⟨fun c => by rw [hop]; simp, fun a ha w hw => by
    obtain ⟨hu, i0, hi, hk, _⟩ := elemOf?_spec he
    unfold execOp; rw [hop]
    subst hj
    have h1 : (0 : Int) ≤ (j : Int) ∧ (j : Int) < (n : Int) := by omega
    simp [ha s _ hs, ha x _ hx, Instr.indexAt, asIntOf, run_underlying' hu, hlt, sizeOf, typeInfo, hi, hk, addr_add]⟩
theorem Q_len {c : Call} {x : Operand} {t e : TypeId} {p : Option Addr} {n cap : Nat} (hop : o.op = .call c) (hc : c.callee = .builtin .len) (ha : c.args = #[x]) (hat : c.argTypes = #[t]) (hx : ev fr x = some (.slice p n cap)) (ht : P.underlying t = some (.slice e)) : QOP P o fr h L (.int .i64 (n : Int)) :=
  ⟨fun c => by rw [hop]; simp, fun a hal w hw => by
    unfold execOp; rw [hop]
    simp [resolve, hc, ha, hat, invoke, builtin, Builtin.len_, hal x _ hx, run_underlying' ht, goInt]⟩

/-! ### New blocks -/
theorem OPc_new {ob : Obj} (hd : ∀ c, o.op ≠ .defer c)
    (hrun : ∀ a : Act, (∀ x u, ev fr x = some u → a.eval x = u) → ∀ w, Holds h L w → ∃ f : Nat → Value, (execOp a.eval o).run P w = .ok (.value (f w.heap.size)) { w with heap := w.heap.push ob } ∧ K h [(w.heap.size, ob)] (f w.heap.size)) : OPc P r o fr h L K :=
  fun a ha w hw => by
    obtain ⟨f, hr, hk⟩ := hrun a ha w hw
    exact wpIn_of_value hd hr ⟨h, [(w.heap.size, ob)], f w.heap.size, rfl, hk, Ext.alloc hw ob⟩
theorem C_box {t : TypeId} {x : Operand} {l : List Value} (hop : o.op = .box t x) (hx : ev fr x = some (.agg l.toArray)) (k : ∀ b, K h [(b, cells l t)] (ptr b 0)) : OPc P r o fr h L K :=
  OPc_new (ob := cells l t) (fun c => by rw [hop]; simp) fun a ha w _ => ⟨fun b => ptr b 0, by unfold execOp; rw [hop]; simp [ha x _ hx, Instr.box, newVar, newRow, Value.cells], k _⟩
theorem C_box1 {t : TypeId} {x : Operand} {v : Value} (hop : o.op = .box t x) (hx : ev fr x = some v) (hv : v.cells = #[v]) (k : ∀ b, K h [(b, cells [v] t)] (ptr b 0)) : OPc P r o fr h L K :=
  OPc_new (ob := cells [v] t) (fun c => by rw [hop]; simp) fun a ha w _ => ⟨fun b => ptr b 0, by unfold execOp; rw [hop]; simp [ha x _ hx, Instr.box, newVar, newRow, hv], k _⟩
/-- the zero value's cells -/
def zeroOf (P : Program) (t : TypeId) : Option (List Value) :=
  match P.info? t with
  | some i => match i.zero with
    | some z => some z.cells.toList
    | none => none
  | none => none
theorem zeroOf_spec {t : TypeId} {l : List Value} (hz : zeroOf P t = some l) : ∃ i z, P.info? t = some i ∧ i.zero = some z ∧ z.cells = l.toArray := by
  unfold zeroOf at hz
  cases hi : P.info? t with
  | none => simp [hi] at hz
  | some i =>
    cases hz0 : i.zero with
    | none => simp [hi, hz0] at hz
    | some z => simp [hi, hz0] at hz; exact ⟨i, z, rfl, hz0, by rw [← hz]⟩
theorem C_alloc {t : TypeId} {l : List Value} (hop : o.op = .alloc t) (hz : zeroOf P t = some l) (k : ∀ b, K h [(b, cells l t)] (ptr b 0)) : OPc P r o fr h L K := by
  obtain ⟨i, z, hi, hz0, hc⟩ := zeroOf_spec hz
  exact OPc_new (ob := cells l t) (fun c => by rw [hop]; simp) fun a ha w _ => ⟨fun b => ptr b 0, by unfold execOp; rw [hop]; simp [Instr.alloc, zeroValue, typeInfo, hi, hz0, newVar, newRow, hc], k _⟩

/-! ### Stores -/
def ones (l : List Value) : Bool := l.all (·.oneCell')
theorem ones_mem {l : List Value} (h : ones l = true) : ∀ v ∈ l, v.oneCell' = true := fun v hv => by
  unfold ones at h; rw [List.all_eq_true] at h; exact h v hv
theorem ones_append {l m : List Value} (h : ones l = true) (h' : ones m = true) : ones (l ++ m) = true := by simp only [ones, List.all_append, Bool.and_eq_true]; exact ⟨h, h'⟩
theorem ones_sub {l : List Value} (h : ones l = true) (a k : Nat) : ones ((l.drop a).take k) = true := by
  unfold ones at *; rw [List.all_eq_true] at *; exact fun v hv => h v (List.mem_of_mem_drop (List.mem_of_mem_take hv))
def putAt (l : List Value) (off : Nat) (vs : List Value) : List Value := l.take off ++ vs ++ l.drop (off + vs.length)
theorem putAt_length {l : List Value} {off : Nat} {vs : List Value} (hle : off + vs.length ≤ l.length) : (putAt l off vs).length = l.length := by
  simp [putAt]; omega
theorem putAt_cons (l : List Value) (off : Nat) (v : Value) (vs : List Value) (hlt : off < l.length) : putAt l off (v :: vs) = putAt (l.set off v) (off + 1) vs := by
  unfold putAt
  have h1 : (l.set off v).take (off + 1) = l.take off ++ [v] := by
    rw [List.take_succ_eq_append_getElem (by simpa using hlt)]
    simp [List.take_set_of_le]
  have h2 : (l.set off v).drop (off + 1 + vs.length) = l.drop (off + (vs.length + 1)) := by
    rw [List.drop_set_of_lt (by omega)]
    congr 1; omega
  rw [h1, h2]; simp
theorem run_storeCells {b : Nat} {t : TypeId} : ∀ (vs : List Value) (i off : Nat) (l : List Value) (w : World), w.heap[b]? = some (cells l t) → off + i + vs.length ≤ l.length → (∀ v ∈ vs, v.oneCell' = true) →
    ∃ w', (storeCells ⟨b, off, none⟩ vs i).run P w = .ok () w' ∧ w'.heap[b]? = some (cells (putAt l (off + i) vs) t) ∧ (∀ k, k ≠ b → w'.heap[k]? = w.heap[k]?) ∧ w'.heap.size = w.heap.size ∧ w'.os = w.os ∧ w'.tape = w.tape ∧ w'.output = w.output ∧ w'.drawn = w.drawn := by
  intro vs
  induction vs with
  | nil => intro i off l w hb _ _; exact ⟨w, rfl, by simpa [putAt] using hb, fun _ _ => rfl, rfl, rfl, rfl, rfl, rfl⟩
  | cons v vs ih =>
    intro i off l w hb hle h1
    have hlt : off + i < l.length := by simp at hle; omega
    have hcell : w.cell? ⟨b, off + i, none⟩ = some l[off + i] := by simp [World.cell?, hb, hlt]
    have hfz : w.frozen? ⟨b, off + i, none⟩ = false := by simp [World.frozen?, hb]
    let w1 := w.setCell ⟨b, off + i, none⟩ v
    have hw1 : w1.heap[b]? = some (cells (l.set (off + i) v) t) := by
      simp only [w1, World.setCell, Array.getElem?_modify, if_true, hb, Option.map_some]
      simp
    obtain ⟨w', hr, hb', hne, hsz, ho, ht, hp, hdn⟩ := ih (i + 1) off (l.set (off + i) v) w1 hw1 (by simp at hle ⊢; omega) (fun u hu => h1 u (List.mem_cons_of_mem _ hu))
    refine ⟨w', ?_, ?_, fun k hk => ?_, ?_, ho.trans rfl, ht.trans rfl, hp.trans rfl, hdn.trans rfl⟩
    · simp only [storeCells, Sem.run_bind, addr_add, run_store P w _ v .plain (h1 v (by simp)), hcell, hfz, Bool.false_eq_true, if_false, Result.andThen_ok]
      exact hr
    · rw [hb', putAt_cons _ _ _ _ hlt, Nat.add_assoc]
    · rw [hne k hk]
      simp only [w1, World.setCell, Array.getElem?_modify]
      rw [if_neg (by omega)]
    · rw [hsz]; simp [w1, World.setCell]
theorem W_put {t : TypeId} {p x : Operand} {b off k : Nat} {g : Bool} {l vs : List Value} {bt : TypeId} {v : Value} {L' : Hp} (hop : o.op = .store t p x) (hp : ev fr p = some (ptr b off)) (hx : ev fr x = some v) (hv : v.cells = vs.toArray) (ht : tyOf P t = some (g, k)) (hk : vs.length = k)
    (h1 : ones vs = true) (hu : Upd b (cells l bt) (cells (putAt l off vs) bt) L L') (hle : off + vs.length ≤ l.length) (kk : K h L' undef) : OPw P r o fr h L K := by
  intro a ha w hw
  obtain ⟨w', hr, hb', hne, hsz, ho, htp, hpo, hdn⟩ := run_storeCells (P := P) (b := b) (t := bt) vs 0 off l w (hw.sees.own _ hu.mem) (by omega) (ones_mem h1)
  refine wpIn_of_skip (w' := w') (fun c => by rw [hop]; simp) ?_ ⟨h, L', undef, rfl, kk, Ext.set hw hu hb' hne hsz ho htp hpo hdn⟩
  unfold execOp; rw [hop]
  simp [ha p _ hp, ha x _ hx, Instr.storeAt, Instr.sureAddr, storeVar, hv, run_sizeOf ht, hk, hr]
/-- the whole of a block, by an aggregate -/
theorem W_all {t : TypeId} {p x : Operand} {b k : Nat} {l vs : List Value} {bt : TypeId} {L' : Hp} (hop : o.op = .store t p x) (hp : ev fr p = some (ptr b 0)) (hx : ev fr x = some (.agg vs.toArray)) (ht : tyOf P t = some (true, k)) (hu : Upd b (cells l bt) (cells vs bt) L L')
    (hk : vs.length = k) (hl : l.length = k) (h1 : ones vs = true) (kk : K h L' undef) : OPw P r o fr h L K := by
  have e : putAt l 0 vs = vs := by simp [putAt, hk, hl]
  exact W_put (v := .agg vs.toArray) hop hp hx rfl ht hk h1 (by rw [e]; exact hu) (by omega) kk
/-- one cell -/
theorem W_fld {t : TypeId} {p x : Operand} {b fo k : Nat} {l : List Value} {bt : TypeId} {v : Value} {L' : Hp} (hop : o.op = .store t p x) (hp : ev fr p = some (ptr b (0 + fo))) (hx : ev fr x = some v) (ht : tyOf P t = some (false, k)) (hu : Upd b (cells l bt) (cells (l.set fo v) bt) L L')
    (hv : v.cells = #[v]) (hk : k = 1) (hl : Nat.blt fo l.length = true) (h1 : v.oneCell' = true) (kk : K h L' undef) : OPw P r o fr h L K := by
  have hlt : fo < l.length := by simpa [Nat.blt_eq] using hl
  have e : putAt l (0 + fo) [v] = l.set fo v := by
    rw [Nat.zero_add, putAt_cons _ _ _ _ hlt]; simp [putAt]
  exact W_put (v := v) (vs := [v]) hop hp hx (by rw [hv]) ht hk.symm (by simp [ones, h1]) (by rw [e]; exact hu) (by simp; omega) kk
theorem W_one {t : TypeId} {p x : Operand} {b k : Nat} {u : Value} {bt : TypeId} {v : Value} {L' : Hp} (hop : o.op = .store t p x) (hp : ev fr p = some (ptr b 0)) (hx : ev fr x = some v) (ht : tyOf P t = some (false, k)) (hu : Upd b (cells [u] bt) (cells [v] bt) L L')
    (hv : v.cells = #[v]) (hk : k = 1) (h1 : v.oneCell' = true) (kk : K h L' undef) : OPw P r o fr h L K :=
  W_fld (l := [u]) (fo := 0) hop hp hx ht hu hv hk rfl h1 kk
/-- a part, by an aggregate -/
theorem W_sub {t : TypeId} {p x : Operand} {b fo k : Nat} {l vs : List Value} {bt : TypeId} {L' : Hp} (hop : o.op = .store t p x) (hp : ev fr p = some (ptr b (0 + fo))) (hx : ev fr x = some (.agg vs.toArray)) (ht : tyOf P t = some (true, k)) (hu : Upd b (cells l bt) (cells (putAt l (0 + fo) vs) bt) L L')
    (hk : vs.length = k) (hl : Nat.ble (fo + k) l.length = true) (h1 : ones vs = true) (kk : K h L' undef) : OPw P r o fr h L K :=
  W_put (v := .agg vs.toArray) hop hp hx rfl ht hk h1 hu (by have := Nat.le_of_ble_eq_true hl; omega) kk
end
end Go.Mesh
/-
  THE SAME RULES, SHAPED FOR A PROOF THAT GOES OPERATION BY OPERATION: the slot that is written stands out; the list of a region's operations is a list.
-/
set_option linter.all false
namespace Go.Mesh
open Go.RowKit

section
variable {P : Program} {r : Option Nat} {N : Nat} {h : Frag} {L : Hp} {D : List Nat} {fr : Fr} {o : Oper} {ops : Array Oper} {rest : List Oper} {C : Frag → Hp → Fr → Prop} {Q : Post}

theorem dstOk_of {d : Nat} (hd : o.dst = some d) (hN : Nat.blt d N = true) : dstOk N o.dst = true := by rw [hd]; exact hN
theorem dstOk_none (hd : o.dst = none) : dstOk N o.dst = true := by rw [hd]; rfl

theorem R_region {id : Nat} {l : List Oper} (x : OPS P r N D l.toArray l h L fr (fun h' L' fr' => Q .normal h' L' D fr')) : WP P r N (.region id l.toArray false) h L D fr Q := WP_region x
/-- which operations have come up, as a number's bits -/
def lst (n m : Nat) : Array Bool := ((List.range n).map fun i => m.testBit i).toArray
theorem lst_zero (n : Nat) : lst n 0 = Array.replicate n false := by
  apply Array.ext
  · simp [lst]
  · intro i h1 h2; simp [lst]
theorem lst_set {n m i m' : Nat} (hm : m ||| 2 ^ i = m') : (lst n m).setIfInBounds i true = lst n m' := by
  subst hm
  apply Array.ext
  · simp [lst]
  · intro j h1 h2
    rw [Array.getElem_setIfInBounds (by simpa using h1)]
    simp only [lst, List.getElem_toArray, List.getElem_map, List.getElem_range, Nat.testBit_or, Nat.testBit_two_pow]
    split
    · rename_i h; subst h; simp
    · rename_i h; simp [h]
theorem R_draw {id n : Nat} {l : List Oper} (hm : P.follows .mixedOrders = true) (hn : l.length = n) (x : ANY P r N D l.toArray n (lst n 0) h L fr (fun h' L' fr' => Q .normal h' L' D fr')) : WP P r N (.region id l.toArray true) h L D fr Q :=
  WP_draw hm (by subst hn; rw [lst_zero] at x; simpa using x)

theorem S_q {v : Value} {d : Nat} (hd : o.dst = some d) (hN : Nat.blt d N = true) (hg : o.guard = none) (q : QOP P o fr h L v) (x : OPS P r N D ops rest h L ((d, v) :: fr) C) : OPS P r N D ops (o :: rest) h L fr C :=
  OPS_q hg (dstOk_of hd hN) q (by rw [hd]; exact x)
theorem S_c {d : Nat} (hd : o.dst = some d) (hN : Nat.blt d N = true) (hg : o.guard = none) (x : OPc P r o fr h L (fun h' M v => OPS P r N D ops rest h' (M ++ L) ((d, v) :: fr) C)) : OPS P r N D ops (o :: rest) h L fr C :=
  OPS_c hg (dstOk_of hd hN) (by rw [hd]; exact x)
theorem S_c0 (hd : o.dst = none) (hg : o.guard = none) (x : OPc P r o fr h L (fun h' M _ => OPS P r N D ops rest h' (M ++ L) fr C)) : OPS P r N D ops (o :: rest) h L fr C :=
  OPS_c hg (dstOk_none hd) (by rw [hd]; exact x)
theorem S_w {d : Nat} (hd : o.dst = some d) (hN : Nat.blt d N = true) (hg : o.guard = none) (x : OPw P r o fr h L (fun h' L' v => OPS P r N D ops rest h' L' ((d, v) :: fr) C)) : OPS P r N D ops (o :: rest) h L fr C :=
  OPS_w hg (dstOk_of hd hN) (by rw [hd]; exact x)
theorem S_w0 (hd : o.dst = none) (hg : o.guard = none) (x : OPw P r o fr h L (fun h' L' _ => OPS P r N D ops rest h' L' fr C)) : OPS P r N D ops (o :: rest) h L fr C :=
  OPS_w hg (dstOk_none hd) (by rw [hd]; exact x)
theorem S_gq {v : Value} {d j dj : Nat} {want : Bool} {oj : Oper} (hd : o.dst = some d) (hN : Nat.blt d N = true) (hg : o.guard = some (j, want)) (hj : ops[j]? = some oj) (hdj : oj.dst = some dj) (hv : get? fr dj = some (.bool want))
    (q : QOP P o fr h L v) (x : OPS P r N D ops rest h L ((d, v) :: fr) C) : OPS P r N D ops (o :: rest) h L fr C :=
  OPS_gq hg hj hdj hv (dstOk_of hd hN) q (by rw [hd]; exact x)
theorem S_gc {d j dj : Nat} {want : Bool} {oj : Oper} (hd : o.dst = some d) (hN : Nat.blt d N = true) (hg : o.guard = some (j, want)) (hj : ops[j]? = some oj) (hdj : oj.dst = some dj) (hv : get? fr dj = some (.bool want))
    (x : OPc P r o fr h L (fun h' M v => OPS P r N D ops rest h' (M ++ L) ((d, v) :: fr) C)) : OPS P r N D ops (o :: rest) h L fr C :=
  OPS_gc hg hj hdj hv (dstOk_of hd hN) (by rw [hd]; exact x)
theorem S_gn {d j dj : Nat} {want : Bool} {oj : Oper} (hd : o.dst = some d) (hN : Nat.blt d N = true) (hg : o.guard = some (j, want)) (hj : ops[j]? = some oj) (hdj : oj.dst = some dj) (hv : get? fr dj = some (.bool (!want)))
    (x : OPS P r N D ops rest h L ((d, undef) :: fr) C) : OPS P r N D ops (o :: rest) h L fr C :=
  OPS_gn hg hj hdj hv (dstOk_of hd hN) (by rw [hd]; exact x)

variable {fuel n m m' : Nat}
variable {l : List Oper}
/-- 'operation i is o, and it has not come up': the goal, with o at hand. -/
def ANYo (P : Program) (r : Option Nat) (N : Nat) (D : List Nat) (l : List Oper) (fuel n m i : Nat) (o : Oper) (h : Frag) (L : Hp) (fr : Fr) (C : Frag → Hp → Fr → Prop) : Prop :=
  l.toArray[i]? = some o → ANY P r N D l.toArray fuel (lst n m) h L fr C
def nth : List Oper → Nat → Option Oper
  | [], _ => none
  | a :: _, 0 => some a
  | _ :: l, i + 1 => nth l i
theorem nth_eq : ∀ (l : List Oper) (i : Nat), nth l i = l[i]?
  | [], _ => by simp [nth]
  | a :: _, 0 => by simp [nth]
  | _ :: l, i + 1 => by simp [nth, nth_eq l i]
theorem A_at (i : Nat) (hb : m.testBit i = false) (hi : nth l i = some o) (x : ANYo P r N D l fuel n m i o h L fr C) : ANY P r N D l.toArray fuel (lst n m) h L fr C :=
  have _ := hb
  x (by rw [nth_eq] at hi; simpa using hi)
theorem A_q {v : Value} {d i : Nat} (hd : o.dst = some d) (hN : Nat.blt d N = true) (hg : o.guard = none) (q : QOP P o fr h L v) (hm : m ||| 2 ^ i = m') (hf : firstB l.toArray (lst n m) i = true)
    (x : ANY P r N D l.toArray fuel (lst n m') h L ((d, v) :: fr) C) : ANYo P r N D l (fuel + 1) n m i o h L fr C :=
  fun hi => ANY_q i hi hf hg (dstOk_of hd hN) q (by rw [hd, lst_set hm]; exact x)
theorem A_gq {v : Value} {d i j dj : Nat} {want : Bool} {oj : Oper} (hd : o.dst = some d) (hN : Nat.blt d N = true) (hg : o.guard = some (j, want)) (hj : nth l j = some oj) (hdj : oj.dst = some dj) (hv : get? fr dj = some (.bool want))
    (q : QOP P o fr h L v) (hm : m ||| 2 ^ i = m') (hf : firstB l.toArray (lst n m) i = true) (x : ANY P r N D l.toArray fuel (lst n m') h L ((d, v) :: fr) C) : ANYo P r N D l (fuel + 1) n m i o h L fr C :=
  fun hi => ANY_gq i hi hf hg (by rw [nth_eq] at hj; simpa using hj) hdj hv (dstOk_of hd hN) q (by rw [hd, lst_set hm]; exact x)
theorem A_gn {d i j dj : Nat} {want : Bool} {oj : Oper} (hd : o.dst = some d) (hN : Nat.blt d N = true) (hg : o.guard = some (j, want)) (hj : nth l j = some oj) (hdj : oj.dst = some dj) (hv : get? fr dj = some (.bool (!want)))
    (hm : m ||| 2 ^ i = m') (hf : firstB l.toArray (lst n m) i = true) (x : ANY P r N D l.toArray fuel (lst n m') h L ((d, undef) :: fr) C) : ANYo P r N D l (fuel + 1) n m i o h L fr C :=
  fun hi => ANY_gn i hi hf hg (by rw [nth_eq] at hj; simpa using hj) hdj hv (dstOk_of hd hN) (by rw [hd, lst_set hm]; exact x)
theorem A_c {d i : Nat} (hd : o.dst = some d) (hN : Nat.blt d N = true) (hg : o.guard = none) (hm : m ||| 2 ^ i = m') (hr : Region.ready .any l.toArray (lst n m) = [i])
    (x : OPc P r o fr h L (fun h' M v => ANY P r N D l.toArray fuel (lst n m') h' (M ++ L) ((d, v) :: fr) C)) : ANYo P r N D l (fuel + 1) n m i o h L fr C :=
  fun hi => ANY_one i hr (STEP_c hi hg (dstOk_of hd hN) (by rw [hd, lst_set hm]; exact x))
theorem A_gc {d i j dj : Nat} {want : Bool} {oj : Oper} (hd : o.dst = some d) (hN : Nat.blt d N = true) (hg : o.guard = some (j, want)) (hj : nth l j = some oj) (hdj : oj.dst = some dj) (hv : get? fr dj = some (.bool want)) (hm : m ||| 2 ^ i = m') (hr : Region.ready .any l.toArray (lst n m) = [i])
    (x : OPc P r o fr h L (fun h' M v => ANY P r N D l.toArray fuel (lst n m') h' (M ++ L) ((d, v) :: fr) C)) : ANYo P r N D l (fuel + 1) n m i o h L fr C :=
  fun hi => ANY_one i hr (STEP_gc hi hg (by rw [nth_eq] at hj; simpa using hj) hdj hv (dstOk_of hd hN) (by rw [hd, lst_set hm]; exact x))
theorem A_w {d i : Nat} (hd : o.dst = some d) (hN : Nat.blt d N = true) (hg : o.guard = none) (hc : calmOp o.op = false) (hm : m ||| 2 ^ i = m') (hr : Region.ready .any l.toArray (lst n m) = [i])
    (x : OPw P r o fr h L (fun h' L' v => ANY P r N D l.toArray fuel (lst n m') h' L' ((d, v) :: fr) C)) : ANYo P r N D l (fuel + 1) n m i o h L fr C :=
  fun hi => ANY_one i hr (STEP_w hi hg hc (dstOk_of hd hN) (by rw [hd, lst_set hm]; exact x))
theorem A_w0 {i : Nat} (hd : o.dst = none) (hg : o.guard = none) (hc : calmOp o.op = false) (hm : m ||| 2 ^ i = m') (hr : Region.ready .any l.toArray (lst n m) = [i])
    (x : OPw P r o fr h L (fun h' L' _ => ANY P r N D l.toArray fuel (lst n m') h' L' fr C)) : ANYo P r N D l (fuel + 1) n m i o h L fr C :=
  fun hi => ANY_one i hr (STEP_w hi hg hc (dstOk_none hd) (by rw [hd, lst_set hm]; exact x))
theorem A_done (hr : Region.ready .any l.toArray (lst n m) = []) (x : C h L fr) : ANY P r N D l.toArray fuel (lst n m) h L fr C := ANY_done hr x

/-! ### Loads, in two steps -/
def LG (P : Program) (h : Frag) (L : Hp) (b off : Nat) (t : TypeId) (K : Value → Prop) : Prop := ∃ v, (∀ w, Sees h L w → (loadVar t ⟨b, off, none⟩).run P w = .ok v w) ∧ K v
theorem Q_loadL {t : TypeId} {p : Operand} {b off : Nat} {v : Value} (hop : o.op = .load t p) (hp : ev fr p = some (ptr b off)) (x : ∀ w, Sees h L w → (loadVar t ⟨b, off, none⟩).run P w = .ok v w) : QOP P o fr h L v :=
  ⟨fun c => by rw [hop]; simp, fun a ha w hw => by
    unfold execOp; rw [hop]
    simp [ha p _ hp, Instr.loadAt, Instr.sureAddr, x w hw]⟩
theorem S_load {d b off : Nat} {t : TypeId} {p : Operand} (hop : o.op = .load t p) (hp : ev fr p = some (ptr b off)) (hd : o.dst = some d) (hN : Nat.blt d N = true) (hg : o.guard = none) (x : LG P h L b off t (fun v => OPS P r N D ops rest h L ((d, v) :: fr) C)) : OPS P r N D ops (o :: rest) h L fr C :=
  let ⟨_, q, k⟩ := x; S_q hd hN hg (Q_loadL hop hp q) k
theorem S_gload {d b off j dj : Nat} {want : Bool} {oj : Oper} {t : TypeId} {p : Operand} (hop : o.op = .load t p) (hp : ev fr p = some (ptr b off)) (hd : o.dst = some d) (hN : Nat.blt d N = true) (hg : o.guard = some (j, want)) (hj : ops[j]? = some oj) (hdj : oj.dst = some dj) (hv : get? fr dj = some (.bool want))
    (x : LG P h L b off t (fun v => OPS P r N D ops rest h L ((d, v) :: fr) C)) : OPS P r N D ops (o :: rest) h L fr C :=
  let ⟨_, q, k⟩ := x; S_gq hd hN hg hj hdj hv (Q_loadL hop hp q) k
theorem A_load {d i b off : Nat} {t : TypeId} {p : Operand} (hop : o.op = .load t p) (hp : ev fr p = some (ptr b off)) (hd : o.dst = some d) (hN : Nat.blt d N = true) (hg : o.guard = none) (hm : m ||| 2 ^ i = m') (hf : firstB l.toArray (lst n m) i = true)
    (x : LG P h L b off t (fun v => ANY P r N D l.toArray fuel (lst n m') h L ((d, v) :: fr) C)) : ANYo P r N D l (fuel + 1) n m i o h L fr C :=
  let ⟨_, q, k⟩ := x; A_q hd hN hg (Q_loadL hop hp q) hm hf k
theorem A_gload {d i j dj b off : Nat} {want : Bool} {oj : Oper} {t : TypeId} {p : Operand} (hop : o.op = .load t p) (hp : ev fr p = some (ptr b off)) (hd : o.dst = some d) (hN : Nat.blt d N = true) (hg : o.guard = some (j, want)) (hj : nth l j = some oj) (hdj : oj.dst = some dj) (hv : get? fr dj = some (.bool want)) (hm : m ||| 2 ^ i = m') (hf : firstB l.toArray (lst n m) i = true)
    (x : LG P h L b off t (fun v => ANY P r N D l.toArray fuel (lst n m') h L ((d, v) :: fr) C)) : ANYo P r N D l (fuel + 1) n m i o h L fr C :=
  let ⟨_, q, k⟩ := x; A_gq hd hN hg hj hdj hv (Q_loadL hop hp q) hm hf k
section
variable {b off k : Nat} {t : TypeId} {vs : List Value} {K : Value → Prop}
theorem L_agg (x : Rd h L b off vs) (ht : tyOf P t = some (true, k)) (hk : vs.length = k) (kk : K (.agg vs.toArray)) : LG P h L b off t K := ⟨_, fun _ hw => run_loadVar_agg ht hk x hw, kk⟩
theorem L_one {v : Value} (x : Rd h L b off [v]) (ht : tyOf P t = some (false, k)) (kk : K v) : LG P h L b off t K := ⟨_, fun _ hw => run_loadVar_one ht x hw, kk⟩
theorem L_fld {v : Value} {fo : Nat} (x : Rd h L b off vs) (ht : tyOf P t = some (false, k)) (hv : vs[fo]? = some v) (kk : K v) : LG P h L b (off + fo) t K := L_one (x.one fo hv) ht kk
theorem L_sub {fo : Nat} (x : Rd h L b off vs) (ht : tyOf P t = some (true, k)) (hk : ((vs.drop fo).take k).length = k) (kk : K (.agg ((vs.drop fo).take k).toArray)) : LG P h L b (off + fo) t K := L_agg (x.sub fo k) ht hk kk
end

/-! ### Ways out -/
theorem then_n {C' : Cont} (x : C' h L D fr) : thenQ C' Q .normal h L D fr := x
theorem then_r {C' : Cont} (x : Q .ret h L D fr) : thenQ C' Q .ret h L D fr := x
theorem then_e {C' : Cont} {id : Nat} (x : Q (.exit id) h L D fr) : thenQ C' Q (.exit id) h L D fr := x
theorem block_n {id : Nat} (x : Q .normal h L D fr) : blockQ id Q .normal h L D fr := x
theorem block_r {id : Nat} (x : Q .ret h L D fr) : blockQ id Q .ret h L D fr := x
theorem block_e {id : Nat} (x : Q .normal h L D fr) : blockQ id Q (.exit id) h L D fr := by simp only [blockQ, if_true]; exact x
theorem block_x {id k : Nat} (hne : Nat.beq k id = false) (x : Q (.exit k) h L D fr) : blockQ id Q (.exit k) h L D fr := by
  have : k ≠ id := fun e => by subst e; simp at hne
  simp only [blockQ, this, if_false]; exact x
theorem round_r {I : Nat → Cont} {n : Nat} (x : Q .ret h L D fr) : roundQ I n Q .ret h L D fr := x
theorem round_e {I : Nat → Cont} {n id : Nat} (x : Q (.exit id) h L D fr) : roundQ I n Q (.exit id) h L D fr := x
theorem round_n {I : Nat → Cont} {n : Nat} (m : Nat) (fr' : Fr) (hm : m < n) (i : I m h L D fr') (hs : FrSub fr' fr) : roundQ I n Q .normal h L D fr := ⟨m, hm, fr', hs, i⟩
theorem cond_t {c : Operand} {x y : Code} (hc : ev fr c = some (.bool true)) (k : WP P r N x h L D fr Q) : WP P r N (.cond c x y) h L D fr Q := WP_cond hc (fun _ => k) (fun e => by cases e)
theorem cond_f {c : Operand} {x y : Code} (hc : ev fr c = some (.bool false)) (k : WP P r N y h L D fr Q) : WP P r N (.cond c x y) h L D fr Q := WP_cond hc (fun e => by cases e) (fun _ => k)

theorem ret_q {fn : Func} {R : OCont} {e : Exit} {rs : List ResultVar} {vs : List Value} (L2 : Hp) (he : e = .ret ∨ e = .normal) (hrs : fn.results.toList = rs) (hr : resVals P h L fr rs vs) (hs : List.Sublist L2 L) (x : R h L2 (resOf vs)) : retQ P fn R e h L [] fr :=
  ⟨he, rfl, vs, by rw [hrs]; exact hr, fun _ hw => ⟨h, L2, (Ext.refl hw).drop hs, x⟩⟩
theorem spec_of {f : FuncId} {fn : Func} {c : Code} {vs : List Value} {args : Array Value} {R : OCont} (hf : P.funcs[f]? = some fn) (hn : fn.ntmps = N) (hb : fn.body = some c) (ha : args = vs.toArray) (hN : Nat.ble vs.length N = true)
    (x : WP P none N c h L [] (argFr vs 0) (retQ P fn R)) : FSpec P f args h L R := by
  subst hn; subst ha; exact FSpec_of hf hb hN x
end
end Go.Mesh
/-
  HOW Go's DATA LIE IN MEMORY, as the observer proofs read them: slices whose elements have k cells, each read by a relation.
-/
set_option linter.all false
namespace Go.Mesh
open Go.RowKit


/-- A relation between data and cells that what is not written keeps. -/
abbrev CR (α : Type) := Frag → α → List Value → Prop
def CMono {α : Type} (C : CR α) : Prop := ∀ h h' x vs, le h h' → C h x vs → C h' x vs

/-- The slice v reads as xs (at most B), its elements of k cells by C. -/
def SLB {α : Type} (B : Nat) (h : Frag) (k : Nat) (C : CR α) (v : Value) (xs : List α) : Prop :=
  xs.length ≤ B ∧ ((∃ p cap, v = .slice p 0 cap ∧ xs = []) ∨
    ∃ b off cap, v = .slice (some ⟨b, off, none⟩) xs.length cap ∧ ∀ (i : Nat) x, xs[i]? = some x → ∃ vs, vs.length = k ∧ ones vs = true ∧ C h x vs ∧ At h b (off + i * k) vs)

/-- .. and it is not too long to be copied -/
abbrev SL {α : Type} (h : Frag) (k : Nat) (C : CR α) (v : Value) (xs : List α) : Prop := SLB 4398046511104 h k C v xs
section
variable {α : Type} {h h' : Frag} {B k : Nat} {C : CR α} {v : Value} {xs : List α}
theorem SLB.mono (x : SLB B h k C v xs) (hl : le h h') (hc : CMono C) : SLB B h' k C v xs := by
  obtain ⟨hm, x⟩ := x
  refine ⟨hm, x.imp id ?_⟩
  rintro ⟨b, off, cap, e, g⟩
  refine ⟨b, off, cap, e, fun i x hx => ?_⟩
  obtain ⟨vs, h1, h2, h3, h4⟩ := g i x hx
  exact ⟨vs, h1, h2, hc _ _ _ _ hl h3, h4.mono hl⟩
theorem SLB.slice (x : SLB B h k C v xs) : ∃ p cap, v = .slice p xs.length cap := by
  obtain ⟨_, ⟨p, cap, e, rfl⟩ | ⟨b, off, cap, e, _⟩⟩ := x
  · exact ⟨p, cap, e⟩
  · exact ⟨_, cap, e⟩
theorem SLB.elem (x : SLB B h k C v xs) {i : Nat} {y : α} (hy : xs[i]? = some y) : ∃ b off cap vs, v = .slice (some ⟨b, off, none⟩) xs.length cap ∧ i < xs.length ∧ vs.length = k ∧ ones vs = true ∧ C h y vs ∧ At h b (off + i * k) vs := by
  obtain ⟨_, ⟨p, cap, e, rfl⟩ | ⟨b, off, cap, e, g⟩⟩ := x
  · simp at hy
  · obtain ⟨vs, h1, h2, h3, h4⟩ := g i y hy
    exact ⟨b, off, cap, vs, e, (List.getElem?_eq_some_iff.1 hy).1, h1, h2, h3, h4⟩
theorem SLB.le (x : SLB B h k C v xs) : xs.length ≤ B := x.1
theorem SLB.one (x : SLB B h k C v xs) : v.oneCell' = true ∧ v.cells = #[v] := by
  obtain ⟨p, cap, rfl⟩ := x.slice; exact ⟨rfl, rfl⟩
theorem Q_lenS {P : Program} {fr : Fr} {o : Oper} {L : Hp} {c : Call} {x : Operand} {t e : TypeId} (hop : o.op = .call c) (hc : c.callee = .builtin .len) (ha : c.args = #[x]) (hat : c.argTypes = #[t]) (hx : ev fr x = some v) (ht : P.underlying t = some (.slice e))
    (s : SLB B h k C v xs) : QOP P o fr h L (.int .i64 (xs.length : Int)) := by
  obtain ⟨p, cap, rfl⟩ := s.slice
  exact Q_len hop hc ha hat hx ht
end

/-! ### Identities and values -/
abbrev ID := Int × Int
def idc (x : ID) : List Value := [.int .i64 x.1, .int .i64 x.2]
def IDC : CR ID := fun _ x vs => vs = idc x
theorem IDC_mono : CMono IDC := fun _ _ _ _ _ e => e
abbrev Val := Int × Int × ID
def vlc (x : Val) : List Value := [.int .i64 x.1, .int .i64 x.2.1, .int .i64 x.2.2.1, .int .i64 x.2.2.2]
def ValC : CR Val := fun _ x vs => vs = vlc x
theorem ValC_mono : CMono ValC := fun _ _ _ _ _ e => e

/-- '==' at the type t, of the cells cl. -/
def EqAt {α : Type} [DecidableEq α] (P : Program) (t : TypeId) (cl : α → List Value) : Prop :=
  P.eqGuardType P.depth t = false ∧ ∀ (w : World) (x y : α), (Op.equalIn 10000 t (.agg (cl x).toArray) (.agg (cl y).toArray)).run P w = .ok (decide (x = y)) w
section
variable {α : Type} [DecidableEq α] {P : Program} {fr : Fr} {o : Oper} {h : Frag} {L : Hp} {cl : α → List Value} {t u : TypeId} {x y : Operand} {a b : α}
theorem Q_eqA (e : EqAt P t cl) (hop : o.op = .binOp .eql t x y u) (hx : ev fr x = some (.agg (cl a).toArray)) (hy : ev fr y = some (.agg (cl b).toArray)) : QOP P o fr h L (.bool (decide (a = b))) :=
  ⟨fun c => by rw [hop]; simp, fun ac ha w _ => by
    unfold execOp; rw [hop]
    simp only [ha x _ hx, ha y _ hy, Sem.run_bind, run_eqGuard_agg w _ _ _ _ _ _ e.1, Result.andThen_ok, run_eql_struct, e.2 w a b]
    simp⟩
theorem Q_neA (e : EqAt P t cl) (hop : o.op = .binOp .neq t x y u) (hx : ev fr x = some (.agg (cl a).toArray)) (hy : ev fr y = some (.agg (cl b).toArray)) : QOP P o fr h L (.bool (!decide (a = b))) :=
  ⟨fun c => by rw [hop]; simp, fun ac ha w _ => by
    unfold execOp; rw [hop]
    simp only [ha x _ hx, ha y _ hy, Sem.run_bind, run_eqGuard_agg w _ _ _ _ _ _ e.1, Result.andThen_ok, run_neq_struct, e.2 w a b]
    simp⟩
end
section
variable {P : Program} {fr : Fr} {o : Oper} {h : Frag} {L : Hp} {t u : TypeId} {x y : Operand} {l m : List Value} {a1 a2 a3 a4 b1 b2 b3 b4 : Int}
theorem Q_eqI (e : EqAt P t idc) (hop : o.op = .binOp .eql t x y u) (hx : ev fr x = some (.agg l.toArray)) (hy : ev fr y = some (.agg m.toArray)) (hl : l = [.int .i64 a1, .int .i64 a2]) (hm : m = [.int .i64 b1, .int .i64 b2]) : QOP P o fr h L (.bool (decide ((a1, a2) = (b1, b2)))) := by
  subst hl; subst hm; exact Q_eqA (a := (a1, a2)) (b := (b1, b2)) e hop hx hy
theorem Q_neI (e : EqAt P t idc) (hop : o.op = .binOp .neq t x y u) (hx : ev fr x = some (.agg l.toArray)) (hy : ev fr y = some (.agg m.toArray)) (hl : l = [.int .i64 a1, .int .i64 a2]) (hm : m = [.int .i64 b1, .int .i64 b2]) : QOP P o fr h L (.bool (!decide ((a1, a2) = (b1, b2)))) := by
  subst hl; subst hm; exact Q_neA (a := (a1, a2)) (b := (b1, b2)) e hop hx hy
theorem Q_eqV (e : EqAt P t vlc) (hop : o.op = .binOp .eql t x y u) (hx : ev fr x = some (.agg l.toArray)) (hy : ev fr y = some (.agg m.toArray)) (hl : l = [.int .i64 a1, .int .i64 a2, .int .i64 a3, .int .i64 a4]) (hm : m = [.int .i64 b1, .int .i64 b2, .int .i64 b3, .int .i64 b4]) :
    QOP P o fr h L (.bool (decide ((a1, a2, (a3, a4)) = (b1, b2, (b3, b4))))) := by
  subst hl; subst hm; exact Q_eqA (a := (a1, a2, (a3, a4))) (b := (b1, b2, (b3, b4))) e hop hx hy
theorem Q_neV (e : EqAt P t vlc) (hop : o.op = .binOp .neq t x y u) (hx : ev fr x = some (.agg l.toArray)) (hy : ev fr y = some (.agg m.toArray)) (hl : l = [.int .i64 a1, .int .i64 a2, .int .i64 a3, .int .i64 a4]) (hm : m = [.int .i64 b1, .int .i64 b2, .int .i64 b3, .int .i64 b4]) :
    QOP P o fr h L (.bool (!decide ((a1, a2, (a3, a4)) = (b1, b2, (b3, b4))))) := by
  subst hl; subst hm; exact Q_neA (a := (a1, a2, (a3, a4))) (b := (b1, b2, (b3, b4))) e hop hx hy
end
end Go.Mesh
/-
  MORE OPERATIONS: aggregates and slices that are built, slices of slices, append to a slice that is owned; what an owned slice reads as.
-/
set_option linter.all false
namespace Go.Mesh
open Go.RowKit

section
variable {P : Program} {r : Option Nat} {h : Frag} {L : Hp} {fr : Fr} {o : Oper} {K : OCont} {w : World}

/-! ### Aggregates that are built -/
theorem fill_fold (off : Nat) : ∀ (vs : List Value) (k : Nat) (cs : Array Value), off + k + vs.length ≤ cs.size →
    (vs.zipIdx k).foldl (fun cs (c, j) => cs.setIfInBounds (off + j) c) cs = (putAt cs.toList (off + k) vs).toArray := by
  intro vs
  induction vs with
  | nil => intro k cs _; simp [putAt]
  | cons v vs ih =>
    intro k cs hle
    simp only [List.length_cons] at hle
    simp only [List.zipIdx_cons, List.foldl_cons]
    rw [ih (k + 1) _ (by simp; omega)]
    rw [putAt_cons _ _ _ _ (by simp; omega)]
    simp [Nat.add_assoc]
/-- The parts of an aggregate: offset and cells of each. -/
def partsOk (P : Program) (fr : Fr) (t : TypeId) : List (Nat × Operand) → List (Nat × List Value) → Prop
  | [], ps => ps = []
  | (f, x) :: rest, ps => ∃ v us ft fo g k qs, ev fr x = some v ∧ fieldOf P t f = some (ft, fo) ∧ tyOf P ft = some (g, k) ∧ v.cells = us.toArray ∧ us.length = k ∧ partsOk P fr t rest qs ∧ ps = (fo, us) :: qs
def fillL : List Value → List (Nat × List Value) → List Value
  | z, [] => z
  | z, (fo, us) :: ps => fillL (putAt z fo us) ps
def fillOk : Nat → List (Nat × List Value) → Bool
  | _, [] => true
  | n, (fo, us) :: ps => Nat.ble (fo + us.length) n && fillOk n ps
theorem foldl_zipIdx (a : Array Value) (f : Array Value → Value × Nat → Array Value) (cs : Array Value) : a.zipIdx.foldl f cs = (a.toList.zipIdx 0).foldl f cs := by
  rw [← Array.foldl_toList]; simp
theorem fill_eq {a : Act} (ha : ∀ x u, ev fr x = some u → a.eval x = u) {t : TypeId} {fs : Array Field} (hu : P.underlying t = some (.struct fs)) (places : Array (Nat × Nat))
    (hp : ∀ (f ft fo k : Nat) (g : Bool), fieldOf P t f = some (ft, fo) → tyOf P ft = some (g, k) → places[f]? = some (fo, k)) :
    ∀ (xs : List (Nat × Operand)) (ps : List (Nat × List Value)) (z : List Value), partsOk P fr t xs ps → fillOk z.length ps = true →
      Instr.fill (places[·]?) z.toArray (xs.map fun (i, x) => (i, a.eval x)) = some (fillL z ps).toArray := by
  intro xs
  induction xs with
  | nil => intro ps z e _; cases e; simp [Instr.fill, fillL]
  | cons p xs ih =>
    obtain ⟨f, x⟩ := p
    intro ps z ⟨v, us, ft, fo, g, k, qs, e1, e2, e3, e4, e5, e6, e7⟩ hok
    subst e7
    simp only [fillOk, Bool.and_eq_true] at hok
    have hle := Nat.le_of_ble_eq_true hok.1
    simp only [List.map_cons, Instr.fill, ha x v e1, hp f ft fo k g e2 e3, e4]
    have hsz : us.toArray.size = k := by simpa using e5
    rw [if_neg (by simp [hsz, e5] at hle ⊢; omega), foldl_zipIdx, fill_fold fo _ 0 _ (by simpa using hle)]
    simp only [Nat.add_zero]
    have := ih qs (putAt z fo us) e6 (by rw [putAt_length hle]; exact hok.2)
    simpa [fillL] using this
theorem run_mapM_places (fs : Array Field) : ∀ (l : List Field), (∀ f ∈ l, (P.info? f.type).isSome = true) →
    (l.mapM fun (f : Field) => do pure (f.offset, ← sizeOf f.type)).run P w = .ok (l.map fun f => (f.offset, P.cellsOf f.type)) w := by
  intro l
  induction l with
  | nil => intro _; rfl
  | cons f l ih =>
    intro hl
    have hf := hl f (by simp)
    cases hi : P.info? f.type with
    | none => simp [hi] at hf
    | some i =>
      simp only [List.mapM_cons, Sem.run_bind, sizeOf, typeInfo, run_program, hi, Result.andThen_ok, Sem.run_pure]
      have := ih (fun g hg => hl g (List.mem_cons_of_mem _ hg))
      simp only [sizeOf, typeInfo] at this
      rw [this]
      simp [Program.cellsOf, hi]
/-- all fields' types are known -/
def fieldsKnown (P : Program) (t : TypeId) : Bool :=
  match P.underlying t with
  | some (.struct fs) => fs.toList.all fun f => (P.info? f.type).isSome
  | _ => false
theorem fieldsKnown_spec {t : TypeId} (hk : fieldsKnown P t = true) : ∃ fs, P.underlying t = some (.struct fs) ∧ ∀ f ∈ fs.toList, (P.info? f.type).isSome = true := by
  unfold fieldsKnown at hk
  split at hk
  · rename_i fs hu; exact ⟨fs, hu, List.all_eq_true.1 hk⟩
  · cases hk
theorem Q_build {t : TypeId} {parts : Array (Nat × Operand)} {z : List Value} {ps : List (Nat × List Value)} (hop : o.op = .build t parts) (hk : fieldsKnown P t = true) (hz : zeroOf P t = some z) (hps : partsOk P fr t parts.toList ps) (hok : fillOk z.length ps = true) :
    QOP P o fr h L (.agg (fillL z ps).toArray) :=
  ⟨fun c => by rw [hop]; simp, fun a ha w _ => by
    obtain ⟨i, zv, hi, hz0, hc⟩ := zeroOf_spec hz
    obtain ⟨fs, hu, hk⟩ := fieldsKnown_spec hk
    have _ := hk
    ·
      have hm := run_mapM_places (P := P) (w := w) fs fs.toList (fun f hf => hk f hf)
      have hm' : (fs.mapM fun (f : Field) => do pure (f.offset, ← sizeOf f.type)).run P w = .ok (fs.toList.map fun f => (f.offset, P.cellsOf f.type)).toArray w := by
        rw [Array.mapM_eq_mapM_toList, Sem.run_map, hm]; rfl
      have hfill := fill_eq (P := P) ha hu (fs.toList.map fun f => (f.offset, P.cellsOf f.type)).toArray (by
        intro f ft fo k g h1 h2
        unfold fieldOf at h1
        simp only [hu] at h1
        cases hfs : fs[f]? with
        | none => simp [hfs] at h1
        | some x =>
          simp only [hfs] at h1
          cases hi2 : P.info? x.type with
          | none => simp [hi2] at h1
          | some i2 =>
            simp only [hi2] at h1
            split at h1
            · cases h1
            · cases h1
              unfold tyOf at h2
              rw [hi2] at h2
              cases hu2 : P.underlying x.type with
              | none => simp [hu2] at h2
              | some d2 =>
                simp only [hu2, Option.some.injEq, Prod.mk.injEq] at h2
                simp [hfs, Program.cellsOf, hi2, h2.2]) parts.toList ps z hps hok
      unfold execOp; rw [hop]
      have hparts : (parts.map fun (i, x) => (i, a.eval x)).toList = parts.toList.map fun (i, x) => (i, a.eval x) := by simp
      simp only [Instr.build, zeroValue, typeInfo, Sem.run_bind, run_program, hi, Result.andThen_ok, Sem.run_pure, hz0, run_underlying' hu, hm', hc, hparts, hfill]⟩

/-! ### Slices that are built -/
/-- The parts of a slice, 0, 1, 2 and so on, of k cells each, in a row. -/
def rowParts (fr : Fr) (k : Nat) : Nat → List (Nat × Operand) → List Value → Prop
  | _, [], us => us = []
  | j, (i, x) :: rest, us => ∃ v vs ws, i = j ∧ ev fr x = some v ∧ v.cells = vs.toArray ∧ vs.length = k ∧ rowParts fr k (j + 1) rest ws ∧ us = vs ++ ws
theorem rowParts_len {k : Nat} : ∀ {xs : List (Nat × Operand)} {j : Nat} {us : List Value}, rowParts fr k j xs us → us.length = xs.length * k
  | [], _, _, e => by cases e; simp
  | (i, x) :: xs, j, _, ⟨v, vs, ws, _, _, _, e5, e6, e7⟩ => by
    subst e7
    have := rowParts_len e6
    simp [e5, this, Nat.add_mul]; omega
theorem fill_row {a : Act} (ha : ∀ x u, ev fr x = some u → a.eval x = u) {k : Nat} : ∀ (xs : List (Nat × Operand)) (j : Nat) (us pre post : List Value), rowParts fr k j xs us → pre.length = j * k → post.length = xs.length * k →
    Instr.fill (fun i => some (i * k, k)) (pre ++ post).toArray (xs.map fun (i, x) => (i, a.eval x)) = some (pre ++ us).toArray := by
  intro xs
  induction xs with
  | nil => intro j us pre post e _ hp; cases e; simp at hp; subst hp; simp [Instr.fill]
  | cons p xs ih =>
    obtain ⟨i, x⟩ := p
    intro j us pre post ⟨v, vs, ws, e1, e2, e3, e4, e5, e6⟩ hpre hpost
    subst e1
    subst e6
    simp only [List.map_cons, Instr.fill, ha x v e2, e3]
    have hlen : (i * k) + vs.length ≤ (pre ++ post).length := by simp [hpre, hpost, e4, Nat.add_mul]
    rw [if_neg (by simp [e4] at hlen ⊢; omega), foldl_zipIdx, fill_fold (i * k) _ 0 _ (by simpa using hlen)]
    have hput : putAt (pre ++ post) (i * k + 0) vs = (pre ++ vs) ++ post.drop vs.length := by
      simp only [putAt, Nat.add_zero, ← hpre]
      rw [List.take_left, List.drop_append]
      simp
    have hthis : (vs.toArray.toList.zipIdx 0).length = (vs.toArray.toList.zipIdx 0).length := rfl
    simp only [hput] at *
    have := ih (i + 1) ws (pre ++ vs) (post.drop vs.length) e5 (by simp [hpre, e4, Nat.add_mul]) (by simp [hpost, e4, Nat.add_mul])
    simpa [hput] using this
theorem C_buildSlice {t e k by_ n : Nat} {parts : Array (Nat × Operand)} {us z : List Value} (hop : o.op = .buildSlice t n parts) (he : elemOf? P t = some (e, k, by_)) (hz : zeroOf P e = some z) (hzk : z.length = k) (hps : rowParts fr k 0 parts.toList us) (hn : parts.toList.length = n) (hle : Nat.ble (n * k) 16777216 = true)
    (kk : ∀ b, K h [(b, cells us e)] (.slice (some ⟨b, 0, none⟩) n n)) : OPc P r o fr h L K :=
  OPc_new (ob := cells us e) (fun c => by rw [hop]; simp) fun a ha w _ => ⟨fun b => .slice (some ⟨b, 0, none⟩) n n, by
    obtain ⟨hu, i0, hi, hk, _⟩ := elemOf?_spec he
    obtain ⟨i, zv, hi', hz0, hc⟩ := zeroOf_spec hz
    rw [hi] at hi'; cases hi'
    have hle' := Nat.le_of_ble_eq_true hle
    have hlen := rowParts_len hps
    rw [hn] at hlen
    unfold execOp; rw [hop]
    have hparts : (parts.map fun (i, x) => (i, a.eval x)).toList = parts.toList.map fun (i, x) => (i, a.eval x) := by simp
    have hnot : ¬ (n * k > 2 ^ 24) := by
      have : (2 : Nat) ^ 24 = 16777216 := rfl
      omega
    simp only [Instr.buildSlice, Sem.run_bind, run_underlying' hu, Result.andThen_ok, sizeOf, typeInfo, run_program, hi, Sem.run_pure, hk, Sem.run_ite, hnot, if_false]
    by_cases h0 : n * k = 0
    · have hus : us = [] := List.eq_nil_of_length_eq_zero (by omega)
      subst hus
      have hfill := fill_row ha parts.toList 0 [] [] [] hps (by simp) (by simp [hn, h0])
      simp only [h0, if_true, Sem.run_pure, Result.andThen_ok, hparts]
      simp only [List.nil_append, List.append_nil] at hfill
      have h00 : (Array.range 0).map (fun x => (#[] : Array Value)[x % (#[] : Array Value).size]!) = #[] := by apply Array.ext <;> simp
      rw [h00, hfill]
      rfl
    · have hfill := fill_row ha parts.toList 0 us [] ((Array.range (n * k)).map fun x => z.toArray[x % z.toArray.size]!).toList hps (by simp) (by simp [hn])
      simp only [h0, if_false, zeroValue, typeInfo, Sem.run_bind, run_program, hi, Result.andThen_ok, Sem.run_pure, hz0, hc, hparts]
      simp only [List.nil_append] at hfill
      have hconv : ((Array.range (n * k)).map fun x => z.toArray[x % z.toArray.size]!).toList.toArray = (Array.range (n * k)).map fun x => z.toArray[x % z.toArray.size]! := Array.toArray_toList
      rw [hconv] at hfill
      rw [hfill]
      rfl, kk _⟩

/-! ### Parts of slices -/
theorem Q_slice {t e k by_ : Nat} {s : Operand} {lo hi : Option Operand} {b off n cap l u : Nat} (hop : o.op = .slice t s lo hi none) (hs : ev fr s = some (.slice (some ⟨b, off, none⟩) n cap)) (he : elemOf? P t = some (e, k, by_))
    (hlo : match lo with | some x => ∃ q, ev fr x = some (.int q (l : Int)) | none => l = 0) (hhi : match hi with | some x => ∃ q, ev fr x = some (.int q (u : Int)) | none => u = n) (hlu : l ≤ u) (huc : u ≤ cap) (hne : l < cap) :
    QOP P o fr h L (.slice (some ⟨b, off + l * k, none⟩) (u - l) (cap - l)) :=
  ⟨fun c => by rw [hop]; simp, fun a ha w _ => by
    obtain ⟨hu, i0, hi0, hk, _⟩ := elemOf?_spec he
    unfold execOp; rw [hop]
    have hne' : ¬ cap = l := by omega
    have huc' : ((u : Int) ≤ (cap : Int)) := by omega
    have hlu' : ((l : Int) ≤ (u : Int)) := by omega
    cases lo with
    | none =>
      subst hlo
      cases hi with
      | none =>
        subst hhi
        have h0 : ¬ cap = 0 := by omega
        simp [ha s _ hs, Instr.sliceAt, run_underlying' hu, Instr.slice, Instr.sliceBounds, sizeOf, typeInfo, hi0, hk, h0, addr_add]
      | some x =>
        obtain ⟨q, hq⟩ := hhi
        have h0 : ¬ cap = 0 := by omega
        simp [ha s _ hs, ha x _ hq, Instr.sliceAt, run_underlying' hu, Instr.slice, Instr.sliceBounds, Instr.sliceBound, asIntOf, huc, sizeOf, typeInfo, hi0, hk, h0, addr_add]
    | some y =>
      obtain ⟨q, hq⟩ := hlo
      cases hi with
      | none =>
        subst hhi
        simp [ha s _ hs, ha y _ hq, Instr.sliceAt, run_underlying' hu, Instr.slice, Instr.sliceBounds, Instr.sliceBound, asIntOf, hlu, sizeOf, typeInfo, hi0, hk, hne', addr_add]
      | some x =>
        obtain ⟨q', hq'⟩ := hhi
        simp [ha s _ hs, ha y _ hq, ha x _ hq', Instr.sliceAt, run_underlying' hu, Instr.slice, Instr.sliceBounds, Instr.sliceBound, asIntOf, huc, hlu, sizeOf, typeInfo, hi0, hk, hne', addr_add]⟩

/-! ### Numbers turned into other kinds -/
theorem Q_conv {s t : TypeId} {x : Operand} {q k : IntKind} {m : Int} (hop : o.op = .convert s t x) (hx : ev fr x = some (.int q m)) (hs : ∃ d, P.underlying s = some d) (ht : P.underlying t = some (.int k)) : QOP P o fr h L (.int k (k.wrap m)) := by
  refine ⟨fun c => by rw [hop]; simp, fun a ha w _ => ?_⟩
  obtain ⟨d, hd⟩ := hs
  unfold execOp; rw [hop]
  simp only [ha x _ hx, convert, Sem.run_bind, run_underlying' hd, run_underlying' ht, Result.andThen_ok]
  cases d <;> simp [Conv.intToInt]
theorem Q_shl {t u : TypeId} {x y : Operand} {k q : IntKind} {m n : Int} {v : Value} (hop : o.op = .binOp .shl t x y u) (hx : ev fr x = some (.int k m)) (hy : ev fr y = some (.int q n)) (hv : ∀ w, (Op.shift .shl k m q n).run P w = .ok v w) : QOP P o fr h L v :=
  ⟨fun c => by rw [hop]; simp, fun a ha w _ => by
    unfold execOp; rw [hop]
    simp [ha x _ hx, ha y _ hy, eqGuard, binOp, hv w]⟩

theorem run_equal_slice {t e : TypeId} {p : Option Addr} {n c : Nat} (ht : P.underlying t = some (.slice e)) : (Op.equal t (.slice p n c) (.slice none 0 0)).run P w = .ok p.isNone w := by
  unfold Op.equal
  rw [show Op.maxDepth = 9999 + 1 from rfl, Op.equalIn]
  cases p <;> simp [run_underlying' ht]
theorem Q_eqNil {t u e : TypeId} {x y : Operand} {p : Option Addr} {n c : Nat} (hop : o.op = .binOp .eql t x y u) (hx : ev fr x = some (.slice p n c)) (hy : ev fr y = some (.slice none 0 0)) (ht : P.underlying t = some (.slice e)) : QOP P o fr h L (.bool p.isNone) :=
  ⟨fun c => by rw [hop]; simp, fun a ha w _ => by
    unfold execOp; rw [hop]
    simp only [ha x _ hx, ha y _ hy, eqGuard, binOp, Sem.run_bind, run_equal_slice ht]
    simp⟩

/-! ### A slice that is owned -/
def Row (e k : Nat) (v : Value) (n : Nat) (us : List Value) (M : Hp) : Prop :=
  us.length = n * k ∧ ((v = .slice none 0 0 ∧ n = 0 ∧ M = []) ∨ ∃ b cap rest, v = .slice (some ⟨b, 0, none⟩) n cap ∧ M = [(b, cells (us ++ rest) e)] ∧ us.length + rest.length = cap * k ∧ n ≤ cap)
theorem Row.nil (e k : Nat) : Row e k (.slice none 0 0) 0 [] [] := ⟨by simp, .inl ⟨rfl, rfl, rfl⟩⟩
theorem Row.lit {e k n b : Nat} {us : List Value} (hl : us.length = n * k) : Row e k (.slice (some ⟨b, 0, none⟩) n n) n us [(b, cells us e)] :=
  ⟨hl, .inr ⟨b, n, [], rfl, by simp, by simp [hl], Nat.le_refl _⟩⟩
theorem Row.slice {e k n : Nat} {v : Value} {us : List Value} {M : Hp} (x : Row e k v n us M) : ∃ p cap, v = .slice p n cap := by
  obtain ⟨_, ⟨rfl, rfl, _⟩ | ⟨b, cap, rest, rfl, _⟩⟩ := x
  · exact ⟨none, 0, rfl⟩
  · exact ⟨_, cap, rfl⟩

theorem ext_drew_alloc {h : Frag} {L : Hp} {w : World} (s : Holds h L w) (ob : Obj) : Ext h L w h ((w.heap.size, ob) :: L) (w.drew.alloc ob) :=
  (Ext.same (w' := w.drew) s rfl rfl rfl rfl (Nat.le_succ _)).trans (Ext.alloc (w := w.drew) (Ext.same (w' := w.drew) s rfl rfl rfl rfl (Nat.le_succ _)).holds ob)

theorem W_append {c : Call} {s x : Operand} {t e k by_ n m cc : Nat} {v : Value} {p : Option Addr} {us ws z : List Value} {M : Hp} (L2 L3 : Hp) (hop : o.op = .call c) (hc : c.callee = .builtin .append) (ha : c.args = #[s, x]) (hat : c.argTypes = #[t, t])
    (hs : ev fr s = some v) (hx : ev fr x = some (.slice p m cc)) (he : elemOf? P t = some (e, k, by_)) (hz : zeroOf P e = some z) (hzk : z.length = k) (hrow : Row e k v n us M) (hL : L = L2 ++ M) (hs3 : List.Sublist L3 L2)
    (hsrc : m = 0 ∨ ∃ b off, p = some ⟨b, off, none⟩ ∧ Rd h L b off ws) (hws : ws.length = m * k) (h1 : ones ws = true) (hb : (n + m) * by_ ≤ 140737488355328) (hnm : n + m ≤ 9223372036854775807)
    (kk : ∀ v' M', Row e k v' (n + m) (us ++ ws) M' → K h (L3 ++ M') v') : OPw P r o fr h L K := by
  obtain ⟨hu, i0, hi, hk, hby⟩ := elemOf?_spec he
  obtain ⟨i, zv, hi', hz0, hzc⟩ := zeroOf_spec hz
  rw [hi] at hi'; cases hi'
  have hex : ∀ a : Act, (∀ x u, ev fr x = some u → a.eval x = u) → ∀ (w w' : World) (v' : Value), (Builtin.append_ #[t, t] o.type #[v, .slice p m cc]).run P w = .ok v' w' → (execOp a.eval o).run P w = .ok (.value v') w' := by
    intro a hal w w' v' hr
    unfold execOp; rw [hop]
    simp [resolve, hc, ha, hat, invoke, builtin, hal s _ hs, hal x _ hx, hr]
  have hd : ∀ c', o.op ≠ .defer c' := fun c' => by rw [hop]; simp
  intro a hal w hw
  have hw0 := hw
  rw [hL] at hw
  obtain ⟨hul, hcase⟩ := hrow
  by_cases hm : m = 0
  · subst hm
    have hws0 : ws = [] := List.eq_nil_of_length_eq_zero (by simpa using hws)
    subst hws0
    have hrow' : Row e k v (n + 0) (us ++ []) M := by simpa using ⟨hul, hcase⟩
    have hr : (Builtin.append_ #[t, t] o.type #[v, .slice p 0 cc]).run P w = .ok v w := by
      rcases hcase with ⟨rfl, rfl, _⟩ | ⟨b, cap, rest, rfl, _, _, hnc⟩
      · cases p <;> simp [Builtin.append_, run_underlying' hu, sizeOf, typeInfo, hi, Builtin.lenOf, Builtin.firstCells, loadCells, loadCellsFrom]
      · cases p <;> simp [Builtin.append_, run_underlying' hu, sizeOf, typeInfo, hi, Builtin.lenOf, Builtin.firstCells, loadCells, loadCellsFrom, hnc, storeCells]
    refine wpIn_of_value hd (hex a hal w w v hr) ⟨h, L3 ++ M, v, rfl, kk v M hrow', ?_⟩
    rw [hL]
    exact (Ext.refl hw).drop (hs3.append (List.Sublist.refl M))
  · obtain ⟨b, off, rfl, hrd⟩ := hsrc.resolve_left hm
    have hnews : ∀ (w : World), Sees h L w → ∀ j u, ws[j]? = some u → w.cell? ((⟨b, off, none⟩ : Addr).add j) = some u := fun w hw j u e => by rw [addr_add]; exact hrd.cell hw e
    have hwsl : ws.length = m * i0.size := by rw [hk]; exact hws
    rcases hcase with ⟨rfl, rfl, rfl⟩ | ⟨bv, cap, rest, rfl, rfl, hcap, hnc⟩
    · have hus : us = [] := List.eq_nil_of_length_eq_zero (by simpa using hul)
      subst hus
      have hr := run_append_nil (P := P) w t o.type e i0 zv hu hi hz0 ⟨b, off, none⟩ m cc ws hwsl (hnews w hw0.sees) (by omega) (by omega) (by simp only [Nat.zero_add] at hb; rw [hby]; omega)
      have hge := grownCap_ge w m 0 e
      refine wpIn_of_value hd (hex a hal w _ _ hr) ⟨h, L3 ++ [(w.heap.size, _)], _, rfl, kk _ [(w.heap.size, cells (ws ++ (Builtin.zeroCells zv.cells (grownCap w m 0 e - m)).toList) e)] ⟨by simpa using hws, .inr ⟨w.heap.size, grownCap w m 0 e, (Builtin.zeroCells zv.cells (grownCap w m 0 e - m)).toList, by simp, by simp, ?_, by omega⟩⟩, ?_⟩
      · simp [size_zeroCells, hzc, hzk, hws, ← Nat.add_mul]; congr 1; omega
      · rw [List.append_nil] at hw
        rw [hL, List.append_nil]
        have hx := ext_drew_alloc hw (.cells (ws.toArray ++ Builtin.zeroCells zv.cells (grownCap w m 0 e - m)) e)
        have hob : (Obj.cells (ws.toArray ++ Builtin.zeroCells zv.cells (grownCap w m 0 e - m)) e) = cells (ws ++ (Builtin.zeroCells zv.cells (grownCap w m 0 e - m)).toList) e := by
          simp [cells]
        rw [hob] at hx ⊢
        exact (hx.perm (L2 := L2 ++ [(w.heap.size, _)]) (by simpa using List.perm_append_comm)).drop (hs3.append (List.Sublist.refl _))
    · have hbv : w.heap[bv]? = some (cells (us ++ rest) e) := hw.sees.own (bv, cells (us ++ rest) e) (by simp)
      by_cases hroom : n + m ≤ cap
      · have hfit : n * i0.size + ws.length ≤ (us ++ rest).toArray.size := by
          rw [hk, hws, ← Nat.add_mul]; simp only [List.size_toArray, List.length_append, hcap]; exact Nat.mul_le_mul_right _ hroom
        have hr := run_append_room (P := P) w t o.type e i0 hu hi bv n cap (us ++ rest).toArray hbv ⟨b, off, none⟩ m cc ws hwsl (hnews w hw0.sees) (ones_mem h1) hroom hfit
        have hcont : ((us ++ rest).toArray.toList.take (n * i0.size) ++ ws ++ (us ++ rest).toArray.toList.drop (n * i0.size + ws.length)) = (us ++ ws) ++ rest.drop ws.length := by
          rw [hk, ← hul]
          simp [List.drop_append]
        rw [hcont] at hr
        have hcapk : (n + m) * k ≤ cap * k := Nat.mul_le_mul_right _ hroom
        refine wpIn_of_value hd (hex a hal w _ _ hr) ⟨h, L3 ++ [(bv, cells ((us ++ ws) ++ rest.drop ws.length) e)], _, rfl, kk _ _ ⟨by simp [hul, hws, Nat.add_mul], .inr ⟨bv, cap, rest.drop ws.length, rfl, rfl, ?_, hroom⟩⟩, ?_⟩
        · simp only [List.length_append, List.length_drop, hws, hul] at *; rw [Nat.add_mul] at hcapk; omega
        · rw [hL]
          refine (Ext.set hw (w' := w.setRow bv ((us ++ ws) ++ rest.drop ws.length).toArray) (o' := cells ((us ++ ws) ++ rest.drop ws.length) e) (b := bv) (o := cells (us ++ rest) e) (L' := L2 ++ [(bv, cells ((us ++ ws) ++ rest.drop ws.length) e)]) ⟨L2, [], rfl, rfl⟩ ?_ ?_ ?_ rfl rfl rfl rfl).drop (hs3.append (List.Sublist.refl _))
          · exact setRow_heap w bv _ _ e _ hbv
          · exact fun j hj => setRow_other w bv j _ hj
          · simp [World.setRow]
      · have holds : ∀ j u, us[j]? = some u → w.cell? ((⟨bv, 0, none⟩ : Addr).add j) = some u := fun j u ej => by
          rw [addr_add]
          have hlt := (List.getElem?_eq_some_iff.1 ej).1
          simp only [World.cell?, hbv, Nat.zero_add]
          simp [List.getElem?_append_left hlt, ej]
        have hr := run_append_grow (P := P) w t o.type e i0 zv hu hi hz0 ⟨bv, 0, none⟩ n cap us (by rw [hk]; exact hul) holds ⟨b, off, none⟩ m cc ws hwsl (hnews w hw0.sees) (by omega) (by omega) (growslice_fits (by omega) (by rw [hby]; exact hb))
        have hge := grownCap_ge w (n + m) cap e
        refine wpIn_of_value hd (hex a hal w _ _ hr) ⟨h, L3 ++ [(w.heap.size, _)], _, rfl, kk _ [(w.heap.size, cells ((us ++ ws) ++ (Builtin.zeroCells zv.cells (grownCap w (n + m) cap e - (n + m))).toList) e)] ⟨by simp [hul, hws, Nat.add_mul], .inr ⟨w.heap.size, grownCap w (n + m) cap e, _, rfl, rfl, ?_, hge⟩⟩, ?_⟩
        · simp [size_zeroCells, hzc, hzk, hws, hul, ← Nat.add_mul]; congr 1; omega
        · rw [hL]
          have hx := ext_drew_alloc hw (.cells (us.toArray ++ ws.toArray ++ Builtin.zeroCells zv.cells (grownCap w (n + m) cap e - (n + m))) e)
          have hob : (Obj.cells (us.toArray ++ ws.toArray ++ Builtin.zeroCells zv.cells (grownCap w (n + m) cap e - (n + m))) e) = cells ((us ++ ws) ++ (Builtin.zeroCells zv.cells (grownCap w (n + m) cap e - (n + m))).toList) e := by
            simp [cells]
          rw [hob] at hx ⊢
          refine (hx.drop (L2 := (w.heap.size, _) :: L2) (List.Sublist.cons_cons _ (List.sublist_append_left _ _))).perm (L2 := L2 ++ [(w.heap.size, _)]) (by simpa using List.perm_append_comm) |>.drop (hs3.append (List.Sublist.refl _))
end
end Go.Mesh
/-
  MAPS: a map that is made, looked up, written and ranged over; its entries are a list of keys and values, in the order in which the keys came.
-/
set_option linter.all false
namespace Go.Mesh
open Go.RowKit
set_option linter.unusedSectionVars false
set_option linter.unusedSimpArgs false

section
variable {κ : Type} [DecidableEq κ]
def ent (kc : κ → Value) : Nat → List (κ × Value) → List MapEntry
  | _, [] => []
  | j, (k, v) :: ps => ⟨kc k, v, j⟩ :: ent kc (j + 1) ps
def mapObj (kc : κ → Value) (ps : List (κ × Value)) : Obj := .map (ent kc 0 ps).toArray ps.length
def fidx (k : κ) : Nat → List (κ × Value) → Option (Nat × Value)
  | _, [] => none
  | j, (k', v) :: ps => if k' = k then some (j, v) else fidx k (j + 1) ps
def mget (k : κ) : List (κ × Value) → Option Value
  | [] => none
  | (k', v) :: ps => if k' = k then some v else mget k ps
def mput (k : κ) (v : Value) : List (κ × Value) → List (κ × Value)
  | [] => [(k, v)]
  | (k', v') :: ps => if k' = k then (k', v) :: ps else (k', v') :: mput k v ps

theorem ent_length (kc : κ → Value) : ∀ (ps : List (κ × Value)) (j : Nat), (ent kc j ps).length = ps.length
  | [], _ => rfl
  | (_, _) :: ps, j => by simp [ent, ent_length kc ps]
theorem fidx_get (k : κ) : ∀ (ps : List (κ × Value)) (j : Nat), (fidx k j ps).map (·.2) = mget k ps
  | [], _ => rfl
  | (k', v) :: ps, j => by
    simp only [fidx, mget]
    split
    · rfl
    · exact fidx_get k ps (j + 1)
theorem ent_get (kc : κ → Value) : ∀ (ps : List (κ × Value)) (j i : Nat), (ent kc j ps)[i]? = (ps[i]?).map fun p => ⟨kc p.1, p.2, j + i⟩
  | [], _, _ => by simp [ent]
  | (k, v) :: ps, j, 0 => by simp [ent]
  | (k, v) :: ps, j, i + 1 => by simp [ent, ent_get kc ps (j + 1) i, Nat.add_assoc, Nat.add_comm 1 i]
theorem fidx_some (kc : κ → Value) (k : κ) (v : Value) : ∀ (ps : List (κ × Value)) (j i : Nat) (u : Value), fidx k j ps = some (i, u) → j ≤ i ∧ (ent kc j ps).modify (i - j) (fun e => { e with key := kc k, val := v }) = ent kc j (mput k v ps) ∧ (mput k v ps).length = ps.length ∧ ((ent kc j ps)[i - j]?).map (·.key) = some (kc k)
  | [], _, _, _, h => by cases h
  | (k', v') :: ps, j, i, u, h => by
    simp only [fidx] at h
    split at h
    · rename_i hk
      subst hk
      cases h
      refine ⟨Nat.le_refl _, ?_, ?_, ?_⟩ <;> simp [ent, mput]
    · rename_i hk
      obtain ⟨h1, h2, h3, h4⟩ := fidx_some kc k v ps (j + 1) i u h
      have e : i - j = (i - (j + 1)) + 1 := by omega
      refine ⟨by omega, ?_, ?_, ?_⟩
      · rw [e]; simp only [ent, mput, if_neg hk, List.modify_succ_cons, h2]
      · simp [mput, hk, h3]
      · rw [e]; simpa [ent] using h4
theorem fidx_none (kc : κ → Value) (k : κ) (v : Value) : ∀ (ps : List (κ × Value)) (j : Nat), fidx k j ps = none → ent kc j (mput k v ps) = ent kc j ps ++ [⟨kc k, v, j + ps.length⟩] ∧ (mput k v ps).length = ps.length + 1
  | [], j, _ => by simp [ent, mput]
  | (k', v') :: ps, j, h => by
    simp only [fidx] at h
    split at h
    · cases h
    · rename_i hk
      obtain ⟨h1, h2⟩ := fidx_none kc k v ps (j + 1) h
      simp [ent, mput, hk, h1, h2, Nat.add_assoc, Nat.add_comm 1]

structure KeyLaw (P : Program) (kt : TypeId) (kc : κ → Value) : Prop where
  check : ∀ (w : World) (b : Bool) (k : κ), (Instr.checkKey b 10000 kt (kc k)).run P w = .ok () w
  find : ∀ (w : World) (k : κ) (ps : List (κ × Value)), (Instr.findKey kt (kc k) (ent kc 0 ps)).run P w = .ok (fidx k 0 ps) w
  bits : ∀ k : κ, Instr.sameBits 10000 (kc k) (kc k) = true

/-- The block b is this map: one that nobody writes, or an owned one. -/
def IsMap (h : Frag) (L : Hp) (b : Nat) (ob : Obj) : Prop := h b = some ob ∨ (b, ob) ∈ L
theorem IsMap.get {h : Frag} {L : Hp} {b : Nat} {ob : Obj} {w : World} (x : IsMap h L b ob) (hw : Sees h L w) : w.heap[b]? = some ob := x.elim (fun e => hw.pers _ _ e) (fun e => hw.own _ e)
theorem IsMap.mono {h h' : Frag} {L : Hp} {b : Nat} {ob : Obj} (x : h b = some ob) (hl : le h h') : IsMap h' L b ob := .inl (hl _ _ x)

variable {P : Program} {r : Option Nat} {h : Frag} {L : Hp} {fr : Fr} {o : Oper} {K : OCont} {w : World} {kc : κ → Value}
theorem run_getObj_map {b : Nat} {ps : List (κ × Value)} (hb : w.heap[b]? = some (mapObj kc ps)) : (getObj b).run P w = .ok (mapObj kc ps) w := by
  simp [getObj, Sem.run, hb, mapObj]
def zvOf (P : Program) (t : TypeId) : Option Value := match P.info? t with | some i => i.zero | none => none
theorem run_zeroValue {t : TypeId} {z : Value} (hz : zvOf P t = some z) : (zeroValue t).run P w = .ok z w := by
  unfold zvOf at hz
  cases hi : P.info? t with
  | none => simp [hi] at hz
  | some i => simp only [hi] at hz; simp [zeroValue, typeInfo, hi, hz]
theorem run_lookup {t kt et b : Nat} {k : κ} {ps : List (κ × Value)} {z : Value} {ok : Bool} (kl : KeyLaw P kt kc) (ht : P.underlying t = some (.map kt et)) (hz : zvOf P et = some z) (hb : w.heap[b]? = some (mapObj kc ps)) :
    (Instr.lookup t (.map (some b)) (kc k) ok).run P w = .ok (if ok then .tuple #[(mget k ps).getD z, .bool (mget k ps).isSome] else (mget k ps).getD z) w := by
  unfold Instr.lookup
  simp only [Sem.run_bind, run_underlying' ht, Result.andThen_ok, run_getObj_map hb]
  simp only [mapObj]
  have hg := fidx_get k ps 0
  cases hf : fidx k 0 ps with
  | none =>
    rw [hf] at hg
    simp only [Option.map_none] at hg
    simp only [← hg]
    cases ok <;> simp [kl.check, kl.find, hf, run_zeroValue hz]
  | some p =>
    rw [hf] at hg
    obtain ⟨i, u⟩ := p
    simp only [Option.map_some] at hg
    simp only [← hg]
    cases ok <;> simp [kl.check, kl.find, hf]
theorem Q_lookup {t kt et b : Nat} {x y : Operand} {k : κ} {ps : List (κ × Value)} {z : Value} (hop : o.op = .lookup t x y false) (hx : ev fr x = some (.map (some b))) (hy : ev fr y = some (kc k)) (kl : KeyLaw P kt kc) (ht : P.underlying t = some (.map kt et)) (hz : zvOf P et = some z) (hm : IsMap h L b (mapObj kc ps)) :
    QOP P o fr h L ((mget k ps).getD z) :=
  ⟨fun c => by rw [hop]; simp, fun a ha w hw => by
    unfold execOp; rw [hop]
    simp only [ha x _ hx, ha y _ hy, Sem.run_bind, run_lookup kl ht hz (hm.get hw)]
    simp⟩
theorem Q_lookupOk {t kt et b : Nat} {x y : Operand} {k : κ} {ps : List (κ × Value)} {z : Value} (hop : o.op = .lookup t x y true) (hx : ev fr x = some (.map (some b))) (hy : ev fr y = some (kc k)) (kl : KeyLaw P kt kc) (ht : P.underlying t = some (.map kt et)) (hz : zvOf P et = some z) (hm : IsMap h L b (mapObj kc ps)) :
    QOP P o fr h L (.tuple #[(mget k ps).getD z, .bool (mget k ps).isSome]) :=
  ⟨fun c => by rw [hop]; simp, fun a ha w hw => by
    unfold execOp; rw [hop]
    simp only [ha x _ hx, ha y _ hy, Sem.run_bind, run_lookup kl ht hz (hm.get hw)]
    simp⟩
theorem C_makeMap {t : TypeId} (kc : κ → Value) (hop : o.op = .makeMap t none) (k : ∀ b, K h [(b, mapObj kc [])] (.map (some b))) : OPc P r o fr h L K :=
  OPc_new (ob := mapObj kc []) (fun c => by rw [hop]; simp) fun a ha w _ => ⟨fun b => .map (some b), by unfold execOp; rw [hop]; simp [Instr.makeMap, mapObj, ent], k _⟩
theorem W_mapUpdate {t kt et b : Nat} {x y z : Operand} {k : κ} {v : Value} {ps : List (κ × Value)} {L' : Hp} (hop : o.op = .mapUpdate t x y z) (hx : ev fr x = some (.map (some b))) (hy : ev fr y = some (kc k)) (hz : ev fr z = some v) (kl : KeyLaw P kt kc) (ht : P.underlying t = some (.map kt et))
    (hu : Upd b (mapObj kc ps) (mapObj kc (mput k v ps)) L L') (kk : K h L' undef) : OPw P r o fr h L K := by
  intro a ha w hw
  have hb := hw.sees.own _ hu.mem
  have hlt := hw.lt hu.mem
  have hset : ∀ ob, (setObj b ob).run P w = .ok () { w with heap := w.heap.setIfInBounds b ob } := fun ob => by simp only [setObj, Sem.run, hb, mapObj]
  have hrun : (Instr.mapUpdate t (.map (some b)) (kc k) v).run P w = .ok () { w with heap := w.heap.setIfInBounds b (mapObj kc (mput k v ps)) } := by
    unfold Instr.mapUpdate
    simp only [Sem.run_bind, run_underlying' ht, Result.andThen_ok, run_getObj_map hb]
    simp only [mapObj, kl.check, kl.find, Result.andThen_ok, Sem.run_bind]
    cases hf : fidx k 0 ps with
    | none =>
      obtain ⟨h1, h2⟩ := fidx_none kc k v ps 0 hf
      simp only [Nat.zero_add] at h1
      simp only [hset, h1, h2, List.push_toArray]
    | some p =>
      obtain ⟨i, u⟩ := p
      obtain ⟨_, h2, h3, h4⟩ := fidx_some kc k v ps 0 i u hf
      simp only [Nat.sub_zero] at h2 h4
      have hkey : (((ent kc 0 ps).toArray[i]?).map (·.key)).getD (kc k) = kc k := by simp [h4]
      have hstay : (Instr.keyThatStays (kc k) (kc k)).run P w = .ok (kc k) w := by
        unfold Instr.keyThatStays; rw [if_pos (kl.bits k)]; rfl
      simp only [hkey, Sem.run_bind, hstay, Result.andThen_ok, hset]
      congr 2
      simp only [← h2, h3, List.modify_toArray]
  refine wpIn_of_skip (w' := { w with heap := w.heap.setIfInBounds b (mapObj kc (mput k v ps)) }) (fun c => by rw [hop]; simp) ?_ ⟨h, L', undef, rfl, kk, Ext.set hw hu ?_ ?_ ?_ rfl rfl rfl rfl⟩
  · unfold execOp; rw [hop]
    simp [ha x _ hx, ha y _ hy, ha z _ hz, hrun]
  · simp [Array.getElem?_setIfInBounds, hlt]
  · intro j hj; simp [Array.getElem?_setIfInBounds_ne (Ne.symm hj)]
  · simp

/-! ### Ranging over a map that is not written meanwhile -/
def iterObj (mb n : Nat) (seen : List Nat) : Obj := .mapIter (some mb) n seen.toArray n
theorem C_range {t kt et b : Nat} {x : Operand} {ps : List (κ × Value)} (hop : o.op = .range t x) (hx : ev fr x = some (.map (some b))) (ht : P.underlying t = some (.map kt et)) (hm : IsMap h L b (mapObj kc ps)) (k : ∀ ib, K h [(ib, iterObj b ps.length [])] (ptr ib 0)) : OPc P r o fr h L K :=
  OPc_new (ob := iterObj b ps.length []) (fun c => by rw [hop]; simp) fun a ha w hw => ⟨fun ib => ptr ib 0, by
    have hb := hm.get hw.sees
    unfold execOp; rw [hop]
    simp only [ha x _ hx, Instr.range, Sem.run_bind, run_underlying' ht, Result.andThen_ok, run_getObj_map hb]
    simp [mapObj, iterObj], k _⟩
theorem W_next {b ib : Nat} {x : Operand} {ps : List (κ × Value)} {seen : List Nat} (LF : Obj → Hp) (hop : o.op = .next x false) (hx : ev fr x = some (ptr ib 0)) (hm : IsMap h L b (mapObj kc ps)) (hu : ∀ ob, Upd ib (iterObj b ps.length seen) ob L (LF ob))
    (k1 : ∀ (i : Nat) (k : κ) (v : Value), ps[i]? = some (k, v) → i ∉ seen → K h (LF (iterObj b ps.length (seen ++ [i]))) (.tuple #[.bool true, kc k, v]))
    (k2 : (∀ i, i < ps.length → i ∈ seen) → K h L (.tuple #[.bool false])) : OPw P r o fr h L K := by
  intro a ha w hw
  have hb := hm.get hw.sees
  have hib := hw.sees.own _ (hu (iterObj b ps.length seen)).mem
  have hlt := hw.lt (hu (iterObj b ps.length seen)).mem
  have hget : (getObj ib).run P w = .ok (iterObj b ps.length seen) w := by simp [getObj, Sem.run, hib, iterObj]
  have hd : ∀ c, o.op ≠ .defer c := fun c => by rw [hop]; simp
  -- the entries that are left
  let es := ent kc 0 ps
  have hborn : ∀ e ∈ es, ∃ i k v, ps[i]? = some (k, v) ∧ e = ⟨kc k, v, i⟩ := by
    intro e he
    obtain ⟨i, hi, rfl⟩ := List.getElem_of_mem he
    have hg : es[i]? = some es[i] := by simp [hi]
    have hg2 := ent_get kc ps 0 i
    rw [show ent kc 0 ps = es from rfl, hg] at hg2
    cases hp : ps[i]? with
    | none => rw [hp] at hg2; cases hg2
    | some p => rw [hp] at hg2; simp at hg2; exact ⟨i, p.1, p.2, by simp [hp], hg2⟩
  have hlen : es.length = ps.length := ent_length kc ps 0
  have hilt : ∀ (i : Nat) (k : κ) (v : Value), ps[i]? = some (k, v) → i < ps.length := fun i k v hp => (List.getElem?_eq_some_iff.1 hp).1
  let left := es.toArray.filter fun e => !seen.toArray.contains e.born
  have hold : left.filter (fun e => e.born < ps.length) = left := by
    rw [Array.filter_eq_self]
    intro e he
    obtain ⟨he1, _⟩ := Array.mem_filter.1 he
    obtain ⟨i, k, v, hp, rfl⟩ := hborn e (by simpa using he1)
    simpa using hilt i k v hp
  have hnew : left.filter (fun e => e.born ≥ ps.length) = #[] := by
    rw [Array.filter_eq_empty_iff]
    intro e he
    obtain ⟨he1, _⟩ := Array.mem_filter.1 he
    obtain ⟨i, k, v, hp, rfl⟩ := hborn e (by simpa using he1)
    simpa using hilt i k v hp
  have hcond : (!seen.toArray.isEmpty && !es.toArray.isEmpty && es.toArray.all (·.born ≥ ps.length)) = false := by
    cases hes : es with
    | nil => simp
    | cons e es' =>
      obtain ⟨i, k, v, hp, rfl⟩ := hborn e (by simp [hes])
      have := hilt i k v hp
      have hnot : ¬ ps.length ≤ i := by omega
      simp [hnot]
  have hset : ∀ (w1 : World) (ob : Obj), w1.heap = w.heap → (setObj ib ob).run P w1 = .ok () { w1 with heap := w1.heap.setIfInBounds ib ob } := fun w1 ob e => by simp only [setObj, Sem.run, e, hib, iterObj]
  -- what 'next' comes to
  have hstep : ∀ (q : Nat) (w1 : World) (cand : Option MapEntry), (choose (.mapNext ((if left.isEmpty then #[none] else #[]) ++ left.map some).size)).run P w = .ok q w1 → ((if left.isEmpty then #[none] else #[]) ++ left.map some)[q]? = some cand →
      (execOp a.eval o).run P w = (match cand with
        | some e => .ok (.value (.tuple #[.bool true, e.key, e.val])) { w1 with heap := w1.heap.setIfInBounds ib (iterObj b ps.length (seen ++ [e.born])) }
        | none => .ok (.value (.tuple #[.bool false])) w1) ∨ w1.heap ≠ w.heap := by
    intro q w1 cand hq hc
    by_cases hh : w1.heap = w.heap
    · left
      unfold execOp; rw [hop]
      simp only [ha x _ hx, Instr.next, Sem.run_bind, hget, Result.andThen_ok]
      simp only [iterObj, Sem.run_bind, run_getObj_map hb, Result.andThen_ok]
      simp only [mapObj]
      rw [show ent kc 0 ps = es from rfl]
      simp only [hcond, Bool.false_eq_true, if_false, Sem.run_bind, Sem.run_pure, Result.andThen_ok]
      rw [show (es.toArray.filter fun e => !seen.toArray.contains e.born) = left from rfl]
      simp only [hold, hnew, Array.append_empty, hq, Result.andThen_ok, hc]
      cases cand with
      | none => simp
      | some e => simp [hset w1 _ hh, iterObj]
    · exact .inr hh
  have hne : 0 < ((if left.isEmpty then #[none] else #[]) ++ left.map some).size := by
    by_cases hl : left.isEmpty = true
    · rw [if_pos hl]; simp; omega
    · rw [if_neg hl]
      have : left.size ≠ 0 := by simpa [Array.isEmpty] using hl
      simp; omega
  -- the draw
  obtain ⟨q, w1, hq, hqlt, hw1, ho1, ht1, hp1, hn1⟩ : ∃ (q : Nat) (w1 : World), (choose (.mapNext ((if left.isEmpty then #[none] else #[]) ++ left.map some).size)).run P w = .ok q w1 ∧ q < ((if left.isEmpty then #[none] else #[]) ++ left.map some).size ∧ w1.heap = w.heap ∧ w1.os = w.os ∧ w1.tape = w.tape ∧ w1.output = w.output ∧ w.drawn ≤ w1.drawn := by
    generalize ((if left.isEmpty then #[none] else #[]) ++ left.map some).size = n at hne ⊢
    simp only [choose, Sem.run]
    by_cases hf : (Question.mapNext n).forced = true
    · rw [if_pos hf]; exact ⟨0, w, rfl, hne, rfl, rfl, rfl, rfl, Nat.le_refl _⟩
    · rw [if_neg hf]; exact ⟨_, _, rfl, Nat.mod_lt _ hne, rfl, rfl, rfl, rfl, Nat.le_succ _⟩
  obtain ⟨cand, hc⟩ : ∃ cand, ((if left.isEmpty then #[none] else #[]) ++ left.map some)[q]? = some cand := ⟨_, Array.getElem?_eq_getElem hqlt⟩
  have hex := (hstep q w1 cand hq hc).resolve_right (by simp [hw1])
  have hmem : cand ∈ ((if left.isEmpty then #[none] else #[]) ++ left.map some) := Array.mem_of_getElem? hc
  have hsame := Ext.same hw hw1 ho1 ht1 hp1 hn1
  cases cand with
  | none =>
    have hem : left.isEmpty = true := by
      cases hl : left.isEmpty with
      | true => rfl
      | false => rw [hl] at hmem; simp at hmem
    refine wpIn_of_value hd hex ⟨h, L, _, rfl, k2 fun i hi => ?_, hsame⟩
    by_cases hin : i ∈ seen
    · exact hin
    · exfalso
      have hg := ent_get kc ps 0 i
      have hp : ps[i]? = some ps[i] := by simp [hi]
      rw [hp] at hg
      simp only [Option.map_some, Nat.zero_add] at hg
      have hm1 : (⟨kc ps[i].1, ps[i].2, i⟩ : MapEntry) ∈ left := by
        refine Array.mem_filter.2 ⟨?_, by simpa using hin⟩
        have := List.mem_of_getElem? hg
        simpa using this
      have hz : left = #[] := by simpa using hem
      rw [hz] at hm1
      simp at hm1
  | some e =>
    have hel : e ∈ left := by
      rcases Array.mem_append.1 hmem with h1 | h1
      · cases hl : left.isEmpty <;> rw [hl] at h1 <;> simp at h1
      · simpa using h1
    obtain ⟨he1, he2⟩ := Array.mem_filter.1 hel
    obtain ⟨i, k, v, hp, rfl⟩ := hborn e (by simpa using he1)
    have hin : i ∉ seen := by simpa using he2
    refine wpIn_of_value hd hex ⟨h, _, _, rfl, k1 i k v hp hin, hsame.trans (Ext.set hsame.holds (hu _) ?_ ?_ ?_ rfl rfl rfl rfl)⟩
    · rw [Array.getElem?_setIfInBounds]; simp [hw1, hlt]
    · intro j hj; simp [Array.getElem?_setIfInBounds_ne (Ne.symm hj)]
    · simp
theorem Q_entry {b ib : Nat} {x : Operand} {ps : List (κ × Value)} {seen : List Nat} {i : Nat} {k : κ} {v : Value} (hop : o.op = .entry x) (hx : ev fr x = some (ptr ib 0)) (hm : IsMap h L b (mapObj kc ps)) (hi : (ib, iterObj b ps.length (seen ++ [i])) ∈ L) (hp : ps[i]? = some (k, v)) :
    QOP P o fr h L (.tuple #[kc k, v]) :=
  ⟨fun c => by rw [hop]; simp, fun a ha w hw => by
    have hb := hm.get hw
    have hib := hw.own _ hi
    have hget : (getObj ib).run P w = .ok (iterObj b ps.length (seen ++ [i])) w := by simp [getObj, Sem.run, hib, iterObj]
    have hfind : ∀ (ps : List (κ × Value)) (j i : Nat) (k : κ) (v : Value), ps[i]? = some (k, v) → (ent kc j ps).find? (fun e => e.born == j + i) = some ⟨kc k, v, j + i⟩ := by
      intro ps
      induction ps with
      | nil => intro j i k v e; simp at e
      | cons p ps ih =>
        intro j i k v e
        cases i with
        | zero => simp at e; subst e; simp [ent]
        | succ i =>
          have := ih (j + 1) i k v (by simpa using e)
          have hne : ¬ (j = j + (i + 1)) := by omega
          rw [show j + 1 + i = j + (i + 1) by omega] at this
          simp [ent, hne, this]
    have hf := hfind ps 0 i k v hp
    simp only [Nat.zero_add] at hf
    unfold execOp; rw [hop]
    simp only [ha x _ hx, Instr.entry, Sem.run_bind, hget, Result.andThen_ok]
    simp only [iterObj, Sem.run_bind, run_getObj_map hb, Result.andThen_ok]
    simp [run_getObj_map hb, mapObj, hf]⟩
end
end Go.Mesh
/-
  RANGES OVER FUNCTIONS: what a call of yield comes to; an iterator's contract; the statement; a function that holds such a statement.
-/
set_option linter.all false
namespace Go.Mesh
open Go.RowKit

section
variable {P : Program} {r : Option Nat} {N : Nat} {h : Frag} {L : Hp} {D : List Nat} {fr : Fr} {o : Oper} {K : OCont}

def YSpec (P : Program) (l : Nat) (args : Array Value) (h : Frag) (L : Hp) (R : OCont) : Prop :=
  ∀ w, Holds h L w → ∃ fn tmps assign body, (Instr.yield l args).run P w = .ok (.round l fn tmps assign body) w ∧
    RoundIn (FW none) 0 P l fn tmps assign body w (fun e w' => ∃ v h' L', e = .returned v ∧ R h' L' v ∧ Ext h L w h' L' w')

theorem OPw_yield {c : Call} {l : Nat} {fo : Operand} {vs : List Value} {R : OCont} (hop : o.op = .call c) (hc : c.callee = .value fo) (hf : ev fr fo = some (.func (.yield l) #[] #[])) (hvs : evs fr c.args.toList vs)
    (x : YSpec P l vs.toArray h L R) (k : ∀ h' L' v, le h h' → R h' L' v → K h' L' v) : OPw P r o fr h L K := by
  intro a ha w hw
  have hd : ∀ c', o.op ≠ .defer c' := fun c' => by rw [hop]; simp
  have hargs : c.args.map a.eval = vs.toArray := evs_map' ha hvs
  obtain ⟨fn, tmps, assign, body, hy, hr⟩ := x w hw
  have hrun : (execOp a.eval o).run P w = .ok (.round l fn tmps assign body) w := by
    unfold execOp
    rw [hop]
    simp only [Sem.run_bind, resolve, hc, hargs, ha fo _ hf, Deferred.ofValue, Sem.run_pure, Result.andThen_ok, invoke]
    simpa using hy
  refine ⟨fun _ _ => trivial, ?_⟩
  rw [Oper.semAt_eq _ _ _ hd, hrun]
  refine ⟨fun e => by simp [FW] at e, ?_⟩
  have hr' : RoundIn (FW r) 0 P l fn tmps assign body w (fun e w' => ∃ v h' L', e = .returned v ∧ R h' L' v ∧ Ext h L w h' L' w') := hr
  refine hr'.mono fun e w' ⟨v, h', L', he, q, y⟩ => ?_
  subst he
  exact ⟨h', L', v, rfl, k _ _ _ y.le q, y⟩

/-- An iterator: it hands the items to yield, one after the other, until yield says no. -/
def Iter {α : Type} (P : Program) (g : FuncId) (cap : Array Value) (h : Frag) (enc : Frag → α → Array Value → Prop) (items : List α) : Prop :=
  ∀ (l : Nat) (J : List α → Frag → Hp → Prop) (Jx : Frag → Hp → Prop) (h0 : Frag) (L0 : Hp), le h h0 →
    (∀ pre x vals h' L', le h0 h' → J pre h' L' → (pre ++ [x]) <+: items → enc h' x vals → YSpec P l vals h' L' (fun h'' L'' v => (v = .bool true ∧ J (pre ++ [x]) h'' L'') ∨ (v = .bool false ∧ Jx h'' L''))) →
    J [] h0 L0 → FSpec P g (#[.func (.yield l) #[] #[]] ++ cap) h0 L0 (fun h' L' _ => J items h' L' ∨ Jx h' L')

theorem WP.framed {c : Code} {Q : Post} (M : Hp) (x : WP P r N c h L D fr Q) : WP P r N c h (L ++ M) D fr (fun e h' L' D' fr' => ∃ L1, L' = L1 ++ M ∧ Q e h' L1 D' fr') :=
  fun a w fa hw => wpIn_mono (x a w fa (hw.drop (List.sublist_append_left _ _))) fun _ _ _ ⟨h', L', D', fr', q, f, e⟩ => ⟨h', L' ++ M, D', fr', ⟨L', rfl, q⟩, f, e.framed hw⟩

/-- The slots of the loop's variables. -/
def parFr (fr : Fr) : List Tmp → List Value → Fr
  | t :: ts, v :: vs => parFr ((t, v) :: fr) ts vs
  | _, _ => fr
def parOk (N : Nat) : List Tmp → Bool
  | [] => true
  | t :: ts => Nat.blt t N && parOk N ts
theorem parFr_ok {N : Nat} {D : List Nat} : ∀ (ts : List Tmp) (vs : List Value) (fr : Fr) (a : Act), ts.length = vs.length → parOk N ts = true → FrOk N D fr a →
    FrOk N D (parFr fr ts vs) { a with tmps := ((ts.zip vs).foldl (fun tmps (p : Tmp × Value) => tmps.setIfInBounds p.1 p.2) a.tmps) }
  | [], [], fr, a, _, _, f => f
  | t :: ts, v :: vs, fr, a, hl, hp, f => by
    simp only [parOk, Bool.and_eq_true] at hp
    have := parFr_ok ts vs ((t, v) :: fr) (a.put (some t) v) (by simpa using hl) hp.2 (f.put (dst := some t) hp.1 v)
    simpa [parFr, Act.put] using this
  | [], _ :: _, _, _, hl, _, _ => by simp at hl
  | _ :: _, [], _, _, hl, _, _ => by simp at hl

/-- How a round may be left. -/
def jumpOf : Exit → Option Code
  | .ret => some .ret
  | .exit id => some (.exit id)
  | _ => none
/-- What a round must come to. -/
def bodyQ {α : Type} (I : List α → Frag → Hp → Prop) (Ix : Exit → Frag → Hp → Prop) (pre : List α) : Post := fun e h' L' _ _ => match e with
  | .normal => I pre h' L'
  | .ret => Ix .ret h' L'
  | .exit id => Ix (.exit id) h' L'
  | _ => False

def recO (fn : FuncId) (tmps : Array Value) (ps : Array Tmp) (assign body : Code) (d : Nat) (st : LoopState) (pend : Option Code) : Obj := .loop { state := st, pending := pend, fn, tmps, params := ps, assign, body, defers := d }

theorem run_getObj_loop {w : World} {l : Nat} {rec : Loop} (hl : w.heap[l]? = some (.loop rec)) : (Instr.getLoop l).run P w = .ok rec w := by
  unfold Instr.getLoop
  simp [getObj, Sem.run, hl]
theorem run_setObj_loop {w : World} {l : Nat} {rec : Loop} {ob : Obj} (hl : w.heap[l]? = some (.loop rec)) : (setObj l ob).run P w = .ok () { w with heap := w.heap.setIfInBounds l ob } := by
  simp [setObj, Sem.run, hl]
theorem Ext.setLast {M : Hp} {l : Nat} {o o' : Obj} {w : World} (hw : Holds h (L ++ (l, o) :: M) w) : Ext h (L ++ (l, o) :: M) w h (L ++ (l, o') :: M) { w with heap := w.heap.setIfInBounds l o' } := by
  have hlt := hw.lt (p := (l, o)) (by simp)
  refine Ext.set hw (b := l) (o := o) (o' := o') ⟨L, M, rfl, rfl⟩ ?_ ?_ ?_ rfl rfl rfl rfl
  · simp at hlt; simp [hlt]
  · intro j hj; simp [Array.getElem?_setIfInBounds_ne (Ne.symm hj)]
  · simp

theorem WP_rangeFunc {α : Type} {go : Operand} {ps : Array Tmp} {assign body : Code} {g : FuncId} {cap : Array Value} {fn : Func} {enc : Frag → α → Array Value → Prop} {items : List α} {Q : Post}
    (hf : ev fr go = some (.func (.func g) #[] cap)) (hfn : P.funcs[g]? = some fn) (hn : fn.name ≠ "runtime.NumGoroutine") (hb : fn.body.isSome = true) (it : Iter P g cap h enc items) (henc : ∀ h x vals, enc h x vals → vals.size = ps.size) (hps : parOk N ps.toList = true)
    (I : List α → Frag → Hp → Prop) (Ix : Exit → Frag → Hp → Prop) (h0 : I [] h L)
    (round : ∀ l pre x vals h' L', le h h' → I pre h' L' → (pre ++ [x]) <+: items → enc h' x vals → WP P (some l) N assign h' L' [] (parFr fr ps.toList vals.toList)
      (thenQ (fun h'' L'' D'' fr'' => D'' = [] ∧ WP P (some l) N body h'' L'' [] fr'' (bodyQ I Ix (pre ++ [x]))) (fun _ _ _ _ _ => False)))
    (done : ∀ d h' L', le h h' → I items h' L' → Q .normal h' (L' ++ [(d, .deferred (some []))]) (d :: D) fr)
    (left : ∀ d e h' L', le h h' → Ix e h' L' → (jumpOf e).isSome = true → Q e h' (L' ++ [(d, .deferred (some []))]) (d :: D) fr) : WP P none N (.rangeFunc go ps assign body) h L D fr Q := by
  intro a w fa hw
  refine wpIn_rangeFunc fun fnid _ => ?_
  -- the block for deferred calls, the record
  let d := w.heap.size
  let w1 : World := { w with heap := w.heap.push (.deferred (some [])) }
  have e1 := Ext.alloc hw (.deferred (some []))
  let l := w1.heap.size
  let w2 : World := { w1 with heap := w1.heap.push (recO fnid a.tmps ps assign body d .ready none) }
  have e2 := Ext.alloc e1.holds (recO fnid a.tmps ps assign body d .ready none)
  have e12 : Ext h L w h (L ++ [(l, recO fnid a.tmps ps assign body d .ready none), (d, .deferred (some []))]) w2 :=
    (e1.trans e2).perm (L2 := L ++ [(l, recO fnid a.tmps ps assign body d .ready none), (d, .deferred (some []))]) (List.perm_append_comm (l₁ := L) (l₂ := [(l, recO fnid a.tmps ps assign body d .ready none), (d, .deferred (some []))]))
  refine ⟨l, [{ target := .collected d, args := #[] }], w2, { target := .fn (.func g) cap, args := #[.func (.yield l) #[] #[]] }, w2, g, #[.func (.yield l) #[] #[]] ++ cap, w2, ?_, ?_, fun _ _ => trivial, ?_, fun e => by simp [FW] at e, ?_⟩
  · show (Instr.enterLoop fnid a.tmps ps assign body none).run P w = _
    simp [Instr.enterLoop, recO, d, w1, w2, l]
  · have hgo := fa.eval hf
    have hconst : ∀ v, a.eval (.const v) = v := fun _ => rfl
    simp [resolve, rangeCall, hgo, Deferred.ofValue, hconst]
  · have hbn : fn.body.isNone = false := by
      cases hx : fn.body with
      | none => rw [hx] at hb; cases hb
      | some _ => rfl
    simp only [invoke, callFunc, Sem.run_bind, run_program, Result.andThen_ok, hfn]
    simp [hn, hbn]
  -- the iterator
  let J : List α → Frag → Hp → Prop := fun pre h' L' => ∃ Lu, L' = Lu ++ [(l, recO fnid a.tmps ps assign body d .ready none), (d, .deferred (some []))] ∧ I pre h' Lu
  let Jx : Frag → Hp → Prop := fun h' L' => ∃ e Lu c, jumpOf e = some c ∧ L' = Lu ++ [(l, recO fnid a.tmps ps assign body d .done (some c)), (d, .deferred (some []))] ∧ Ix e h' Lu
  have hcall := it l J Jx h (L ++ [(l, recO fnid a.tmps ps assign body d .ready none), (d, .deferred (some []))]) (le_refl h) ?_ ⟨L, rfl, h0⟩
  · refine callsIn_FW ((hcall w2 e12.holds).mono fun e w3 ⟨v, h3, L3, he, q, x3⟩ => ?_)
    subst he
    have e3 := e12.trans x3
    rcases q with ⟨Lu, rfl, hi⟩ | ⟨ex, Lu, c, hj, rfl, hi⟩
    · have hl3 := x3.holds.sees.own (l, recO fnid a.tmps ps assign body d .ready none) (by simp)
      have e4 := Ext.setLast (o' := recO fnid a.tmps ps assign body d .exhausted none) x3.holds
      refine ⟨none, { w3 with heap := w3.heap.setIfInBounds l (recO fnid a.tmps ps assign body d .exhausted none) }, ?_, ?_⟩
      · simp only [Instr.endLoop, Sem.run_bind, run_getObj_loop hl3, Result.andThen_ok, recO]
        simp [run_setObj_loop hl3]
      · have e5 := (e3.trans e4).drop (L2 := Lu ++ [(d, .deferred (some []))]) (List.Sublist.append (List.Sublist.refl _) (List.Sublist.cons _ (List.Sublist.refl _)))
        refine ⟨h3, Lu ++ [(d, .deferred (some []))], d :: D, fr, done d h3 Lu e3.le hi, ⟨?_, fa.size, fa.slots⟩, e5⟩
        simp [fa.defers, marks]
    · have hl3 := x3.holds.sees.own (l, recO fnid a.tmps ps assign body d .done (some c)) (by simp)
      have e4 := Ext.setLast (o' := recO fnid a.tmps ps assign body d .exhausted (some c)) x3.holds
      refine ⟨some c, { w3 with heap := w3.heap.setIfInBounds l (recO fnid a.tmps ps assign body d .exhausted (some c)) }, ?_, ?_⟩
      · simp only [Instr.endLoop, Sem.run_bind, run_getObj_loop hl3, Result.andThen_ok, recO]
        simp [run_setObj_loop hl3]
      · have e5 := (e3.trans e4).drop (L2 := Lu ++ [(d, .deferred (some []))]) (List.Sublist.append (List.Sublist.refl _) (List.Sublist.cons _ (List.Sublist.refl _)))
        have hq := left d ex h3 Lu e3.le hi (by rw [hj]; rfl)
        have hfr : FrOk N (d :: D) fr { a with defers := [{ target := .collected d, args := #[] }] ++ a.defers } := ⟨by simp [fa.defers, marks], fa.size, fa.slots⟩
        cases ex <;> simp only [jumpOf, Option.some.injEq] at hj <;> try (cases hj)
        · exact wpIn_exit ⟨h3, _, d :: D, fr, hq, hfr, e5⟩
        · exact wpIn_ret ⟨h3, _, d :: D, fr, hq, hfr, e5⟩
  -- a round
  · rintro pre x vals h' L' hle ⟨Lu, rfl, hi⟩ hpre hev wy hwy
    have hl := hwy.sees.own (l, recO fnid a.tmps ps assign body d .ready none) (by simp)
    refine ⟨fnid, (ps.zip vals).foldl (fun tmps (t, v) => tmps.setIfInBounds t v) a.tmps, assign, body, ?_, ?_⟩
    · simp only [Instr.yield, Sem.run_bind, run_getObj_loop hl, Result.andThen_ok, henc _ _ _ hev]
      simp
    · refine roundIn_of_wpIn trivial ?_
      have hround := (round l pre x vals h' Lu hle hi hpre hev).framed [(l, recO fnid a.tmps ps assign body d .ready none), (d, .deferred (some []))]
      have hfa : FrOk N [] (parFr fr ps.toList vals.toList) { tmps := (ps.zip vals).foldl (fun tmps (t, v) => tmps.setIfInBounds t v) a.tmps, defers := [] } := by
        have h1 := parFr_ok (N := N) (D := []) ps.toList vals.toList fr { tmps := a.tmps, defers := [] } (by have := henc _ _ _ hev; simp [this]) hps ⟨rfl, fa.size, fa.slots⟩
        have h2 : (ps.zip vals).foldl (fun tmps (p : Tmp × Value) => tmps.setIfInBounds p.1 p.2) a.tmps = ((ps.toList.zip vals.toList).foldl (fun tmps (p : Tmp × Value) => tmps.setIfInBounds p.1 p.2) a.tmps) := by
          rw [← Array.foldl_toList]; simp
        show FrOk N [] _ ⟨(ps.zip vals).foldl (fun tmps (p : Tmp × Value) => tmps.setIfInBounds p.1 p.2) a.tmps, []⟩
        rw [h2]; exact h1
      refine wpIn_mono (hround _ wy hfa hwy) fun e a1 w3 ⟨h1, L1, D1, fr1, ⟨Lu1, eL1, q⟩, f1, x1⟩ => ?_
      subst eL1
      cases e with
      | normal =>
        obtain ⟨rfl, q⟩ := q
        have hl1 := x1.holds.sees.own (l, recO fnid a.tmps ps assign body d .ready none) (by simp)
        have eb := Ext.setLast (o' := recO fnid a.tmps ps assign body d .busy none) x1.holds
        refine ⟨{ w3 with heap := w3.heap.setIfInBounds l (recO fnid a.tmps ps assign body d .busy none) }, ?_, ?_⟩
        · simp only [Instr.beginRound, Sem.run_bind, run_getObj_loop hl1, Result.andThen_ok, recO]
          simp [run_setObj_loop hl1]
        · have hbody := q.framed [(l, recO fnid a.tmps ps assign body d .busy none), (d, .deferred (some []))]
          refine wpIn_mono (hbody a1 _ f1 eb.holds) fun e a2 w4 ⟨h2, L2, D2, fr2, ⟨Lu2, eL2, q2⟩, f2, x2⟩ => ?_
          subst eL2
          have hl2 := x2.holds.sees.own (l, recO fnid a.tmps ps assign body d .busy none) (by simp)
          have tot := (x1.trans eb).trans x2
          cases e with
          | normal =>
            have ee := Ext.setLast (o' := recO fnid a.tmps ps assign body d .ready none) x2.holds
            refine ⟨.bool true, { w4 with heap := w4.heap.setIfInBounds l (recO fnid a.tmps ps assign body d .ready none) }, ?_, ⟨_, h2, _, rfl, .inl ⟨rfl, Lu2, rfl, q2⟩, tot.trans ee⟩⟩
            simp only [Instr.endRound, Sem.run_bind, run_getObj_loop hl2, Result.andThen_ok, recO]
            simp [run_setObj_loop hl2]
          | ret =>
            have ee := Ext.setLast (o' := recO fnid a.tmps ps assign body d .done (some .ret)) x2.holds
            refine ⟨.bool false, { w4 with heap := w4.heap.setIfInBounds l (recO fnid a.tmps ps assign body d .done (some .ret)) }, ?_, ⟨_, h2, _, rfl, .inr ⟨rfl, .ret, Lu2, .ret, rfl, rfl, q2⟩, tot.trans ee⟩⟩
            simp only [Instr.endRound, Sem.run_bind, run_getObj_loop hl2, Result.andThen_ok, recO]
            simp [run_setObj_loop hl2]
          | exit id =>
            have ee := Ext.setLast (o' := recO fnid a.tmps ps assign body d .done (some (.exit id))) x2.holds
            refine ⟨.bool false, { w4 with heap := w4.heap.setIfInBounds l (recO fnid a.tmps ps assign body d .done (some (.exit id))) }, ?_, ⟨_, h2, _, rfl, .inr ⟨rfl, .exit id, Lu2, .exit id, rfl, rfl, q2⟩, tot.trans ee⟩⟩
            simp only [Instr.endRound, Sem.run_bind, run_getObj_loop hl2, Result.andThen_ok, recO]
            simp [run_setObj_loop hl2]
          | goto t => exact q2.elim
          | panic ch => exact q2.elim
          | outgrown => exact q2.elim
      | ret => exact q.elim
      | exit id => exact q.elim
      | goto t => exact q.elim
      | panic ch => exact q.elim
      | outgrown => exact q.elim

/-! ### A function that holds such a statement -/
def dObj (d : Nat) : Nat × Obj := (d, .deferred (some []))
theorem leavesM {fn : Func} {R : Ending → World → Prop} {tmps : Array Value} : ∀ (D : List Nat) (h : Frag) (L2 : Hp) (w0 w : World) (h0 : Frag) (L0 : Hp), Ext h0 L0 w0 h (L2 ++ D.map dObj) w →
    (∀ w', Ext h0 L0 w0 h L2 w' → ∃ v, (results fn tmps).run P w' = .ok v w' ∧ R (.returned v) w') → LeavesInM (FW none) 0 P fn tmps R (marks D) .returning w := by
  intro D
  induction D with
  | nil => intro h L2 w0 w h0 L0 e k; exact k w (by simpa using e)
  | cons d D ih =>
    intro h L2 w0 w h0 L0 e k
    have hd := e.holds.sees.own (d, .deferred (some [])) (by simp [dObj])
    have e2 := Ext.setLast (L := L2) (M := D.map dObj) (l := d) (o := .deferred (some [])) (o' := .deferred none) (by simpa [dObj] using e.holds)
    refine ⟨by simp, .inl ⟨d, { w with heap := w.heap.setIfInBounds d (.deferred none) }, rfl, ?_, ?_⟩⟩
    · simp [Instr.takeDeferred, getObj, setObj, Sem.run, hd]
    · refine ih h L2 w0 _ h0 L0 ?_ k
      have e3 : Ext h0 L0 w0 h (L2 ++ (d, .deferred none) :: D.map dObj) { w with heap := w.heap.setIfInBounds d (.deferred none) } := by
        have e' : Ext h0 L0 w0 h (L2 ++ (d, .deferred (some [])) :: D.map dObj) w := by simpa [dObj] using e
        exact e'.trans e2
      exact e3.drop (List.Sublist.append (List.Sublist.refl _) (List.Sublist.cons _ (List.Sublist.refl _)))

def retM (P : Program) (fn : Func) (R : OCont) : Post := fun e h' L' D' fr' => (e = .ret ∨ e = .normal) ∧ ∃ vs L2, L' = L2 ++ D'.map dObj ∧ resVals P h' L2 fr' fn.results.toList vs ∧ ∀ w, Holds h' L2 w → ∃ h3 L3, Ext h' L2 w h3 L3 w ∧ R h3 L3 (resOf vs)
theorem spec_ofM {f : FuncId} {fn : Func} {c : Code} {vs : List Value} {args : Array Value} {R : OCont} (hf : P.funcs[f]? = some fn) (hn : fn.ntmps = N) (hb : fn.body = some c) (ha : args = vs.toArray) (hN : Nat.ble vs.length N = true)
    (x : WP P none N c h L [] (argFr vs 0) (retM P fn R)) : FSpec P f args h L R := by
  subst hn; subst ha
  intro w hw
  have hN' : vs.length ≤ fn.ntmps := Nat.le_of_ble_eq_true hN
  have key : ∀ (e : Exit) (a' : Act) (w' : World), lift fn.ntmps h L w (retM P fn R) e a' w' → bodyPostM (FW none) 0 P fn (fun e w' => ∃ v h' L', e = .returned v ∧ R h' L' v ∧ Ext h L w h' L' w') e a' w' := by
    rintro e a' w' ⟨h', L', D', fr', ⟨he, us, L2, rfl, hr, q⟩, fa, y⟩
    have hlv := leavesM (P := P) (fn := fn) (tmps := a'.tmps) (R := fun e w' => ∃ v h' L', e = .returned v ∧ R h' L' v ∧ Ext h L w h' L' w') D' h' L2 w w' h L y (fun w2 e2 => ⟨resOf us, results_eq (N := fn.ntmps) (D := D') (fr := fr') (a := a') fa e2.holds.sees hr, by obtain ⟨h3, L3, e3, q⟩ := q w2 e2.holds; exact ⟨_, h3, L3, rfl, q, e2.trans e3⟩⟩)
    have hdf := fa.defers
    rcases he with he | he <;> subst he <;> simp only [bodyPostM] <;> rw [hdf] <;> exact hlv
  refine calls_of_FW (r := none) (n := 0) (callsIn_of_wp_marks hf hb trivial (wpIn_mono (x _ w ⟨rfl, by simp; omega, fun i v e => ?_⟩ hw) key) rfl)
  obtain ⟨_, h2⟩ := argFr_get vs 0 i v e
  simp only [Nat.sub_zero] at h2
  have hlt := (List.getElem?_eq_some_iff.1 h2).1
  rw [Array.getElem?_append_left (by simpa using hlt)]
  simpa using h2
end
end Go.Mesh
/-
  MORE RULES FOR SCRIPTS: calls of functions that need nothing owned; a test that is not decided yet; a cut.
-/
set_option linter.all false
namespace Go.Mesh
open Go.RowKit

def callOk (P : Program) (f : FuncId) : Bool := match P.funcs[f]? with | some fn => fn.name != "runtime.NumGoroutine" && fn.body.isSome | none => false
theorem callOk_spec {P : Program} {f : FuncId} (hc : callOk P f = true) : ∃ fn, P.funcs[f]? = some fn ∧ fn.name ≠ "runtime.NumGoroutine" ∧ fn.body.isSome = true := by
  unfold callOk at hc
  cases hf : P.funcs[f]? with
  | none => rw [hf] at hc; cases hc
  | some fn =>
    rw [hf] at hc
    simp only [Bool.and_eq_true, bne_iff_ne] at hc
    exact ⟨fn, rfl, hc.1, hc.2⟩

/-- A contract of a function that needs nothing owned and leaves nothing owned. -/
def PSpec (P : Program) (f : FuncId) (args : Array Value) (h : Frag) (R : Frag → Value → Prop) : Prop := FSpec P f args h [] (fun h' L' v => L' = [] ∧ R h' v)

theorem Ext.forget {h h' : Frag} {L L' : Hp} {w w' : World} (x : Ext h L w h' L' w') : Ext h L w h L' w' where
  le := le_refl h
  holds := ⟨⟨fun b o e => x.holds.sees.pers b o (x.le b o e), x.holds.sees.own⟩, x.holds.nodup, fun p hp => by
    cases hh : h p.1 with
    | none => rfl
    | some o => have := x.le _ _ hh; rw [x.holds.apart p hp] at this; cases this⟩
  size := x.size
  frame := x.frame
  persNew := fun b o e => .inl e
  ownNew := x.ownNew
  os := x.os
  tape := x.tape
  output := x.output
  drawn := x.drawn

section
variable {P : Program} {r : Option Nat} {N : Nat} {h : Frag} {L : Hp} {D : List Nat} {fr : Fr} {o : Oper} {K : OCont} {ops : Array Oper} {rest : List Oper} {C : Frag → Hp → Fr → Prop} {Q : Post}

theorem PSpec.mono {f : FuncId} {args : Array Value} {R R' : Frag → Value → Prop} (x : PSpec P f args h R) (hr : ∀ h' v, le h h' → R h' v → R' h' v) : PSpec P f args h R' :=
  FSpec.mono x fun h' L' v hl ⟨e, q⟩ => ⟨e, hr h' v hl q⟩

theorem C_call {c : Call} {f : FuncId} {vs : List Value} {R : Frag → Value → Prop} (x : PSpec P f vs.toArray h R) (hop : o.op = .call c) (hc : c.callee = .value (.func f)) (hvs : evs fr c.args.toList vs) (hcal : callOk P f = true) (k : ∀ h' v, le h h' → R h' v → K h' [] v) : OPc P r o fr h L K := by
  obtain ⟨fn, hfn, hn, hb⟩ := callOk_spec hcal
  exact OPc_call (first := #[]) (cap := #[]) (R := fun h' L' v => L' = [] ∧ R h' v) hop hc rfl hvs hfn hn hb (by have x' : FSpec P f vs.toArray h [] (fun h' L' v => L' = [] ∧ R h' v) := x; simpa using x') fun h' L' v hl ⟨e, q⟩ => by subst e; exact k h' v hl q
/-- its result does not lie in memory: what is known stays -/
theorem C_call0 {c : Call} {f : FuncId} {vs : List Value} {R : Value → Prop} (x : PSpec P f vs.toArray h (fun _ v => R v)) (hop : o.op = .call c) (hc : c.callee = .value (.func f)) (hvs : evs fr c.args.toList vs) (hcal : callOk P f = true) (k : ∀ v, R v → K h [] v) : OPc P r o fr h L K := by
  have y : OPc P r o fr h L (fun _ M v => M = [] ∧ R v) := C_call x hop hc hvs hcal fun _ v _ q => ⟨rfl, q⟩
  intro a ha w hw
  refine Oper.wpIn_mono (fun a' w' ⟨h', M, v, e, ⟨hM, q⟩, z⟩ => ?_) (y a ha w hw)
  subst hM
  exact ⟨h, [], v, e, k v q, z.forget⟩
theorem S_call {c : Call} {f d : Nat} {vs : List Value} {R : Frag → Value → Prop} (x : PSpec P f vs.toArray h R) (hop : o.op = .call c) (hc : c.callee = .value (.func f)) (hvs : evs fr c.args.toList vs) (hcal : callOk P f = true) (hd : o.dst = some d) (hN : Nat.blt d N = true) (hg : o.guard = none)
    (k : ∀ h' v, le h h' → R h' v → OPS P r N D ops rest h' L ((d, v) :: fr) C) : OPS P r N D ops (o :: rest) h L fr C := S_c hd hN hg (C_call x hop hc hvs hcal k)
theorem S_call0 {c : Call} {f d : Nat} {vs : List Value} {R : Value → Prop} (x : PSpec P f vs.toArray h (fun _ v => R v)) (hop : o.op = .call c) (hc : c.callee = .value (.func f)) (hvs : evs fr c.args.toList vs) (hcal : callOk P f = true) (hd : o.dst = some d) (hN : Nat.blt d N = true) (hg : o.guard = none)
    (k : ∀ v, R v → OPS P r N D ops rest h L ((d, v) :: fr) C) : OPS P r N D ops (o :: rest) h L fr C := S_c hd hN hg (C_call0 x hop hc hvs hcal k)
/-- one result, fixed -/
theorem S_callv {c : Call} {f d : Nat} {vs : List Value} {v : Value} (x : PSpec P f vs.toArray h (fun _ u => u = v)) (hop : o.op = .call c) (hc : c.callee = .value (.func f)) (hvs : evs fr c.args.toList vs) (hcal : callOk P f = true) (hd : o.dst = some d) (hN : Nat.blt d N = true) (hg : o.guard = none)
    (k : OPS P r N D ops rest h L ((d, v) :: fr) C) : OPS P r N D ops (o :: rest) h L fr C := S_call0 x hop hc hvs hcal hd hN hg fun u e => by subst e; exact k
theorem S_gcallv {c : Call} {f d j dj : Nat} {want : Bool} {oj : Oper} {vs : List Value} {v : Value} (x : PSpec P f vs.toArray h (fun _ u => u = v)) (hop : o.op = .call c) (hc : c.callee = .value (.func f)) (hvs : evs fr c.args.toList vs) (hcal : callOk P f = true) (hd : o.dst = some d) (hN : Nat.blt d N = true) (hg : o.guard = some (j, want)) (hj : ops[j]? = some oj) (hdj : oj.dst = some dj) (hv : get? fr dj = some (.bool want))
    (k : OPS P r N D ops rest h L ((d, v) :: fr) C) : OPS P r N D ops (o :: rest) h L fr C := S_gc hd hN hg hj hdj hv (C_call0 x hop hc hvs hcal fun u e => by subst e; exact k)
theorem S_gcall {c : Call} {f d j dj : Nat} {want : Bool} {oj : Oper} {vs : List Value} {R : Frag → Value → Prop} (x : PSpec P f vs.toArray h R) (hop : o.op = .call c) (hc : c.callee = .value (.func f)) (hvs : evs fr c.args.toList vs) (hcal : callOk P f = true) (hd : o.dst = some d) (hN : Nat.blt d N = true) (hg : o.guard = some (j, want)) (hj : ops[j]? = some oj) (hdj : oj.dst = some dj) (hv : get? fr dj = some (.bool want))
    (k : ∀ h' v, le h h' → R h' v → OPS P r N D ops rest h' L ((d, v) :: fr) C) : OPS P r N D ops (o :: rest) h L fr C := S_gc hd hN hg hj hdj hv (C_call x hop hc hvs hcal k)

/-! ### A call that takes over a block -/
theorem OPS_keep {l : List Oper} {p : Nat × Obj} (x : ∀ h', le h h' → h' p.1 = some p.2 → OPS P r N D ops l h' L fr C) : OPS P r N D ops l h (p :: L) fr C := by
  intro a w fa hw
  obtain ⟨e0, hm⟩ := Ext.keep (M := [p]) (L := L) hw
  exact wpListIn_mono (fun e a' w' ⟨he, h', L', fr', q, f, e1⟩ => ⟨he, h', L', fr', q, f, e0.trans e1⟩) _ _ _ (x _ e0.le (hm p (by simp)) a w fa e0.holds)
theorem WP_keep {c : Code} {p : Nat × Obj} (x : ∀ h', le h h' → h' p.1 = some p.2 → WP P r N c h' L D fr Q) : WP P r N c h (p :: L) D fr Q :=
  WP.keep (M := [p]) fun h' hl hm => x h' hl (hm p (by simp))
theorem V_callK {p : Nat × Obj} {c : Call} {f : FuncId} {vs : List Value} {R : Frag → Value → Prop} (x : ∀ h', le h h' → h' p.1 = some p.2 → PSpec P f vs.toArray h' R) (hop : o.op = .call c) (hc : c.callee = .value (.func f)) (hvs : evs fr c.args.toList vs) (hcal : callOk P f = true) (k : ∀ h' v, le h h' → h' p.1 = some p.2 → R h' v → K h' L v) : OPv P r o fr h (p :: L) K := by
  intro a ha w hw
  obtain ⟨e0, hm⟩ := Ext.keep (M := [p]) (L := L) hw
  have hp := hm p (by simp)
  have y : OPc P r o fr (add h [p]) L (fun h' M v => M = [] ∧ le (add h [p]) h' ∧ R h' v) := C_call (x _ e0.le hp) hop hc hvs hcal fun h' v hl q => ⟨rfl, hl, q⟩
  refine Oper.wpIn_mono (fun a' w' ⟨h', M, v, e, ⟨hM, hl, q⟩, z⟩ => ?_) (y a ha w e0.holds)
  subst hM
  refine ⟨h', L, v, e, k h' v (le_trans e0.le hl) (hl _ _ hp) q, e0.trans z, fun w1 s => ⟨fun b o' e' => s.pers b o' (hl _ _ (e0.le b o' e')), fun q hq => ?_⟩⟩
  rcases List.mem_cons.1 hq with rfl | hq
  · exact s.pers _ _ (hl _ _ hp)
  · exact s.own q hq
theorem S_callK {p : Nat × Obj} {c : Call} {f d : Nat} {vs : List Value} {R : Frag → Value → Prop} (x : ∀ h', le h h' → h' p.1 = some p.2 → PSpec P f vs.toArray h' R) (hop : o.op = .call c) (hc : c.callee = .value (.func f)) (hvs : evs fr c.args.toList vs) (hcal : callOk P f = true) (hd : o.dst = some d) (hN : Nat.blt d N = true) (hg : o.guard = none)
    (k : ∀ h' v, le h h' → h' p.1 = some p.2 → R h' v → OPS P r N D ops rest h' L ((d, v) :: fr) C) : OPS P r N D ops (o :: rest) h (p :: L) fr C := S_w hd hN hg (OPw_of_v (V_callK x hop hc hvs hcal k))

/-! ### Tests that are not decided yet -/
theorem FrOk.shadow {a : Act} {d : Nat} {v u : Value} (f : FrOk N D fr a) (hv : get? fr d = some v) (e : v = u) : FrOk N D ((d, u) :: fr) a :=
  ⟨f.defers, f.size, fun i x hx => by
    rw [get?_cons] at hx
    split at hx
    · rename_i hd; subst hd; cases hx; rw [← e]; exact f.slots _ _ hv
    · exact f.slots i x hx⟩
theorem S_split {l : List Oper} {d : Nat} {b : Bool} (hv : get? fr d = some (.bool b)) (t : b = true → OPS P r N D ops l h L ((d, .bool true) :: fr) C) (f : b = false → OPS P r N D ops l h L ((d, .bool false) :: fr) C) : OPS P r N D ops l h L fr C :=
  fun a w fa hw => by
    cases hb : b with
    | true => exact t hb a w (fa.shadow hv (by rw [hb])) hw
    | false => exact f hb a w (fa.shadow hv (by rw [hb])) hw
/-- at an operation whose guard is not decided -/
theorem S_gsplit {j dj : Nat} {want b : Bool} {oj : Oper} (hg : o.guard = some (j, want)) (hj : ops[j]? = some oj) (hdj : oj.dst = some dj) (hv : get? fr dj = some (.bool b))
    (t : b = true → OPS P r N D ops (o :: rest) h L ((dj, .bool true) :: fr) C) (f : b = false → OPS P r N D ops (o :: rest) h L ((dj, .bool false) :: fr) C) : OPS P r N D ops (o :: rest) h L fr C :=
  have _ := hg; have _ := hj; have _ := hdj
  S_split hv t f
theorem A_split {fuel : Nat} {listed : Array Bool} {d : Nat} {b : Bool} (hv : get? fr d = some (.bool b)) (t : b = true → ANY P r N D ops fuel listed h L ((d, .bool true) :: fr) C) (f : b = false → ANY P r N D ops fuel listed h L ((d, .bool false) :: fr) C) : ANY P r N D ops fuel listed h L fr C :=
  fun a fa => by
    cases hb : b with
    | true => exact t hb a (fa.shadow hv (by rw [hb]))
    | false => exact f hb a (fa.shadow hv (by rw [hb]))
variable {l : List Oper} {fuel n m m' : Nat}
/-- at an operation of a region that draws, whose guard is not decided -/
theorem A_gsplit {i j dj : Nat} {want b : Bool} {oj : Oper} (hg : o.guard = some (j, want)) (hj : nth l j = some oj) (hdj : oj.dst = some dj) (hv : get? fr dj = some (.bool b))
    (t : b = true → ANY P r N D l.toArray fuel (lst n m) h L ((dj, .bool true) :: fr) C) (f : b = false → ANY P r N D l.toArray fuel (lst n m) h L ((dj, .bool false) :: fr) C) : ANYo P r N D l fuel n m i o h L fr C :=
  have _ := hg; have _ := hj; have _ := hdj
  fun _ => A_split hv t f
theorem A_call {c : Call} {f d i : Nat} {vs : List Value} {R : Frag → Value → Prop} (x : PSpec P f vs.toArray h R) (hop : o.op = .call c) (hc : c.callee = .value (.func f)) (hvs : evs fr c.args.toList vs) (hcal : callOk P f = true) (hd : o.dst = some d) (hN : Nat.blt d N = true) (hg : o.guard = none) (hm : m ||| 2 ^ i = m') (hr : Region.ready .any l.toArray (lst n m) = [i])
    (k : ∀ h' v, le h h' → R h' v → ANY P r N D l.toArray fuel (lst n m') h' L ((d, v) :: fr) C) : ANYo P r N D l (fuel + 1) n m i o h L fr C := A_c hd hN hg hm hr (C_call x hop hc hvs hcal k)
theorem A_callv {c : Call} {f d i : Nat} {vs : List Value} {v : Value} (x : PSpec P f vs.toArray h (fun _ u => u = v)) (hop : o.op = .call c) (hc : c.callee = .value (.func f)) (hvs : evs fr c.args.toList vs) (hcal : callOk P f = true) (hd : o.dst = some d) (hN : Nat.blt d N = true) (hg : o.guard = none) (hm : m ||| 2 ^ i = m') (hr : Region.ready .any l.toArray (lst n m) = [i])
    (k : ANY P r N D l.toArray fuel (lst n m') h L ((d, v) :: fr) C) : ANYo P r N D l (fuel + 1) n m i o h L fr C := A_c hd hN hg hm hr (C_call0 x hop hc hvs hcal fun u e => by subst e; exact k)
theorem A_gcall {c : Call} {f d i j dj : Nat} {want : Bool} {oj : Oper} {vs : List Value} {R : Frag → Value → Prop} (x : PSpec P f vs.toArray h R) (hop : o.op = .call c) (hc : c.callee = .value (.func f)) (hvs : evs fr c.args.toList vs) (hcal : callOk P f = true) (hd : o.dst = some d) (hN : Nat.blt d N = true) (hg : o.guard = some (j, want)) (hj : nth l j = some oj) (hdj : oj.dst = some dj) (hv : get? fr dj = some (.bool want)) (hm : m ||| 2 ^ i = m') (hr : Region.ready .any l.toArray (lst n m) = [i])
    (k : ∀ h' v, le h h' → R h' v → ANY P r N D l.toArray fuel (lst n m') h' L ((d, v) :: fr) C) : ANYo P r N D l (fuel + 1) n m i o h L fr C := A_gc hd hN hg hj hdj hv hm hr (C_call x hop hc hvs hcal k)
theorem A_gcallv {c : Call} {f d i j dj : Nat} {want : Bool} {oj : Oper} {vs : List Value} {v : Value} (x : PSpec P f vs.toArray h (fun _ u => u = v)) (hop : o.op = .call c) (hc : c.callee = .value (.func f)) (hvs : evs fr c.args.toList vs) (hcal : callOk P f = true) (hd : o.dst = some d) (hN : Nat.blt d N = true) (hg : o.guard = some (j, want)) (hj : nth l j = some oj) (hdj : oj.dst = some dj) (hv : get? fr dj = some (.bool want)) (hm : m ||| 2 ^ i = m') (hr : Region.ready .any l.toArray (lst n m) = [i])
    (k : ANY P r N D l.toArray fuel (lst n m') h L ((d, v) :: fr) C) : ANYo P r N D l (fuel + 1) n m i o h L fr C := A_gc hd hN hg hj hdj hv hm hr (C_call0 x hop hc hvs hcal fun u e => by subst e; exact k)

theorem A_callK {p : Nat × Obj} {c : Call} {f d i : Nat} {vs : List Value} {R : Frag → Value → Prop} (x : ∀ h', le h h' → h' p.1 = some p.2 → PSpec P f vs.toArray h' R) (hop : o.op = .call c) (hc : c.callee = .value (.func f)) (hvs : evs fr c.args.toList vs) (hcal : callOk P f = true) (hd : o.dst = some d) (hN : Nat.blt d N = true) (hg : o.guard = none) (hm : m ||| 2 ^ i = m') (hr : Region.ready .any l.toArray (lst n m) = [i])
    (k : ∀ h' v, le h h' → h' p.1 = some p.2 → R h' v → ANY P r N D l.toArray fuel (lst n m') h' L ((d, v) :: fr) C) : ANYo P r N D l (fuel + 1) n m i o h (p :: L) fr C :=
  fun hi => ANY_one i hr (STEP_v hi hg (dstOk_of hd hN) (by rw [hd, lst_set hm]; exact V_callK x hop hc hvs hcal k))

/-! ### What stands next -/
theorem is_ops {l : List Oper} (x : OPS P r N D ops l h L fr C) : OPS P r N D ops l h L fr C := x
theorem is_store {t : TypeId} {a v : Operand} (hop : o.op = .store t a v) (x : OPS P r N D ops (o :: rest) h L fr C) : OPS P r N D ops (o :: rest) h L fr C := have _ := hop; x
theorem is_build {t : TypeId} {ps : Array (Nat × Operand)} (hop : o.op = .build t ps) (x : OPS P r N D ops (o :: rest) h L fr C) : OPS P r N D ops (o :: rest) h L fr C := have _ := hop; x
theorem is_buildS {t : TypeId} {k : Nat} {ps : Array (Nat × Operand)} (hop : o.op = .buildSlice t k ps) (x : OPS P r N D ops (o :: rest) h L fr C) : OPS P r N D ops (o :: rest) h L fr C := have _ := hop; x
theorem is_bin {b : BinOp} {t u : TypeId} {a v : Operand} (hop : o.op = .binOp b t a v u) (x : OPS P r N D ops (o :: rest) h L fr C) : OPS P r N D ops (o :: rest) h L fr C := have _ := hop; x
theorem is_call {c : Call} (hop : o.op = .call c) (x : OPS P r N D ops (o :: rest) h L fr C) : OPS P r N D ops (o :: rest) h L fr C := have _ := hop; x
theorem is_guard {j : Nat × Bool} (hg : o.guard = some j) (x : OPS P r N D ops (o :: rest) h L fr C) : OPS P r N D ops (o :: rest) h L fr C := have _ := hg; x
theorem is_plain (hg : o.guard = none) (x : OPS P r N D ops (o :: rest) h L fr C) : OPS P r N D ops (o :: rest) h L fr C := have _ := hg; x
theorem ia_plain {i : Nat} (hg : o.guard = none) (x : ANYo P r N D l fuel n m i o h L fr C) : ANYo P r N D l fuel n m i o h L fr C := have _ := hg; x
theorem ia_guard {i : Nat} {j : Nat × Bool} (hg : o.guard = some j) (x : ANYo P r N D l fuel n m i o h L fr C) : ANYo P r N D l fuel n m i o h L fr C := have _ := hg; x
theorem ia_bin {i : Nat} {b : BinOp} {t u : TypeId} {a v : Operand} (hop : o.op = .binOp b t a v u) (x : ANYo P r N D l fuel n m i o h L fr C) : ANYo P r N D l fuel n m i o h L fr C := have _ := hop; x
theorem ia_call {i : Nat} {c : Call} (hop : o.op = .call c) (x : ANYo P r N D l fuel n m i o h L fr C) : ANYo P r N D l fuel n m i o h L fr C := have _ := hop; x
theorem ia_build {i : Nat} {t : TypeId} {ps : Array (Nat × Operand)} (hop : o.op = .build t ps) (x : ANYo P r N D l fuel n m i o h L fr C) : ANYo P r N D l fuel n m i o h L fr C := have _ := hop; x
theorem ia_buildS {i : Nat} {t : TypeId} {k : Nat} {ps : Array (Nat × Operand)} (hop : o.op = .buildSlice t k ps) (x : ANYo P r N D l fuel n m i o h L fr C) : ANYo P r N D l fuel n m i o h L fr C := have _ := hop; x

/-! ### A cut -/
theorem WP_cut {c : Code} {C' : Cont} (fr1 : Fr) (x : WP P r N c h L D fr (fun e h' L' D' fr' => e = .normal ∧ h' = h ∧ L' = L ∧ D' = D ∧ FrSub fr1 fr')) (k : C' h L D fr1) : WP P r N c h L D fr (thenQ C' Q) :=
  fun a w fa hw => wpIn_mono (x a w fa hw) fun e a1 w1 ⟨h1, L1, D1, fr2, ⟨he, hh, hL, hD, hs⟩, f1, e1⟩ => by
    subst he; subst hh; subst hL; subst hD
    exact ⟨h1, L1, D1, fr1, k, f1.sub hs, e1⟩
theorem cut_n {fr1 : Fr} (hs : FrSub fr1 fr) : (fun (e : Exit) h' L' D' fr' => e = .normal ∧ h' = h ∧ L' = L ∧ D' = D ∧ FrSub fr1 fr') .normal h L D fr := ⟨rfl, rfl, rfl, rfl, hs⟩

theorem pret {fn : Func} {R : Frag → Value → Prop} {e : Exit} {rs : List ResultVar} {vs : List Value} (he : e = .ret ∨ e = .normal) (hrs : fn.results.toList = rs) (hr : resVals P h L fr rs vs) (x : R h (resOf vs)) : retQ P fn (fun h' L' v => L' = [] ∧ R h' v) e h L [] fr :=
  ret_q [] he hrs hr (List.nil_sublist _) ⟨rfl, x⟩
/-- what is owned at the end, M, becomes what nobody writes; the rest is let go -/
theorem keep_end {M rest : Hp} (R : Frag → Prop) (x : ∀ h', le h h' → (∀ p, p ∈ M → h' p.1 = some p.2) → R h') (hL : L = rest ++ M) : ∀ w, Holds h L w → ∃ h2 L2, Ext h L w h2 L2 w ∧ L2 = [] ∧ R h2 := by
  intro w hw
  have hw2 : Holds h (M ++ rest) w := hw.perm (by rw [hL]; exact List.perm_append_comm)
  obtain ⟨e0, hm⟩ := Ext.keep hw2
  refine ⟨_, [], ((e0.of_perm (by rw [hL]; exact List.perm_append_comm)).drop (List.nil_sublist _)), rfl, x _ e0.le hm⟩
theorem pretK {fn : Func} {R : Frag → Value → Prop} {e : Exit} {rs : List ResultVar} {vs : List Value} (rest M : Hp) (hL : L = rest ++ M) (he : e = .ret ∨ e = .normal) (hrs : fn.results.toList = rs) (hr : resVals P h L fr rs vs) (x : ∀ h', le h h' → (∀ p, p ∈ M → h' p.1 = some p.2) → R h' (resOf vs)) : retQ P fn (fun h' L' v => L' = [] ∧ R h' v) e h L [] fr :=
  ⟨he, rfl, vs, by rw [hrs]; exact hr, keep_end (fun h' => R h' (resOf vs)) x hL⟩
theorem mret {fn : Func} {R : OCont} {e : Exit} {rs : List ResultVar} {vs : List Value} (L2 L3 : Hp) (hL : L = L2 ++ D.map dObj) (he : e = .ret ∨ e = .normal) (hrs : fn.results.toList = rs) (hr : resVals P h L2 fr rs vs) (hs : List.Sublist L3 L2) (x : R h L3 (resOf vs)) : retM P fn R e h L D fr :=
  ⟨he, vs, L2, hL, by rw [hrs]; exact hr, fun _ hw => ⟨h, L3, (Ext.refl hw).drop hs, x⟩⟩
theorem mretK {fn : Func} {R : Frag → Value → Prop} {e : Exit} {rs : List ResultVar} {vs : List Value} (rest M : Hp) (hL : L = (rest ++ M) ++ D.map dObj) (he : e = .ret ∨ e = .normal) (hrs : fn.results.toList = rs) (hr : resVals P h (rest ++ M) fr rs vs) (x : ∀ h', le h h' → (∀ p, p ∈ M → h' p.1 = some p.2) → R h' (resOf vs)) : retM P fn (fun h' L' v => L' = [] ∧ R h' v) e h L D fr :=
  ⟨he, vs, rest ++ M, hL, by rw [hrs]; exact hr, keep_end (fun h' => R h' (resOf vs)) x rfl⟩
theorem pspec_of {f : FuncId} {fn : Func} {c : Code} {vs : List Value} {R : Frag → Value → Prop} (hf : P.funcs[f]? = some fn) (hn : fn.ntmps = N) (hb : fn.body = some c) (hN : Nat.ble vs.length N = true)
    (x : WP P none N c h [] [] (argFr vs 0) (retQ P fn (fun h' L' v => L' = [] ∧ R h' v))) : PSpec P f vs.toArray h R := spec_of hf hn hb rfl hN x
end
/-! ### Where a block stands in a list -/
section
variable {α : Type} {x : α} {l : List α}
theorem m0 : x ∈ x :: l := List.Mem.head _
theorem m1 {a0 : α} : x ∈ a0 :: x :: l := List.Mem.tail _ (List.Mem.head _)
theorem m2 {a0 a1 : α} : x ∈ a0 :: a1 :: x :: l := List.Mem.tail _ (List.Mem.tail _ (List.Mem.head _))
theorem m3 {a0 a1 a2 : α} : x ∈ a0 :: a1 :: a2 :: x :: l := List.Mem.tail _ (List.Mem.tail _ (List.Mem.tail _ (List.Mem.head _)))
theorem m4 {a0 a1 a2 a3 : α} : x ∈ a0 :: a1 :: a2 :: a3 :: x :: l := List.Mem.tail _ (List.Mem.tail _ (List.Mem.tail _ (List.Mem.tail _ (List.Mem.head _))))
theorem m5 {a0 a1 a2 a3 a4 : α} : x ∈ a0 :: a1 :: a2 :: a3 :: a4 :: x :: l := List.Mem.tail _ (List.Mem.tail _ (List.Mem.tail _ (List.Mem.tail _ (List.Mem.tail _ (List.Mem.head _)))))
theorem m6 {a0 a1 a2 a3 a4 a5 : α} : x ∈ a0 :: a1 :: a2 :: a3 :: a4 :: a5 :: x :: l := List.Mem.tail _ (List.Mem.tail _ (List.Mem.tail _ (List.Mem.tail _ (List.Mem.tail _ (List.Mem.tail _ (List.Mem.head _))))))
theorem m7 {a0 a1 a2 a3 a4 a5 a6 : α} : x ∈ a0 :: a1 :: a2 :: a3 :: a4 :: a5 :: a6 :: x :: l := List.Mem.tail _ (List.Mem.tail _ (List.Mem.tail _ (List.Mem.tail _ (List.Mem.tail _ (List.Mem.tail _ (List.Mem.tail _ (List.Mem.head _)))))))
end
section
variable {b : Nat} {o o' : Obj} {l : Hp}
theorem u0 : Upd b o o' ((b, o) :: l) ((b, o') :: l) := Upd.head _
theorem u1 {a0 : Nat × Obj} : Upd b o o' (a0 :: (b, o) :: l) (a0 :: (b, o') :: l) := Upd.tail _ (Upd.head _)
theorem u2 {a0 a1 : Nat × Obj} : Upd b o o' (a0 :: a1 :: (b, o) :: l) (a0 :: a1 :: (b, o') :: l) := Upd.tail _ (Upd.tail _ (Upd.head _))
theorem u3 {a0 a1 a2 : Nat × Obj} : Upd b o o' (a0 :: a1 :: a2 :: (b, o) :: l) (a0 :: a1 :: a2 :: (b, o') :: l) := Upd.tail _ (Upd.tail _ (Upd.tail _ (Upd.head _)))
theorem u4 {a0 a1 a2 a3 : Nat × Obj} : Upd b o o' (a0 :: a1 :: a2 :: a3 :: (b, o) :: l) (a0 :: a1 :: a2 :: a3 :: (b, o') :: l) := Upd.tail _ (Upd.tail _ (Upd.tail _ (Upd.tail _ (Upd.head _))))
theorem u5 {a0 a1 a2 a3 a4 : Nat × Obj} : Upd b o o' (a0 :: a1 :: a2 :: a3 :: a4 :: (b, o) :: l) (a0 :: a1 :: a2 :: a3 :: a4 :: (b, o') :: l) := Upd.tail _ (Upd.tail _ (Upd.tail _ (Upd.tail _ (Upd.tail _ (Upd.head _)))))
theorem u6 {a0 a1 a2 a3 a4 a5 : Nat × Obj} : Upd b o o' (a0 :: a1 :: a2 :: a3 :: a4 :: a5 :: (b, o) :: l) (a0 :: a1 :: a2 :: a3 :: a4 :: a5 :: (b, o') :: l) := Upd.tail _ (Upd.tail _ (Upd.tail _ (Upd.tail _ (Upd.tail _ (Upd.tail _ (Upd.head _))))))
theorem u7 {a0 a1 a2 a3 a4 a5 a6 : Nat × Obj} : Upd b o o' (a0 :: a1 :: a2 :: a3 :: a4 :: a5 :: a6 :: (b, o) :: l) (a0 :: a1 :: a2 :: a3 :: a4 :: a5 :: a6 :: (b, o') :: l) := Upd.tail _ (Upd.tail _ (Upd.tail _ (Upd.tail _ (Upd.tail _ (Upd.tail _ (Upd.tail _ (Upd.head _)))))))
end
end Go.Mesh
/-
  TABLES of the program's types (cells, elements, fields, zero values), laid by a small program off the translation and held against the loaded program by the kernel; '==' of identities and of values.
-/
set_option linter.all false
namespace Go.Proofs.YtfhoecgiahpddaaGreat
open Go.Mesh Go.RowKit
set_option maxRecDepth 100000
def tyTab : List (Bool × Nat) := [(false, 1), (false, 1), (false, 1), (false, 1), (false, 1), (false, 1), (false, 1), (true, 4), (true, 4), (false, 1), (false, 1), (false, 1), (false, 1), (true, 2), (true, 2), (false, 1), (false, 1), (false, 1), (true, 1), (true, 1), (false, 1), (false, 1), (false, 1), (false, 1), (false, 1), (false, 1), (true, 1), (true, 1), (false, 1), (false, 1), (false, 1), (false, 1), (false, 1), (false, 1), (true, 2), (true, 2), (false, 1), (true, 5), (true, 5), (false, 1), (false, 1), (true, 4), (true, 4), (false, 1), (false, 1), (false, 1), (false, 1), (false, 1), (false, 1), (false, 1), (false, 1), (false, 1), (false, 1), (false, 1), (false, 1), (false, 1), (true, 13), (true, 13), (false, 1), (false, 1), (false, 1), (true, 2), (true, 12), (true, 12), (false, 1), (false, 1), (false, 1), (false, 1), (false, 1), (false, 1), (false, 1), (false, 1), (false, 1), (true, 6), (true, 6), (true, 8), (true, 8), (false, 1), (true, 4), (true, 4), (false, 1), (false, 1), (true, 8), (true, 8), (false, 1), (true, 8), (true, 8), (false, 1), (true, 5), (true, 5), (true, 39), (true, 39), (true, 41), (true, 41), (false, 1), (true, 2), (true, 2), (false, 1), (false, 1), (false, 1), (false, 1), (false, 1), (false, 1), (false, 1), (false, 1), (true, 3), (true, 3), (false, 1), (false, 1), (false, 1), (false, 1), (false, 1), (false, 1), (false, 1), (false, 1), (false, 1), (false, 1), (false, 1), (false, 1), (false, 1), (false, 1), (false, 1), (false, 1), (false, 1), (false, 1), (false, 1), (false, 1), (true, 12), (true, 12), (false, 1), (false, 1), (false, 1), (false, 1), (false, 1), (false, 1), (false, 1), (false, 1), (false, 1), (false, 1), (false, 1), (false, 1), (false, 1), (false, 1), (false, 1), (false, 1), (false, 1), (false, 1), (false, 1), (false, 1), (false, 1), (false, 1), (false, 1), (false, 1), (false, 1), (false, 1), (false, 1), (false, 1), (false, 1), (false, 1), (false, 1), (false, 1), (false, 1), (false, 1), (false, 1), (false, 1), (false, 1), (false, 1), (false, 1), (false, 1), (false, 1), (false, 1), (false, 1), (false, 1), (false, 1), (false, 1), (false, 1), (false, 1), (false, 1), (false, 1), (false, 1), (false, 1), (false, 1), (false, 1), (false, 1), (false, 1), (false, 1), (false, 1), (false, 1), (false, 1), (false, 1), (false, 1), (false, 1), (false, 1), (false, 1), (false, 1), (false, 1), (false, 1), (false, 1), (false, 1), (false, 1), (false, 1), (false, 1), (false, 1), (false, 1), (false, 1), (false, 1), (false, 1), (false, 1), (false, 1), (false, 1), (false, 1), (false, 1), (false, 1), (false, 1), (true, 4), (true, 4), (true, 0), (true, 0), (true, 0), (false, 1), (false, 1), (false, 1), (false, 1), (false, 1), (false, 1), (false, 1), (true, 11), (true, 11), (true, 8), (true, 8), (true, 12), (true, 12), (true, 3), (true, 3), (true, 3), (true, 3), (false, 1)]
def elTab : List (Option (Nat × Nat × Nat)) := [none, none, none, none, none, none, none, none, none, none, none, none, none, none, none, none, none, none, none, none, none, none, some (57, 13, 248), none, none, some (38, 5, 56), none, none, none, none, none, some (35, 2, 16), none, none, none, none, some (42, 4, 32), none, none, none, none, none, none, none, none, none, some (3, 1, 8), none, none, none, some (63, 12, 80), some (128, 12, 80), some (106, 3, 32), some (74, 6, 72), some (229, 8, 72), some (93, 41, 464), none, none, none, none, none, none, none, none, none, none, none, none, none, none, none, none, none, none, none, none, none, some (76, 8, 64), none, none, some (79, 4, 56), some (231, 12, 104), none, none, some (233, 3, 24), none, none, some (235, 3, 24), none, none, none, none, none, none, none, none, none, none, some (27, 1, 24), none, none, none, none, none, none, none, none, none, none, none, none, none, none, none, none, none, none, none, none, none, none, none, none, none, none, none, none, none, none, none, none, none, none, none, none, none, none, none, none, none, none, none, none, none, none, none, none, none, none, none, none, none, none, none, none, none, none, none, none, none, none, none, none, none, none, none, some (31, 1, 24), none, none, none, none, none, none, none, none, none, none, none, none, none, none, none, none, none, none, none, none, none, none, none, none, none, none, none, none, none, none, none, none, none, none, none, none, none, none, none, none, none, none, none, none, none, none, none, none, none, none, none, none, none, none, none, none, none, none, none, none, none, none, none, none, none, none, none, none, none, none]
def flTab : List (List (Option (Nat × Nat))) := [[], [], [], [], [], [], [], [some (2, 0), some (3, 1), some (4, 2), some (6, 3)], [some (2, 0), some (3, 1), some (4, 2), some (6, 3)], [], [], [], [], [some (9, 0), some (12, 1)], [some (9, 0), some (12, 1)], [], [], [], [some (17, 0)], [some (17, 0)], [], [], [], [], [], [], [some (25, 0)], [some (25, 0)], [], [], [], [], [], [], [some (3, 0), some (3, 1)], [some (3, 0), some (3, 1)], [], [some (35, 0), some (3, 2), some (3, 3), some (36, 4)], [some (35, 0), some (3, 2), some (3, 3), some (36, 4)], [], [], [some (3, 0), some (2, 1), some (35, 2)], [some (3, 0), some (2, 1), some (35, 2)], [], [], [], [], [], [], [], [], [], [], [], [], [], [some (3, 0), some (3, 1), some (27, 2), some (50, 3), some (51, 4), some (52, 5), some (53, 6), some (54, 7), some (31, 8), some (55, 9), some (46, 10), some (3, 11), some (3, 12)], [some (3, 0), some (3, 1), some (27, 2), some (50, 3), some (51, 4), some (52, 5), some (53, 6), some (54, 7), some (31, 8), some (55, 9), some (46, 10), some (3, 11), some (3, 12)], [], [], [], [some (3, 0), some (3, 1)], [some (3, 0), some (60, 1), some (35, 2), some (3, 4), some (3, 5), some (3, 6), some (4, 7), some (4, 8), some (4, 9), some (61, 10)], [some (3, 0), some (60, 1), some (35, 2), some (3, 4), some (3, 5), some (3, 6), some (4, 7), some (4, 8), some (4, 9), some (61, 10)], [], [], [], [], [], [], [], [], [], [some (35, 0), some (35, 2), some (9, 4), some (36, 5)], [some (35, 0), some (35, 2), some (9, 4), some (36, 5)], [some (3, 0), some (2, 1), some (3, 2), some (60, 3), some (35, 4), some (3, 6), some (4, 7)], [some (3, 0), some (2, 1), some (3, 2), some (60, 3), some (35, 4), some (3, 6), some (4, 7)], [], [some (35, 0), some (9, 2), some (77, 3)], [some (35, 0), some (9, 2), some (77, 3)], [], [], [some (60, 0), some (35, 1), some (3, 3), some (3, 4), some (77, 5), some (80, 6), some (81, 7)], [some (60, 0), some (35, 1), some (3, 3), some (3, 4), some (77, 5), some (80, 6), some (81, 7)], [], [some (3, 0), some (3, 1), some (60, 2), some (3, 3), some (4, 4), some (4, 5), some (3, 6), some (84, 7)], [some (3, 0), some (3, 1), some (60, 2), some (3, 3), some (4, 4), some (4, 5), some (3, 6), some (84, 7)], [], [some (3, 0), some (3, 1), some (87, 2), some (87, 3), some (87, 4)], [some (3, 0), some (3, 1), some (87, 2), some (87, 3), some (87, 4)], [some (3, 0), some (60, 1), some (3, 2), some (9, 3), some (76, 4), some (79, 12), some (83, 16), some (61, 24), some (86, 26), some (89, 34)], [some (3, 0), some (60, 1), some (3, 2), some (9, 3), some (76, 4), some (79, 12), some (83, 16), some (61, 24), some (86, 26), some (89, 34)], [some (3, 0), some (3, 1), some (91, 2)], [some (3, 0), some (3, 1), some (91, 2)], [], [some (22, 0), some (94, 1)], [some (22, 0), some (94, 1)], [], [], [], [], [], [], [], [], [some (9, 0), some (35, 1)], [some (9, 0), some (35, 1)], [], [], [], [], [], [], [], [], [], [], [], [], [], [], [], [], [], [], [], [], [some (3, 0), some (60, 1), some (35, 2), some (3, 4), some (3, 5), some (3, 6), some (4, 7), some (4, 8), some (4, 9), some (61, 10)], [some (3, 0), some (60, 1), some (35, 2), some (3, 4), some (3, 5), some (3, 6), some (4, 7), some (4, 8), some (4, 9), some (61, 10)], [], [], [], [], [], [], [], [], [], [], [], [], [], [], [], [], [], [], [], [], [], [], [], [], [], [], [], [], [], [], [], [], [], [], [], [], [], [], [], [], [], [], [], [], [], [], [], [], [], [], [], [], [], [], [], [], [], [], [], [], [], [], [], [], [], [], [], [], [], [], [], [], [], [], [], [], [], [], [], [], [], [], [], [], [], [some (17, 0), some (17, 1), some (17, 2), some (9, 3)], [some (17, 0), some (17, 1), some (17, 2), some (9, 3)], [], [none], [none], [], [], [], [], [], [], [], [some (12, 0), some (12, 1), some (191, 2), some (220, 3), some (5, 4), some (5, 5), some (221, 6), some (222, 7), some (223, 8), some (224, 9), some (225, 10)], [some (12, 0), some (12, 1), some (191, 2), some (220, 3), some (5, 4), some (5, 5), some (221, 6), some (222, 7), some (223, 8), some (224, 9), some (225, 10)], [some (35, 0), some (35, 2), some (35, 4), some (9, 6), some (2, 7)], [some (35, 0), some (35, 2), some (35, 4), some (9, 6), some (2, 7)], [some (35, 0), some (9, 2), some (2, 3), some (76, 4)], [some (35, 0), some (9, 2), some (2, 3), some (76, 4)], [some (3, 0), some (60, 1), some (3, 2)], [some (3, 0), some (60, 1), some (3, 2)], [some (3, 0), some (60, 1), some (3, 2)], [some (3, 0), some (60, 1), some (3, 2)], []]
def zrTab : List (Option (List Value)) := [none, some [.nilFunc], some [.int .i64 0], some [.int .i64 0], some [.bool false], some [.int .u8 0], some [.int .u8 0], some [.int .i64 0, .int .i64 0, .bool false, .int .u8 0], some [.int .i64 0, .int .i64 0, .bool false, .int .u8 0], some [.string ⟨#[]⟩], some [.string ⟨#[]⟩], some [.string ⟨#[]⟩], some [.int .u64 0], some [.string ⟨#[]⟩, .int .u64 0], some [.string ⟨#[]⟩, .int .u64 0], some [.pointer none], some [.pointer none], some [.pointer none], some [.pointer none], some [.pointer none], some [.nilIface], some [.int .i32 0], some [.slice none 0 0], some [.nilFunc], some [.nilFunc], some [.slice none 0 0], some [.slice none 0 0], some [.slice none 0 0], some [.int .i64 0], none, some [.nilFunc], some [.slice none 0 0], some [.nilFunc], some [.map none], some [.int .i64 0, .int .i64 0], some [.int .i64 0, .int .i64 0], some [.slice none 0 0], some [.int .i64 0, .int .i64 0, .int .i64 0, .int .i64 0, .slice none 0 0], some [.int .i64 0, .int .i64 0, .int .i64 0, .int .i64 0, .slice none 0 0], none, some [.nilFunc], some [.int .i64 0, .int .i64 0, .int .i64 0, .int .i64 0], some [.int .i64 0, .int .i64 0, .int .i64 0, .int .i64 0], some [.nilFunc], some [.nilFunc], some [.nilFunc], some [.slice none 0 0], none, some [.nilFunc], some [.nilFunc], some [.slice none 0 0], some [.slice none 0 0], some [.slice none 0 0], some [.slice none 0 0], some [.slice none 0 0], some [.slice none 0 0], some [.int .i64 0, .int .i64 0, .slice none 0 0, .slice none 0 0, .slice none 0 0, .slice none 0 0, .slice none 0 0, .slice none 0 0, .slice none 0 0, .slice none 0 0, .slice none 0 0, .int .i64 0, .int .i64 0], some [.int .i64 0, .int .i64 0, .slice none 0 0, .slice none 0 0, .slice none 0 0, .slice none 0 0, .slice none 0 0, .slice none 0 0, .slice none 0 0, .slice none 0 0, .slice none 0 0, .int .i64 0, .int .i64 0], none, some [.nilFunc], some [.int .u64 0], some [.int .i64 0, .int .i64 0], some [.int .i64 0, .int .u64 0, .int .i64 0, .int .i64 0, .int .i64 0, .int .i64 0, .int .i64 0, .bool false, .bool false, .bool false, .int .i64 0, .int .i64 0], some [.int .i64 0, .int .u64 0, .int .i64 0, .int .i64 0, .int .i64 0, .int .i64 0, .int .i64 0, .bool false, .bool false, .bool false, .int .i64 0, .int .i64 0], none, some [.nilFunc], some [.nilFunc], some [.nilFunc], some [.nilFunc], some [.nilFunc], some [.nilFunc], some [.nilFunc], some [.nilFunc], some [.int .i64 0, .int .i64 0, .int .i64 0, .int .i64 0, .string ⟨#[]⟩, .slice none 0 0], some [.int .i64 0, .int .i64 0, .int .i64 0, .int .i64 0, .string ⟨#[]⟩, .slice none 0 0], some [.int .i64 0, .int .i64 0, .int .i64 0, .int .u64 0, .int .i64 0, .int .i64 0, .int .i64 0, .bool false], some [.int .i64 0, .int .i64 0, .int .i64 0, .int .u64 0, .int .i64 0, .int .i64 0, .int .i64 0, .bool false], some [.slice none 0 0], some [.int .i64 0, .int .i64 0, .string ⟨#[]⟩, .slice none 0 0], some [.int .i64 0, .int .i64 0, .string ⟨#[]⟩, .slice none 0 0], some [.slice none 0 0], some [.slice none 0 0], some [.int .u64 0, .int .i64 0, .int .i64 0, .int .i64 0, .int .i64 0, .slice none 0 0, .slice none 0 0, .slice none 0 0], some [.int .u64 0, .int .i64 0, .int .i64 0, .int .i64 0, .int .i64 0, .slice none 0 0, .slice none 0 0, .slice none 0 0], some [.slice none 0 0], some [.int .i64 0, .int .i64 0, .int .u64 0, .int .i64 0, .bool false, .bool false, .int .i64 0, .slice none 0 0], some [.int .i64 0, .int .i64 0, .int .u64 0, .int .i64 0, .bool false, .bool false, .int .i64 0, .slice none 0 0], some [.slice none 0 0], some [.int .i64 0, .int .i64 0, .slice none 0 0, .slice none 0 0, .slice none 0 0], some [.int .i64 0, .int .i64 0, .slice none 0 0, .slice none 0 0, .slice none 0 0], some [.int .i64 0, .int .u64 0, .int .i64 0, .string ⟨#[]⟩, .int .i64 0, .int .i64 0, .int .i64 0, .int .u64 0, .int .i64 0, .int .i64 0, .int .i64 0, .bool false, .int .i64 0, .int .i64 0, .string ⟨#[]⟩, .slice none 0 0, .int .u64 0, .int .i64 0, .int .i64 0, .int .i64 0, .int .i64 0, .slice none 0 0, .slice none 0 0, .slice none 0 0, .int .i64 0, .int .i64 0, .int .i64 0, .int .i64 0, .int .u64 0, .int .i64 0, .bool false, .bool false, .int .i64 0, .slice none 0 0, .int .i64 0, .int .i64 0, .slice none 0 0, .slice none 0 0, .slice none 0 0], some [.int .i64 0, .int .u64 0, .int .i64 0, .string ⟨#[]⟩, .int .i64 0, .int .i64 0, .int .i64 0, .int .u64 0, .int .i64 0, .int .i64 0, .int .i64 0, .bool false, .int .i64 0, .int .i64 0, .string ⟨#[]⟩, .slice none 0 0, .int .u64 0, .int .i64 0, .int .i64 0, .int .i64 0, .int .i64 0, .slice none 0 0, .slice none 0 0, .slice none 0 0, .int .i64 0, .int .i64 0, .int .i64 0, .int .i64 0, .int .u64 0, .int .i64 0, .bool false, .bool false, .int .i64 0, .slice none 0 0, .int .i64 0, .int .i64 0, .slice none 0 0, .slice none 0 0, .slice none 0 0], some [.int .i64 0, .int .i64 0, .int .i64 0, .int .u64 0, .int .i64 0, .string ⟨#[]⟩, .int .i64 0, .int .i64 0, .int .i64 0, .int .u64 0, .int .i64 0, .int .i64 0, .int .i64 0, .bool false, .int .i64 0, .int .i64 0, .string ⟨#[]⟩, .slice none 0 0, .int .u64 0, .int .i64 0, .int .i64 0, .int .i64 0, .int .i64 0, .slice none 0 0, .slice none 0 0, .slice none 0 0, .int .i64 0, .int .i64 0, .int .i64 0, .int .i64 0, .int .u64 0, .int .i64 0, .bool false, .bool false, .int .i64 0, .slice none 0 0, .int .i64 0, .int .i64 0, .slice none 0 0, .slice none 0 0, .slice none 0 0], some [.int .i64 0, .int .i64 0, .int .i64 0, .int .u64 0, .int .i64 0, .string ⟨#[]⟩, .int .i64 0, .int .i64 0, .int .i64 0, .int .u64 0, .int .i64 0, .int .i64 0, .int .i64 0, .bool false, .int .i64 0, .int .i64 0, .string ⟨#[]⟩, .slice none 0 0, .int .u64 0, .int .i64 0, .int .i64 0, .int .i64 0, .int .i64 0, .slice none 0 0, .slice none 0 0, .slice none 0 0, .int .i64 0, .int .i64 0, .int .i64 0, .int .i64 0, .int .u64 0, .int .i64 0, .bool false, .bool false, .int .i64 0, .slice none 0 0, .int .i64 0, .int .i64 0, .slice none 0 0, .slice none 0 0, .slice none 0 0], some [.map none], some [.slice none 0 0, .map none], some [.slice none 0 0, .map none], some [.nilFunc], some [.slice none 0 0], some [.nilFunc], some [.nilFunc], some [.nilFunc], some [.nilFunc], some [.nilFunc], some [.nilFunc], some [.string ⟨#[]⟩, .int .i64 0, .int .i64 0], some [.string ⟨#[]⟩, .int .i64 0, .int .i64 0], some [.nilFunc], some [.nilFunc], some [.nilFunc], some [.nilFunc], some [.nilFunc], some [.nilFunc], some [.nilFunc], some [.nilFunc], some [.nilFunc], some [.nilFunc], some [.nilFunc], some [.nilFunc], some [.nilFunc], some [.nilFunc], some [.nilFunc], some [.nilFunc], some [.nilFunc], some [.nilFunc], some [.nilFunc], some [.nilFunc], some [.int .i64 0, .int .u64 0, .int .i64 0, .int .i64 0, .int .i64 0, .int .i64 0, .int .i64 0, .bool false, .bool false, .bool false, .int .i64 0, .int .i64 0], some [.int .i64 0, .int .u64 0, .int .i64 0, .int .i64 0, .int .i64 0, .int .i64 0, .int .i64 0, .bool false, .bool false, .bool false, .int .i64 0, .int .i64 0], none, some [.nilFunc], some [.nilFunc], some [.nilFunc], some [.nilFunc], some [.nilFunc], some [.nilFunc], some [.nilFunc], some [.nilFunc], some [.nilFunc], some [.nilFunc], some [.nilFunc], some [.nilFunc], some [.nilFunc], some [.map none], some [.nilFunc], some [.nilFunc], some [.nilFunc], some [.nilFunc], some [.nilFunc], some [.nilFunc], some [.nilFunc], some [.nilFunc], some [.nilFunc], some [.nilFunc], some [.nilFunc], some [.nilFunc], none, some [.nilFunc], some [.nilFunc], some [.nilFunc], some [.nilFunc], some [.nilFunc], some [.nilFunc], some [.nilFunc], some [.nilFunc], some [.nilFunc], some [.slice none 0 0], some [.nilFunc], some [.nilFunc], some [.nilFunc], none, some [.nilFunc], some [.nilFunc], some [.nilFunc], some [.nilFunc], some [.nilFunc], some [.int .u64 0], some [.nilFunc], some [.nilFunc], some [.nilFunc], some [.nilFunc], some [.nilFunc], some [.nilFunc], some [.nilFunc], some [.int .i64 0], none, some [.nilFunc], some [.nilFunc], some [.nilFunc], some [.nilFunc], some [.nilFunc], some [.int .u32 0], some [.nilFunc], some [.nilFunc], some [.nilFunc], some [.nilFunc], some [.nilFunc], some [.nilFunc], some [.nilFunc], none, some [.nilFunc], some [.int .u64 0], some [.nilFunc], some [.nilFunc], some [.nilFunc], some [.pointer none], some [.nilFunc], some [.nilFunc], some [.nilFunc], some [.pointer none], none, some [.nilFunc], some [.nilFunc], some [.nilFunc], some [.pointer none, .pointer none, .pointer none, .string ⟨#[]⟩], some [.pointer none, .pointer none, .pointer none, .string ⟨#[]⟩], some [], some [], some [], some [.nilFunc], some [.int .u8 0], some [.int .u8 0], some [.nilFunc], some [.pointer none], some [.int .i32 0], some [.int .i32 0], some [.int .u64 0, .int .u64 0, .int .u32 0, .int .u8 0, .int .u8 0, .int .u8 0, .int .u8 0, .nilFunc, .pointer none, .int .i32 0, .int .i32 0], some [.int .u64 0, .int .u64 0, .int .u32 0, .int .u8 0, .int .u8 0, .int .u8 0, .int .u8 0, .nilFunc, .pointer none, .int .i32 0, .int .i32 0], some [.int .i64 0, .int .i64 0, .int .i64 0, .int .i64 0, .int .i64 0, .int .i64 0, .string ⟨#[]⟩, .int .i64 0], some [.int .i64 0, .int .i64 0, .int .i64 0, .int .i64 0, .int .i64 0, .int .i64 0, .string ⟨#[]⟩, .int .i64 0], some [.int .i64 0, .int .i64 0, .string ⟨#[]⟩, .int .i64 0, .int .i64 0, .int .i64 0, .int .i64 0, .int .u64 0, .int .i64 0, .int .i64 0, .int .i64 0, .bool false], some [.int .i64 0, .int .i64 0, .string ⟨#[]⟩, .int .i64 0, .int .i64 0, .int .i64 0, .int .i64 0, .int .u64 0, .int .i64 0, .int .i64 0, .int .i64 0, .bool false], some [.int .i64 0, .int .u64 0, .int .i64 0], some [.int .i64 0, .int .u64 0, .int .i64 0], some [.int .i64 0, .int .u64 0, .int .i64 0], some [.int .i64 0, .int .u64 0, .int .i64 0], some [.pointer none]]
def nthT {α : Type} : List α → Nat → Option α
  | [], _ => none
  | a :: _, 0 => some a
  | _ :: l, i + 1 => nthT l i
theorem nthT_lt {α : Type} : ∀ {l : List α} {i : Nat} {x : α}, nthT l i = some x → i < l.length
  | [], _, _, e => by cases e
  | _ :: _, 0, _, _ => by simp
  | _ :: l, i + 1, _, e => by have := nthT_lt (l := l) e; simp; omega
def checkAll {α : Type} (p : Nat → α → Bool) : Nat → List α → Bool
  | _, [] => true
  | i, a :: l => p i a && checkAll p (i + 1) l
theorem checkAll_nth {α : Type} {p : Nat → α → Bool} : ∀ {l : List α} {k i : Nat} {x : α}, checkAll p k l = true → nthT l i = some x → p (k + i) x = true
  | [], _, _, _, _, e => by cases e
  | a :: l, k, 0, x, h, e => by simp only [checkAll, Bool.and_eq_true] at h; cases e; exact h.1
  | a :: l, k, i + 1, x, h, e => by
    simp only [checkAll, Bool.and_eq_true] at h
    have := checkAll_nth h.2 e
    rwa [Nat.add_assoc, Nat.add_comm 1 i] at this
theorem tyOk : checkAll (fun t x => tyOf Tryz.prog t == some x) 0 tyTab = true := by decide +kernel
theorem elOk : checkAll (fun t x => match x with | some y => elemOf? Tryz.prog t == some y | none => true) 0 elTab = true := by decide +kernel
def flChk (P : Program) (t f : Nat) (y : Option (Nat × Nat)) : Bool := match y with | some z => fieldOf P t f == some z | none => true
theorem flOk : checkAll (fun t x => checkAll (flChk Tryz.prog t) 0 x) 0 flTab = true := by decide +kernel
def vEq : Value → Value → Bool
  | .int a m, .int b n => a == b && m == n
  | .bool a, .bool b => a == b
  | .slice none a b, .slice none c d => a == c && b == d
  | .string a, .string b => a.size == 0 && b.size == 0
  | .pointer none, .pointer none | .map none, .map none | .chan none, .chan none | .nilFunc, .nilFunc | .nilIface, .nilIface => true
  | _, _ => false
theorem ba_empty (a : ByteArray) (h : a.size = 0) : a = ⟨#[]⟩ := by
  cases a with
  | mk d => simp [ByteArray.size] at h; subst h; rfl
theorem vEq_eq {a b : Value} (h : vEq a b = true) : a = b := by
  unfold vEq at h
  split at h
  · simp only [Bool.and_eq_true, beq_iff_eq] at h; rw [h.1, h.2]
  · simp only [beq_iff_eq] at h; rw [h]
  · simp only [Bool.and_eq_true, beq_iff_eq] at h; rw [h.1, h.2]
  · simp only [Bool.and_eq_true, beq_iff_eq] at h; rw [ba_empty _ h.1, ba_empty _ h.2]
  · rfl
  · rfl
  · rfl
  · rfl
  · rfl
  · cases h
def vEqs : List Value → List Value → Bool
  | [], [] => true
  | a :: l, b :: m => vEq a b && vEqs l m
  | _, _ => false
theorem vEqs_eq : ∀ {l m : List Value}, vEqs l m = true → l = m
  | [], [], _ => rfl
  | a :: l, b :: m, h => by simp only [vEqs, Bool.and_eq_true] at h; rw [vEq_eq h.1, vEqs_eq h.2]
  | [], _ :: _, h => by cases h
  | _ :: _, [], h => by cases h
theorem zrOk : checkAll (fun t x => match x with | some y => (match zeroOf Tryz.prog t with | some l => vEqs l y | none => false) | none => true) 0 zrTab = true := by decide +kernel
theorem ty {t : Nat} {g : Bool} {k : Nat} (h : nthT tyTab t = some (g, k)) : tyOf Tryz.prog t = some (g, k) := by
  have := checkAll_nth tyOk h; simpa using this
theorem elm {t e k b : Nat} (h : nthT elTab t = some (some (e, k, b))) : elemOf? Tryz.prog t = some (e, k, b) := by
  have := checkAll_nth elOk h; simpa using this
theorem fld {t f a b : Nat} {l : List (Option (Nat × Nat))} (h : nthT flTab t = some l) (h2 : nthT l f = some (some (a, b))) : fieldOf Tryz.prog t f = some (a, b) := by
  have h0 := checkAll_nth (p := fun t x => checkAll (flChk Tryz.prog t) 0 x) flOk h
  have := checkAll_nth (p := flChk Tryz.prog (0 + t)) h0 h2
  simpa [flChk] using this
theorem zer {t : Nat} {l : List Value} (h : nthT zrTab t = some (some l)) : zeroOf Tryz.prog t = some l := by
  have := checkAll_nth zrOk h
  simp only [Nat.zero_add] at this
  cases hz : zeroOf Tryz.prog t with
  | none => simp [hz] at this
  | some l' => simp only [hz] at this; rw [vEqs_eq this]
theorem calAll : (List.range 163).all (fun f => Nat.ble f 2 || callOk Tryz.prog f) = true := by decide +kernel
theorem cal {f : Nat} (h : (Nat.blt f 163 && Nat.blt 2 f) = true) : callOk Tryz.prog f = true := by
  simp only [Bool.and_eq_true, Nat.blt_eq] at h
  have := List.all_eq_true.1 calAll f (List.mem_range.2 h.1)
  simp only [Bool.or_eq_true] at this
  rcases this with h' | h'
  · have := Nat.le_of_ble_eq_true h'; omega
  · exact h'
theorem mixed : Tryz.prog.follows .mixedOrders = true := by kernel_rfl

theorem eqIDIn (d : Nat) (w : World) (x y : ID) : (Op.equalIn (d + 2) 35 (.agg (idc x).toArray) (.agg (idc y).toArray)).run Tryz.prog w = .ok (decide (x = y)) w := by
  have hf : Tryz.prog.underlying 35 = some (.struct (Tryz.prog.fieldsOf 35)) := by kernel_rfl
  have hs : Tryz.prog.stoodInHeld 35 = false := by kernel_rfl
  have ht : tyOf Tryz.prog 3 = some (false, 1) := by kernel_rfl
  have hfs : (Tryz.prog.fieldsOf 35).toList = [{ name := "Machine", type := 3, offset := 0, embedded := false, tag := "", pkgPath := "", byteOffset := 0 }, { name := "Serial", type := 3, offset := 1, embedded := false, tag := "", pkgPath := "", byteOffset := 8 }] := by kernel_rfl
  have h3 : Tryz.prog.underlying 3 = some (.int .i64) := by kernel_rfl
  rw [run_equalIn_struct w _ 35 _ _ hf hs, hfs]
  obtain ⟨x1, x2⟩ := x
  obtain ⟨y1, y2⟩ := y
  simp only [Op.eqFields, idc, part, run_isAgg ht, Sem.run_bind, Result.andThen_ok, Sem.run_ite]
  simp [run_equalIn_int w d 3 .i64 .i64 _ _ h3]
  by_cases h1 : x1 = y1 <;> by_cases h2 : x2 = y2 <;> simp [h1, h2]
theorem eqID : EqAt Tryz.prog 35 idc := ⟨by kernel_rfl, fun w x y => eqIDIn 9998 w x y⟩
theorem eqValIn (d : Nat) (w : World) (x y : Val) : (Op.equalIn (d + 3) 42 (.agg (vlc x).toArray) (.agg (vlc y).toArray)).run Tryz.prog w = .ok (decide (x = y)) w := by
  have hf : Tryz.prog.underlying 42 = some (.struct (Tryz.prog.fieldsOf 42)) := by kernel_rfl
  have hs : Tryz.prog.stoodInHeld 42 = false := by kernel_rfl
  have ht : tyOf Tryz.prog 3 = some (false, 1) := by kernel_rfl
  have ht2 : tyOf Tryz.prog 2 = some (false, 1) := by kernel_rfl
  have ht5 : tyOf Tryz.prog 35 = some (true, 2) := by kernel_rfl
  have hfs : (Tryz.prog.fieldsOf 42).toList = [{ name := "Kind", type := 3, offset := 0, embedded := false, tag := "", pkgPath := "", byteOffset := 0 }, { name := "Int", type := 2, offset := 1, embedded := false, tag := "", pkgPath := "", byteOffset := 8 }, { name := "Ref", type := 35, offset := 2, embedded := false, tag := "", pkgPath := "", byteOffset := 16 }] := by kernel_rfl
  have h3 : Tryz.prog.underlying 3 = some (.int .i64) := by kernel_rfl
  have h2 : Tryz.prog.underlying 2 = some (.int .i64) := by kernel_rfl
  rw [run_equalIn_struct w _ 42 _ _ hf hs, hfs]
  obtain ⟨x1, x2, x3⟩ := x
  obtain ⟨y1, y2, y3⟩ := y
  have e5 := eqIDIn d w x3 y3
  have ex : (#[Value.int .i64 x1, .int .i64 x2, .int .i64 x3.1, .int .i64 x3.2] : Array Value).extract 2 4 = (idc x3).toArray := rfl
  have ey : (#[Value.int .i64 y1, .int .i64 y2, .int .i64 y3.1, .int .i64 y3.2] : Array Value).extract 2 4 = (idc y3).toArray := rfl
  simp only [Op.eqFields, vlc, part, run_isAgg ht, run_isAgg ht2, run_isAgg ht5, run_sizeOf ht5, Sem.run_bind, Result.andThen_ok, Sem.run_ite, Sem.run_pure, if_true, ex, ey, e5]
  simp [run_equalIn_int w (d + 1) 3 .i64 .i64 _ _ h3, run_equalIn_int w (d + 1) 2 .i64 .i64 _ _ h2, e5]
  by_cases h1 : x1 = y1 <;> by_cases h2 : x2 = y2 <;> by_cases h3 : x3 = y3 <;> simp [h1, h2, h3]
theorem eqVal : EqAt Tryz.prog 42 vlc := ⟨by kernel_rfl, fun w x y => eqValIn 9997 w x y⟩
end Go.Proofs.YtfhoecgiahpddaaGreat
/-
  THE DATA OF THE PROGRAM (views, graphs, flights ..) and how their cells lie. Fields that the observer never looks into are left open.
-/
set_option linter.all false
namespace Go.Mesh
open Go.RowKit

structure Nd where
  id : ID
  kind : Int
  cls : Int
  fields : List Val
  deriving DecidableEq
structure Ref where
  kind : Int
  num : Int
  owner : Int
  number : Int
  id : ID
  cls : Int
  weak : Bool
structure Parcel where
  number : Int
  id : ID
  kind : Int
  cls : Int
  fields : List Ref
  mail : List (List Ref)
structure Msg where
  kind : Int
  number : Int
  ref : Ref
  args : List Ref
  parcel : Parcel
structure Flight where
  to : Int
  seq : Int
  msg : Msg
structure StubE where
  owner : Int
  number : Int
  id : ID
  weak : Bool
  dead : Bool
structure ScionE where
  client : Int
  number : Int
  id : ID
structure MailE where
  to : ID
  args : List Val
structure View where
  machine : Int
  objects : List Nd
  stubs : List StubE
  scions : List ScionE
  names : List ID
  mail : List MailE
  flights : List Flight
  received : List Int

def IntC : CR Int := fun _ x vs => vs = [.int .i64 x]
theorem IntC_mono : CMono IntC := fun _ _ _ _ _ e => e
def NodeC (B : Nat) : CR Nd := fun h n vs => ∃ p c, vs = [.int .i64 n.id.1, .int .i64 n.id.2, .int .i64 n.kind, .int .i64 n.cls, .slice p n.fields.length c] ∧ SLB B h 4 ValC (.slice p n.fields.length c) n.fields
theorem NodeC_mono (B : Nat) : CMono (NodeC B) := fun _ _ _ _ hl ⟨p, c, e, s⟩ => ⟨p, c, e, s.mono hl ValC_mono⟩
/-- a graph: one cell -/
def GraphC (B : Nat) : CR (List Nd) := fun h g vs => ∃ p c, vs = [.slice p g.length c] ∧ SLB B h 5 (NodeC B) (.slice p g.length c) g
theorem GraphC_mono (B : Nat) : CMono (GraphC B) := fun _ _ _ _ hl ⟨p, c, e, s⟩ => ⟨p, c, e, s.mono hl (NodeC_mono B)⟩
def rfc (r : Ref) : List Value := [.int .i64 r.kind, .int .i64 r.num, .int .i64 r.owner, .int .u64 r.number, .int .i64 r.id.1, .int .i64 r.id.2, .int .i64 r.cls, .bool r.weak]
def RefC : CR Ref := fun _ x vs => vs = rfc x
theorem RefC_mono : CMono RefC := fun _ _ _ _ _ e => e
/-- a letter: its arguments alone -/
def LetterC (B : Nat) : CR (List Ref) := fun h l vs => ∃ a b m p c, vs = [a, b, m, .slice p l.length c] ∧ SLB B h 8 RefC (.slice p l.length c) l
theorem LetterC_mono (B : Nat) : CMono (LetterC B) := fun _ _ _ _ hl ⟨a, b, m, p, c, e, s⟩ => ⟨a, b, m, p, c, e, s.mono hl RefC_mono⟩
def FlightC (B : Nat) : CR Flight := fun h x vs => ∃ a1 a2 b1 b2 b3 pa qa pf qf pm qm wv y1 y2 y3 y4 y5 y6 y7 y8 y9 y10 y11 y12 y13 y14 y15,
  vs = [.int .i64 x.to, .int .i64 x.seq, .int .i64 x.msg.kind, .int .u64 x.msg.number, a1, a2,
    .int .i64 x.msg.ref.kind, .int .i64 x.msg.ref.num, .int .i64 x.msg.ref.owner, .int .u64 x.msg.ref.number, .int .i64 x.msg.ref.id.1, .int .i64 x.msg.ref.id.2, .int .i64 x.msg.ref.cls, .bool x.msg.ref.weak,
    b1, b2, b3, .slice pa x.msg.args.length qa,
    .int .u64 x.msg.parcel.number, .int .i64 x.msg.parcel.id.1, .int .i64 x.msg.parcel.id.2, .int .i64 x.msg.parcel.kind, .int .i64 x.msg.parcel.cls, .slice pf x.msg.parcel.fields.length qf, .slice pm x.msg.parcel.mail.length qm, wv,
    y1, y2, y3, y4, y5, y6, y7, y8, y9, y10, y11, y12, y13, y14, y15] ∧
  SLB B h 8 RefC (.slice pa x.msg.args.length qa) x.msg.args ∧ SLB B h 8 RefC (.slice pf x.msg.parcel.fields.length qf) x.msg.parcel.fields ∧ SLB B h 4 (LetterC B) (.slice pm x.msg.parcel.mail.length qm) x.msg.parcel.mail
theorem FlightC_mono (B : Nat) : CMono (FlightC B) := by
  rintro h h' x vs hl ⟨a1, a2, b1, b2, b3, pa, qa, pf, qf, pm, qm, wv, y1, y2, y3, y4, y5, y6, y7, y8, y9, y10, y11, y12, y13, y14, y15, e, s1, s2, s3⟩
  exact ⟨a1, a2, b1, b2, b3, pa, qa, pf, qf, pm, qm, wv, y1, y2, y3, y4, y5, y6, y7, y8, y9, y10, y11, y12, y13, y14, y15, e, s1.mono hl RefC_mono, s2.mono hl RefC_mono, s3.mono hl (LetterC_mono B)⟩
def StubC : CR StubE := fun _ x vs => ∃ a b c d l1 l2, vs = [.int .i64 x.owner, .int .u64 x.number, .int .i64 x.id.1, .int .i64 x.id.2, a, b, c, d, .bool x.weak, .bool x.dead, l1, l2]
theorem StubC_mono : CMono StubC := fun _ _ _ _ _ e => e
def ScionC : CR ScionE := fun _ x vs => ∃ a b c d e f l1 l2, vs = [.int .i64 x.client, .int .u64 x.number, .int .i64 x.id.1, .int .i64 x.id.2, a, b, c, d, e, f, l1, l2]
theorem ScionC_mono : CMono ScionC := fun _ _ _ _ _ e => e
def NamedC : CR ID := fun _ x vs => ∃ s, vs = [s, .int .i64 x.1, .int .i64 x.2]
theorem NamedC_mono : CMono NamedC := fun _ _ _ _ _ e => e
def MailC (B : Nat) : CR MailE := fun h x vs => ∃ a b m p c, vs = [a, b, .int .i64 x.to.1, .int .i64 x.to.2, m, .slice p x.args.length c] ∧ SLB B h 4 ValC (.slice p x.args.length c) x.args
theorem MailC_mono (B : Nat) : CMono (MailC B) := fun _ _ _ _ hl ⟨a, b, m, p, c, e, s⟩ => ⟨a, b, m, p, c, e, s.mono hl ValC_mono⟩
/-- a number that fits -/
def inI64 (n : Int) : Prop := -9223372036854775808 ≤ n ∧ n ≤ 9223372036854775807
def ViewC (B : Nat) : CR View := fun h x vs => inI64 x.machine ∧ ∃ mode po co ps cs psc csc pn cn pm cm w1 w2 pf cf pr cr e1 e2,
  vs = [.int .i64 x.machine, mode, .slice po x.objects.length co, .slice ps x.stubs.length cs, .slice psc x.scions.length csc, .slice pn x.names.length cn, .slice pm x.mail.length cm, w1, w2, .slice pf x.flights.length cf, .slice pr x.received.length cr, e1, e2] ∧
  SLB B h 5 (NodeC B) (.slice po x.objects.length co) x.objects ∧ SLB B h 12 StubC (.slice ps x.stubs.length cs) x.stubs ∧ SLB B h 12 ScionC (.slice psc x.scions.length csc) x.scions ∧ SLB B h 3 NamedC (.slice pn x.names.length cn) x.names ∧
  SLB B h 6 (MailC B) (.slice pm x.mail.length cm) x.mail ∧ SLB B h 41 (FlightC B) (.slice pf x.flights.length cf) x.flights ∧ SLB B h 1 IntC (.slice pr x.received.length cr) x.received
theorem ViewC_mono (B : Nat) : CMono (ViewC B) := by
  rintro h h' x vs hl ⟨hi, mode, po, co, ps, cs, psc, csc, pn, cn, pm, cm, w1, w2, pf, cf, pr, cr, e1, e2, e, s1, s2, s3, s4, s5, s6, s7⟩
  exact ⟨hi, mode, po, co, ps, cs, psc, csc, pn, cn, pm, cm, w1, w2, pf, cf, pr, cr, e1, e2, e, s1.mono hl (NodeC_mono B), s2.mono hl StubC_mono, s3.mono hl ScionC_mono, s4.mono hl NamedC_mono, s5.mono hl (MailC_mono B), s6.mono hl (FlightC_mono B), s7.mono hl IntC_mono⟩
end Go.Mesh
/-
  WHAT A ROW OF CELLS READS AS, and slices that are owned, with what they read as.
-/
set_option linter.all false
namespace Go.Mesh
open Go.RowKit

section
variable {α : Type} {h h' : Frag} {B k : Nat} {C : CR α}
def Flat (h : Frag) (k : Nat) (C : CR α) : List α → List Value → Prop
  | [], us => us = []
  | x :: xs, us => ∃ vs ws, us = vs ++ ws ∧ vs.length = k ∧ ones vs = true ∧ C h x vs ∧ Flat h k C xs ws
theorem Flat.mono (hl : le h h') (hc : CMono C) : ∀ {xs : List α} {us : List Value}, Flat h k C xs us → Flat h' k C xs us
  | [], _, e => e
  | _ :: _, _, ⟨vs, ws, e1, e2, e3, e4, e5⟩ => ⟨vs, ws, e1, e2, e3, hc _ _ _ _ hl e4, Flat.mono hl hc e5⟩
theorem Flat.length : ∀ {xs : List α} {us : List Value}, Flat h k C xs us → us.length = xs.length * k
  | [], _, e => by cases e; simp
  | x :: xs, _, ⟨vs, ws, e1, e2, _, _, e5⟩ => by subst e1; have := Flat.length e5; simp [e2, this, Nat.add_mul]; omega
theorem Flat.ones : ∀ {xs : List α} {us : List Value}, Flat h k C xs us → Mesh.ones us = true
  | [], _, e => by cases e; rfl
  | x :: xs, _, ⟨vs, ws, e1, _, e3, _, e5⟩ => by subst e1; exact ones_append e3 (Flat.ones e5)
theorem Flat.append : ∀ {xs ys : List α} {us ws : List Value}, Flat h k C xs us → Flat h k C ys ws → Flat h k C (xs ++ ys) (us ++ ws)
  | [], _, _, _, e, f => by cases e; exact f
  | x :: xs, ys, _, ws', ⟨vs, ws, e1, e2, e3, e4, e5⟩, f => ⟨vs, ws ++ ws', by subst e1; simp, e2, e3, e4, Flat.append e5 f⟩
theorem Flat.one {x : α} {vs : List Value} (h1 : vs.length = k) (h2 : Mesh.ones vs = true) (h3 : C h x vs) : Flat h k C [x] vs := ⟨vs, [], by simp, h1, h2, h3, rfl⟩
theorem Flat.nil : Flat h k C [] [] := rfl
theorem Flat.get : ∀ {xs : List α} {us : List Value} {i : Nat} {x : α}, Flat h k C xs us → xs[i]? = some x → ∃ vs, vs.length = k ∧ Mesh.ones vs = true ∧ C h x vs ∧ ∀ (j : Nat) (v : Value), vs[j]? = some v → us[i * k + j]? = some v
  | [], _, _, _, _, hx => by simp at hx
  | y :: xs, _, 0, x, ⟨vs, ws, e1, e2, e3, e4, _⟩, hx => by
    simp at hx; subst hx; subst e1
    refine ⟨vs, e2, e3, e4, fun j v hv => ?_⟩
    have hlt := (List.getElem?_eq_some_iff.1 hv).1
    rw [Nat.zero_mul, Nat.zero_add, List.getElem?_append_left hlt]; exact hv
  | y :: xs, _, i + 1, x, ⟨vs, ws, e1, e2, _, _, e5⟩, hx => by
    subst e1
    obtain ⟨us, h1, h2, h3, h4⟩ := Flat.get (i := i) e5 (by simpa using hx)
    refine ⟨us, h1, h2, h3, fun j v hv => ?_⟩
    have := h4 j v hv
    rw [List.getElem?_append_right (by rw [e2, Nat.add_mul]; omega)]
    rw [show (i + 1) * k + j - vs.length = i * k + j by rw [e2, Nat.add_mul]; omega]
    exact this
theorem SLB.of_flat {b off cap : Nat} {arr : Array Value} {t : TypeId} {fz : Nat × Nat} {xs : List α} {us : List Value} (hb : h b = some (.cells arr t fz)) (hf : Flat h k C xs us) (hu : ∀ (j : Nat) (v : Value), us[j]? = some v → arr[off + j]? = some v) (hm : xs.length ≤ B) : SLB B h k C (.slice (some ⟨b, off, none⟩) xs.length cap) xs := by
  refine ⟨hm, .inr ⟨b, off, cap, rfl, fun i x hx => ?_⟩⟩
  obtain ⟨vs, h1, h2, h3, h4⟩ := hf.get hx
  exact ⟨vs, h1, h2, h3, arr, t, fz, hb, fun j v hv => by rw [Nat.add_assoc]; exact hu _ _ (h4 j v hv)⟩
theorem SLB.of_block {b cap : Nat} {t : TypeId} {xs : List α} {us rest : List Value} (hb : h b = some (cells (us ++ rest) t)) (hf : Flat h k C xs us) (hm : xs.length ≤ B) : SLB B h k C (.slice (some ⟨b, 0, none⟩) xs.length cap) xs :=
  SLB.of_flat hb hf (fun j v hv => by
    have hlt := (List.getElem?_eq_some_iff.1 hv).1
    simp [List.getElem?_append_left hlt, hv]) hm
theorem SLB.nil (B : Nat) (h : Frag) (k : Nat) (C : CR α) (p : Option Addr) (cap : Nat) : SLB B h k C (.slice p 0 cap) [] := ⟨by simp, .inl ⟨p, cap, rfl, rfl⟩⟩
/-- all the cells of a slice -/
theorem SLB.flat {v : Value} {xs : List α} (x : SLB B h k C v xs) : ∃ p cap us, v = .slice p xs.length cap ∧ Flat h k C xs us ∧ (xs = [] ∨ ∃ b off, p = some ⟨b, off, none⟩ ∧ At h b off us) := by
  obtain ⟨_, ⟨p, cap, e, rfl⟩ | ⟨b, off, cap, e, g⟩⟩ := x
  · exact ⟨p, cap, [], e, rfl, .inl rfl⟩
  · have key : ∀ (ys : List α) (o : Nat), (∀ (i : Nat) y, ys[i]? = some y → ∃ vs, vs.length = k ∧ Mesh.ones vs = true ∧ C h y vs ∧ At h b (o + i * k) vs) → ∃ us, Flat h k C ys us ∧ (ys = [] ∨ At h b o us) := by
      intro ys
      induction ys with
      | nil => intro o _; exact ⟨[], rfl, .inl rfl⟩
      | cons y ys ih =>
        intro o hg
        obtain ⟨vs, h1, h2, h3, h4⟩ := hg 0 y rfl
        obtain ⟨us, f, a⟩ := ih (o + k) (fun i z hz => by
          obtain ⟨vs, h1, h2, h3, h4⟩ := hg (i + 1) z (by simpa using hz)
          exact ⟨vs, h1, h2, h3, by rw [Nat.add_mul, Nat.one_mul, Nat.add_comm (i * k), ← Nat.add_assoc] at h4; exact h4⟩)
        refine ⟨vs ++ us, ⟨vs, us, rfl, h1, h2, h3, f⟩, .inr ?_⟩
        obtain ⟨arr, t, fz, hb, hc⟩ := h4
        simp only [Nat.zero_mul, Nat.add_zero] at hc
        rcases a with rfl | ⟨arr', t', fz', hb', hc'⟩
        · cases f; exact ⟨arr, t, fz, hb, by simpa using hc⟩
        · rw [hb] at hb'; cases hb'
          refine ⟨arr, t, fz, hb, fun j v hv => ?_⟩
          rw [List.getElem?_append] at hv
          split at hv
          · exact hc j v hv
          · have := hc' _ v hv
            rw [show o + k + (j - vs.length) = o + j by omega] at this
            exact this
    obtain ⟨us, f, a⟩ := key xs off g
    exact ⟨_, cap, us, e, f, a.imp id fun a => ⟨b, off, rfl, a⟩⟩

/-- An owned slice that reads as xs. -/
def OS (h : Frag) (e k : Nat) (C : CR α) (v : Value) (xs : List α) (M : Hp) : Prop := ∃ us, Row e k v xs.length us M ∧ Flat h k C xs us
theorem OS.mono {e : Nat} {v : Value} {xs : List α} {M : Hp} (x : OS h e k C v xs M) (hl : le h h') (hc : CMono C) : OS h' e k C v xs M := let ⟨us, r, f⟩ := x; ⟨us, r, f.mono hl hc⟩
theorem OS.nil (h : Frag) (e k : Nat) (C : CR α) : OS h e k C (.slice none 0 0) [] [] := ⟨[], Row.nil e k, rfl⟩
theorem OS.slice {e : Nat} {v : Value} {xs : List α} {M : Hp} (x : OS h e k C v xs M) : ∃ p cap, v = .slice p xs.length cap := let ⟨_, r, _⟩ := x; r.slice
theorem OS.sl {e : Nat} {v : Value} {xs : List α} {M : Hp} (x : OS h e k C v xs M) (hl : le h h') (hc : CMono C) (hm : ∀ p, p ∈ M → h' p.1 = some p.2) (hx : xs.length ≤ B) : SLB B h' k C v xs := by
  obtain ⟨us, ⟨hu, ⟨rfl, h0, _⟩ | ⟨b, cap, rest, rfl, rfl, _, _⟩⟩, f⟩ := x
  · have : xs = [] := List.eq_nil_of_length_eq_zero h0
    subst this; exact SLB.nil _ _ _ _ _ _
  · exact SLB.of_block (hm (b, cells (us ++ rest) e) (by simp)) (f.mono hl hc) hx

variable {P : Program} {r : Option Nat} {L : Hp} {fr : Fr} {o : Oper} {K : OCont}
/-- append(xs, ys...), xs owned -/
theorem W_appendS {c : Call} {s x : Operand} {t e by_ : Nat} {v u : Value} {xs ys : List α} {z : List Value} {M : Hp} (L2 L3 : Hp) (hos : OS h e k C v xs M) (hsl : SLB B h k C u ys) (hop : o.op = .call c) (hc : c.callee = .builtin .append) (ha : c.args = #[s, x]) (hat : c.argTypes = #[t, t])
    (hs : ev fr s = some v) (hx : ev fr x = some u) (he : elemOf? P t = some (e, k, by_)) (hz : zeroOf P e = some z) (hzk : z.length = k) (hL : L = L2 ++ M) (hs3 : List.Sublist L3 L2)
    (hb : (xs.length + ys.length) * by_ ≤ 140737488355328) (hnm : xs.length + ys.length ≤ 9223372036854775807) (kk : ∀ v' M', OS h e k C v' (xs ++ ys) M' → K h (L3 ++ M') v') : OPw P r o fr h L K := by
  obtain ⟨us, hrow, hf⟩ := hos
  obtain ⟨p, cap, ws, rfl, hfy, hat2⟩ := hsl.flat
  refine W_append (p := p) (cc := cap) (ws := ws) L2 L3 hop hc ha hat hs hx he hz hzk hrow hL hs3 ?_ hfy.length hfy.ones hb hnm fun v' M' hr => kk v' M' ⟨us ++ ws, by simpa using hr, hf.append hfy⟩
  rcases hat2 with rfl | ⟨b, off, rfl, hat2⟩
  · exact .inl rfl
  · exact .inr ⟨b, off, rfl, Rd.pers hat2⟩
/-- append(xs, y): the block of the one element stands at the head of what is owned -/
theorem W_append1 {c : Call} {s x : Operand} {t e by_ b : Nat} {v : Value} {xs : List α} {y : α} {vs z : List Value} {M : Hp} (L2 : Hp) (hos : OS h e k C v xs M) (hop : o.op = .call c) (hc : c.callee = .builtin .append) (ha : c.args = #[s, x]) (hat : c.argTypes = #[t, t])
    (hs : ev fr s = some v) (hx : ev fr x = some (.slice (some ⟨b, 0, none⟩) 1 1)) (he : elemOf? P t = some (e, k, by_)) (hz : zeroOf P e = some z) (hzk : z.length = k) (hL : L = (b, cells vs e) :: (L2 ++ M)) (hvs : vs.length = k) (h1 : ones vs = true) (hy : C h y vs)
    (hb : (xs.length + 1) * by_ ≤ 140737488355328) (hnm : xs.length + 1 ≤ 9223372036854775807) (kk : ∀ v' M', OS h e k C v' (xs ++ [y]) M' → K h (L2 ++ M') v') : OPw P r o fr h L K := by
  obtain ⟨us, hrow, hf⟩ := hos
  refine W_append (ws := vs) ((b, cells vs e) :: L2) L2 hop hc ha hat hs hx he hz hzk hrow hL (List.sublist_cons_self _ _) (.inr ⟨b, 0, rfl, ?_⟩) (by simpa using hvs) h1 hb hnm fun v' M' hr => kk v' M' ⟨us ++ vs, by simpa using hr, hf.append (Flat.one hvs h1 hy)⟩
  rw [hL]; exact Rd.own (List.Mem.head _)
end
end Go.Mesh
/-
  RULES FOR THE WALKER: slices by what they read as; loops over a state; calls that borrow or hand over what is owned; closures.
-/
set_option linter.all false
namespace Go.Mesh
open Go.RowKit
set_option linter.unusedVariables false

class CM {α : Type} (C : CR α) : Prop where
  mono : CMono C
instance : CM IDC := ⟨IDC_mono⟩
instance : CM ValC := ⟨ValC_mono⟩
instance : CM IntC := ⟨IntC_mono⟩
instance (B : Nat) : CM (NodeC B) := ⟨NodeC_mono B⟩
instance (B : Nat) : CM (GraphC B) := ⟨GraphC_mono B⟩
instance : CM RefC := ⟨RefC_mono⟩
instance (B : Nat) : CM (LetterC B) := ⟨LetterC_mono B⟩
instance (B : Nat) : CM (FlightC B) := ⟨FlightC_mono B⟩
instance : CM StubC := ⟨StubC_mono⟩
instance : CM ScionC := ⟨ScionC_mono⟩
instance : CM NamedC := ⟨NamedC_mono⟩
instance (B : Nat) : CM (MailC B) := ⟨MailC_mono B⟩
instance (B : Nat) : CM (ViewC B) := ⟨ViewC_mono B⟩

def blk : Value → Nat
  | .slice (some a) _ _ => a.block
  | _ => 0
def ofs : Value → Nat
  | .slice (some a) _ _ => a.off
  | _ => 0

section
variable {α : Type} {h h' : Frag} {B k j : Nat} {C : CR α} {v : Value} {xs : List α} {x : α} {P : Program} {L : Hp} {fr : Fr} {o : Oper}
theorem SLB.up [c : CM C] (s : SLB B h k C v xs) (hl : Mesh.le h h') : SLB B h' k C v xs := s.mono hl c.mono
theorem OS.up [c : CM C] {e : Nat} {M : Hp} (s : OS h e k C v xs M) (hl : le h h') : OS h' e k C v xs M := s.mono hl c.mono
theorem At.up {b off : Nat} {vs : List Value} (x : At h b off vs) (hl : le h h') : At h' b off vs := x.mono hl
theorem SLB.narrow {B' : Nat} (s : SLB B h k C v xs) (hl : xs.length ≤ B') : SLB B' h k C v xs := ⟨hl, s.2⟩
theorem SLB.at (s : SLB B h k C v xs) (hx : xs[j]? = some x) : (∃ b off cap, v = .slice (some ⟨b, off, none⟩) xs.length cap) ∧ j < xs.length ∧ ∃ vs, vs.length = k ∧ ones vs = true ∧ C h x vs ∧ At h (blk v) (ofs v + j * k) vs := by
  obtain ⟨b, off, cap, vs, rfl, h1, h2, h3, h4, h5⟩ := s.elem hx
  exact ⟨⟨b, off, cap, rfl⟩, h1, vs, h2, h3, h4, h5⟩
theorem Q_indexS {t e by_ : Nat} {sl ix : Operand} {q : IntKind} {i : Int} (s : SLB B h k C v xs) (hx : xs[j]? = some x) (hop : o.op = .indexAddr t sl ix) (hs : ev fr sl = some v) (hi : ev fr ix = some (.int q i)) (he : elemOf? P t = some (e, k, by_)) (hj : i = (j : Int)) : QOP P o fr h L (ptr (blk v) (ofs v + j * k)) := by
  obtain ⟨⟨b, off, cap, rfl⟩, h1, _⟩ := s.at hx
  exact Q_index hop hs hi he hj h1
/-- a load out of known cells -/
def LV (P : Program) (vs : List Value) (fo : Nat) (t : TypeId) (K : Value → Prop) : Prop :=
  (∃ k, tyOf P t = some (true, k) ∧ ((vs.drop fo).take k).length = k ∧ K (.agg ((vs.drop fo).take k).toArray)) ∨ (∃ k v, tyOf P t = some (false, k) ∧ vs[fo]? = some v ∧ K v)
theorem LV_a {vs : List Value} {fo : Nat} {t : TypeId} {K : Value → Prop} {k : Nat} (ht : tyOf P t = some (true, k)) (hk : ((vs.drop fo).take k).length = k) (kk : K (.agg ((vs.drop fo).take k).toArray)) : LV P vs fo t K := .inl ⟨k, ht, hk, kk⟩
theorem LV_1 {vs : List Value} {fo : Nat} {t : TypeId} {K : Value → Prop} {k : Nat} {u : Value} (ht : tyOf P t = some (false, k)) (hv : vs[fo]? = some u) (kk : K u) : LV P vs fo t K := .inr ⟨k, u, ht, hv, kk⟩
theorem LV.lg {b off fo : Nat} {vs : List Value} {t : TypeId} {K : Value → Prop} (x : Rd h L b off vs) (l : LV P vs fo t K) : LG P h L b (off + fo) t K := by
  rcases l with ⟨k, ht, hk, kk⟩ | ⟨k, v, ht, hv, kk⟩
  · exact L_sub x ht hk kk
  · exact L_fld x ht hv kk
theorem L_elA {t : TypeId} {K : Value → Prop} (s : SLB B h k C v xs) (hx : xs[j]? = some x) (ht : tyOf P t = some (true, k)) (kk : ∀ vs, vs.length = k → ones vs = true → C h x vs → K (.agg vs.toArray)) : LG P h L (blk v) (ofs v + j * k) t K := by
  obtain ⟨_, _, vs, h1, h2, h3, h4⟩ := s.at hx
  exact L_agg (Rd.pers h4) ht h1 (kk vs h1 h2 h3)
theorem L_el1 {t k' : Nat} {K : Value → Prop} (s : SLB B h 1 C v xs) (hx : xs[j]? = some x) (ht : tyOf P t = some (false, k')) (kk : ∀ u, C h x [u] → K u) : LG P h L (blk v) (ofs v + j * 1) t K := by
  obtain ⟨_, _, vs, h1, h2, h3, h4⟩ := s.at hx
  match vs, h1, h3, h4 with
  | [u], _, h3, h4 => exact L_one (Rd.pers h4) ht (kk u h3)
theorem L_elF {fo : Nat} {t : TypeId} {K : Value → Prop} (s : SLB B h k C v xs) (hx : xs[j]? = some x) (kk : ∀ vs, vs.length = k → ones vs = true → C h x vs → LV P vs fo t K) : LG P h L (blk v) (ofs v + j * k + fo) t K := by
  obtain ⟨_, _, vs, h1, h2, h3, h4⟩ := s.at hx
  exact LV.lg (Rd.pers h4) (kk vs h1 h2 h3)
theorem L_elF2 {f1 f2 : Nat} {t : TypeId} {K : Value → Prop} (s : SLB B h k C v xs) (hx : xs[j]? = some x) (kk : ∀ vs, vs.length = k → ones vs = true → C h x vs → LV P vs (f1 + f2) t K) : LG P h L (blk v) (ofs v + j * k + f1 + f2) t K := by
  rw [Nat.add_assoc]; exact L_elF s hx kk
theorem L_elF3 {f1 f2 f3 : Nat} {t : TypeId} {K : Value → Prop} (s : SLB B h k C v xs) (hx : xs[j]? = some x) (kk : ∀ vs, vs.length = k → ones vs = true → C h x vs → LV P vs (f1 + f2 + f3) t K) : LG P h L (blk v) (ofs v + j * k + f1 + f2 + f3) t K := by
  rw [Nat.add_assoc (ofs v + j * k + f1), Nat.add_assoc (ofs v + j * k), ← Nat.add_assoc f1]; exact L_elF s hx kk
theorem L_fld2 {b off f1 f2 : Nat} {vs : List Value} {t : TypeId} {K : Value → Prop} (x : Rd h L b off vs) (kk : LV P vs (f1 + f2) t K) : LG P h L b (off + f1 + f2) t K := by
  rw [Nat.add_assoc]; exact kk.lg x
theorem L_fld3 {b off f1 f2 f3 : Nat} {vs : List Value} {t : TypeId} {K : Value → Prop} (x : Rd h L b off vs) (kk : LV P vs (f1 + f2 + f3) t K) : LG P h L b (off + f1 + f2 + f3) t K := by
  rw [Nat.add_assoc (off + f1), Nat.add_assoc off, ← Nat.add_assoc f1]; exact kk.lg x
/-- an owned slice -/
theorem OS.at {e : Nat} {M : Hp} (s : OS h e k C v xs M) (hx : xs[j]? = some x) : (∃ b cap, v = .slice (some ⟨b, 0, none⟩) xs.length cap) ∧ j < xs.length ∧ ∃ vs, vs.length = k ∧ ones vs = true ∧ C h x vs ∧ ∀ L, (∀ p, p ∈ M → p ∈ L) → Rd h L (blk v) (ofs v + j * k) vs := by
  obtain ⟨us, ⟨hu, ⟨rfl, h0, _⟩ | ⟨b, cap, rest, rfl, rfl, _, _⟩⟩, f⟩ := s
  · have : xs = [] := List.eq_nil_of_length_eq_zero h0
    subst this; simp at hx
  · obtain ⟨vs, h1, h2, h3, h4⟩ := f.get hx
    refine ⟨⟨b, cap, rfl⟩, (List.getElem?_eq_some_iff.1 hx).1, vs, h1, h2, h3, fun L hL => ⟨(us ++ rest).toArray, e, (0, 0), .inr (hL (b, cells (us ++ rest) e) (by simp)), fun i u hi => ?_⟩⟩
    have := h4 i u hi
    have hlt := (List.getElem?_eq_some_iff.1 this).1
    simp only [ofs, Nat.zero_add, List.getElem?_toArray]
    rw [List.getElem?_append_left hlt]; exact this
theorem Q_indexO {t e e' by_ : Nat} {sl ix : Operand} {q : IntKind} {i : Int} {M : Hp} (s : OS h e' k C v xs M) (hx : xs[j]? = some x) (hop : o.op = .indexAddr t sl ix) (hs : ev fr sl = some v) (hi : ev fr ix = some (.int q i)) (he : elemOf? P t = some (e, k, by_)) (hj : i = (j : Int)) : QOP P o fr h L (ptr (blk v) (ofs v + j * k)) := by
  obtain ⟨⟨b, cap, rfl⟩, h1, _⟩ := s.at hx
  exact Q_index hop hs hi he hj h1
theorem L_oelA {t e : Nat} {M : Hp} {K : Value → Prop} (A B' : Hp) (s : OS h e k C v xs M) (hx : xs[j]? = some x) (hL : L = A ++ (M ++ B')) (ht : tyOf P t = some (true, k)) (kk : ∀ vs, vs.length = k → ones vs = true → C h x vs → K (.agg vs.toArray)) : LG P h L (blk v) (ofs v + j * k) t K := by
  obtain ⟨_, _, vs, h1, h2, h3, h4⟩ := s.at hx
  exact L_agg (h4 L (fun p hp => by rw [hL]; simp [hp])) ht h1 (kk vs h1 h2 h3)
theorem Q_lenO {c : Call} {x : Operand} {t e e' : TypeId} {M : Hp} (hop : o.op = .call c) (hc : c.callee = .builtin .len) (ha : c.args = #[x]) (hat : c.argTypes = #[t]) (hx : ev fr x = some v) (ht : P.underlying t = some (.slice e))
    (s : OS h e' k C v xs M) : QOP P o fr h L (.int .i64 (xs.length : Int)) := by
  obtain ⟨p, cap, rfl⟩ := s.slice
  exact Q_len hop hc ha hat hx ht
end

/-! ### Loops over a state -/
section
variable {P : Program} {r : Option Nat} {N : Nat} {h : Frag} {L : Hp} {D : List Nat} {fr : Fr} {Q : Post}
/-- the slots that are picked, with what they hold -/
def Pick (fr : Fr) : List Nat → Fr → Prop
  | [], f => f = []
  | s :: ss, f => ∃ v g, get? fr s = some v ∧ Pick fr ss g ∧ f = (s, v) :: g
theorem Pick.sub {fr : Fr} : ∀ {ss : List Nat} {f : Fr}, Pick fr ss f → FrSub f fr
  | [], _, e => by cases e; trivial
  | s :: ss, _, ⟨v, g, h1, h2, h3⟩ => by subst h3; exact ⟨h1, Pick.sub h2⟩
theorem FrSub.append : ∀ {f g fr : Fr}, FrSub f fr → FrSub g fr → FrSub (f ++ g) fr
  | [], _, _, _, y => y
  | (_, _) :: _, _, _, ⟨h1, h2⟩, y => ⟨h1, FrSub.append h2 y⟩
def roundF {α : Type} (m : α → Nat) (Lf : α → Hp) (ff : α → Fr) (Inv : Frag → α → Prop) (fk : Fr) (n : Nat) (D : List Nat) (Q : Post) : Post
  | .normal, h, L, D', fr => D' = D ∧ ∃ a, m a < n ∧ Inv h a ∧ List.Sublist (Lf a) L ∧ FrSub (ff a ++ fk) fr
  | e, h, L, D', fr => Q e h L D' fr
theorem WP_loopF {α : Type} {c : Code} (ks : List Nat) (m : α → Nat) (Lf : α → Hp) (ff : α → Fr) (Inv : Frag → α → Prop) (a0 : α) {fk : Fr} (hk : Pick fr ks fk) (h0 : Inv h a0) (hL : List.Sublist (Lf a0) L) (hs : FrSub (ff a0) fr)
    (round : ∀ h1 a, le h h1 → Inv h1 a → WP P r N c h1 (Lf a) D (ff a ++ fk) (roundF m Lf ff Inv fk (m a) D Q)) : WP P r N (.loop c) h L D fr Q := by
  refine WP.drop hL (WP_loop (fun n h' L' D' fr' => D' = D ∧ ∃ a, n = m a ∧ Inv h' a ∧ L' = Lf a ∧ fr' = ff a ++ fk) (m a0) (ff a0 ++ fk) ⟨rfl, a0, rfl, h0, rfl, rfl⟩ (hs.append hk.sub) ?_)
  rintro n h1 L1 D1 fr1 hl ⟨rfl, a, rfl, hi, rfl, rfl⟩
  intro ac w fa hw
  refine wpIn_mono (round h1 a hl hi ac w fa hw) fun e a2 w2 ⟨h2, L2, D2, fr2, q, f2, e2⟩ => ?_
  cases e with
  | normal =>
    obtain ⟨rfl, a', hm, hi', hs', hf'⟩ := q
    exact ⟨h2, Lf a', _, fr2, ⟨m a', hm, _, hf', rfl, a', rfl, hi', rfl, rfl⟩, f2, e2.drop hs'⟩
  | _ => exact ⟨h2, L2, D2, fr2, q, f2, e2⟩
theorem WP_loopC {α : Type} {c : Code} (ks : List Nat) (m : α → Nat) (ff : α → Fr) (Inv : Frag → α → Prop) (a0 : α) {fk : Fr} (hk : Pick fr ks fk) (hs : FrSub (ff a0) fr) (h0 : Inv h a0)
    (round : ∀ h1 a, le h h1 → Inv h1 a → WP P r N c h1 L D (ff a ++ fk) (roundF m (fun _ => L) ff Inv fk (m a) D Q)) : WP P r N (.loop c) h L D fr Q :=
  WP_loopF ks m (fun _ => L) ff Inv a0 hk h0 (List.Sublist.refl _) hs round
theorem WP_loopM {α : Type} {c : Code} (A B : Hp) (ks : List Nat) (m : α → Nat) (Mf : α → Hp) (ff : α → Fr) (Inv : Frag → α → Prop) (a0 : α) {fk : Fr} (hL : L = A ++ (Mf a0 ++ B)) (hk : Pick fr ks fk) (hs : FrSub (ff a0) fr) (h0 : Inv h a0)
    (round : ∀ h1 a, le h h1 → Inv h1 a → WP P r N c h1 (A ++ (Mf a ++ B)) D (ff a ++ fk) (roundF m (fun a => A ++ (Mf a ++ B)) ff Inv fk (m a) D Q)) : WP P r N (.loop c) h L D fr Q :=
  WP_loopF ks m (fun a => A ++ (Mf a ++ B)) ff Inv a0 hk h0 (by rw [hL]; exact List.Sublist.refl _) hs round
theorem roundF_r {α : Type} {m : α → Nat} {Lf : α → Hp} {ff : α → Fr} {Inv : Frag → α → Prop} {fk : Fr} {n : Nat} {D' : List Nat} (x : Q .ret h L D' fr) : roundF m Lf ff Inv fk n D Q .ret h L D' fr := x
theorem roundF_e {α : Type} {m : α → Nat} {Lf : α → Hp} {ff : α → Fr} {Inv : Frag → α → Prop} {fk : Fr} {n id : Nat} {D' : List Nat} (x : Q (.exit id) h L D' fr) : roundF m Lf ff Inv fk n D Q (.exit id) h L D' fr := x
theorem roundF_n {α : Type} {m : α → Nat} {Lf : α → Hp} {ff : α → Fr} {Inv : Frag → α → Prop} {fk : Fr} {n : Nat} (a : α) (hm : m a < n) (hi : Inv h a) (hs : List.Sublist (Lf a) L) (hf : FrSub (ff a ++ fk) fr) : roundF m Lf ff Inv fk n D Q .normal h L D fr := ⟨rfl, a, hm, hi, hs, hf⟩
end

/-! ### Calls -/
section
variable {P : Program} {r : Option Nat} {N : Nat} {h : Frag} {L : Hp} {D : List Nat} {fr : Fr} {o : Oper} {K : OCont} {ops : Array Oper} {rest : List Oper} {Cc : Frag → Hp → Fr → Prop}
/-- closures: a function value with what it captures -/
theorem W_callC {c : Call} {f : FuncId} {fo : Operand} {cap : List Value} {vs : List Value} {R : OCont} {M : Hp} (A B : Hp) (x : FSpec P f (vs ++ cap).toArray h M R) (hop : o.op = .call c) (hc : c.callee = .value fo) (hf : ev fr fo = some (.func (.func f) #[] cap.toArray)) (hvs : evs fr c.args.toList vs) (hcal : callOk P f = true) (hL : L = A ++ (M ++ B))
    (k : ∀ h' M' v, le h h' → R h' M' v → K h' (A ++ (M' ++ B)) v) : OPw P r o fr h L K := by
  obtain ⟨fn, hfn, hn, hb⟩ := callOk_spec hcal
  have e : (#[] ++ vs.toArray ++ cap.toArray : Array Value) = (vs ++ cap).toArray := by simp
  have hp : L.Perm (M ++ (A ++ B)) := by rw [hL]; simpa using (List.perm_append_comm_assoc A M B)
  have y := OPw_callM (r := r) (L := L) (M := M) (L2 := A ++ B) (K := fun h' L' v => ∃ M', L' = M' ++ (A ++ B) ∧ K h' (A ++ (M' ++ B)) v) hop hc hf hvs hfn hn hb hp (by rw [e]; exact x) (fun h' M' v hl q => ⟨M', rfl, k h' M' v hl q⟩)
  intro a ha w hw
  refine Oper.wpIn_mono (fun a' w' ⟨h', L', v, e1, ⟨M', e2, q⟩, z⟩ => ⟨h', A ++ (M' ++ B), v, e1, q, ?_⟩) (y a ha w hw)
  subst e2
  exact z.perm (by simpa using (List.perm_append_comm_assoc A M' B))
theorem W_callF {c : Call} {f : FuncId} {vs : List Value} {R : OCont} {M : Hp} (A B : Hp) (x : FSpec P f vs.toArray h M R) (hop : o.op = .call c) (hc : c.callee = .value (.func f)) (hvs : evs fr c.args.toList vs) (hcal : callOk P f = true) (hL : L = A ++ (M ++ B))
    (k : ∀ h' M' v, le h h' → R h' M' v → K h' (A ++ (M' ++ B)) v) : OPw P r o fr h L K :=
  W_callC (cap := []) A B (by simpa using x) hop hc rfl hvs hcal hL k
/-- what nobody else writes is lent: it is read alone -/
theorem PSpec.lend {f : FuncId} {args : Array Value} {M : Hp} {R : Value → Prop} (x : ∀ h', le h h' → (∀ p, p ∈ M → h' p.1 = some p.2) → PSpec P f args h' (fun _ v => R v)) : FSpec P f args h M (fun h' L' v => h' = h ∧ L' = M ∧ R v) := by
  intro w hw
  have hw2 : Holds h (M ++ []) w := by simpa using hw
  obtain ⟨e0, hm⟩ := Ext.keep hw2
  refine (x _ e0.le hm w e0.holds).mono fun e w' ⟨v, h', L', he, ⟨hL', q⟩, y⟩ => ⟨v, h, M, he, ⟨rfl, rfl, q⟩, ?_⟩
  have hfr : ∀ b, b < w.heap.size → w'.heap[b]? = w.heap[b]? := fun b hb => y.frame b hb (by simp [ids])
  refine ⟨le_refl h, ⟨⟨fun b o e => ?_, fun p hp => ?_⟩, hw.nodup, hw.apart⟩, y.size, fun b hb _ => hfr b hb, fun b o e => .inl e, fun p hp => .inr (mem_ids hp), y.os, y.tape, y.output, y.drawn⟩
  · rw [hfr b (hw.pers_lt e)]; exact hw.sees.pers b o e
  · rw [hfr _ (hw.lt hp)]; exact hw.sees.own p hp
/-- a closure that needs nothing owned -/
theorem C_callC {c : Call} {f : FuncId} {fo : Operand} {cap vs : List Value} {R : Frag → Value → Prop} (x : PSpec P f (vs ++ cap).toArray h R) (hop : o.op = .call c) (hc : c.callee = .value fo) (hf : ev fr fo = some (.func (.func f) #[] cap.toArray)) (hvs : evs fr c.args.toList vs) (hcal : callOk P f = true) (k : ∀ h' v, le h h' → R h' v → K h' [] v) : OPc P r o fr h L K := by
  obtain ⟨fn, hfn, hn, hb⟩ := callOk_spec hcal
  have e : (#[] ++ vs.toArray ++ cap.toArray : Array Value) = (vs ++ cap).toArray := by simp
  exact OPc_call (first := #[]) (cap := cap.toArray) (R := fun h' L' v => L' = [] ∧ R h' v) hop hc hf hvs hfn hn hb (by rw [e]; exact x) fun h' L' v hl ⟨e, q⟩ => by subst e; exact k h' v hl q
theorem C_callC0 {c : Call} {f : FuncId} {fo : Operand} {cap vs : List Value} {R : Value → Prop} (x : PSpec P f (vs ++ cap).toArray h (fun _ v => R v)) (hop : o.op = .call c) (hc : c.callee = .value fo) (hf : ev fr fo = some (.func (.func f) #[] cap.toArray)) (hvs : evs fr c.args.toList vs) (hcal : callOk P f = true) (k : ∀ v, R v → K h [] v) : OPc P r o fr h L K := by
  have y : OPc P r o fr h L (fun _ M v => M = [] ∧ R v) := C_callC x hop hc hf hvs hcal fun _ v _ q => ⟨rfl, q⟩
  intro a ha w hw
  refine Oper.wpIn_mono (fun a' w' ⟨h', M, v, e, ⟨hM, q⟩, z⟩ => ?_) (y a ha w hw)
  subst hM
  exact ⟨h, [], v, e, k v q, z.forget⟩
theorem C_callCv {c : Call} {f : FuncId} {fo : Operand} {cap vs : List Value} {v : Value} (x : PSpec P f (vs ++ cap).toArray h (fun _ u => u = v)) (hop : o.op = .call c) (hc : c.callee = .value fo) (hf : ev fr fo = some (.func (.func f) #[] cap.toArray)) (hvs : evs fr c.args.toList vs) (hcal : callOk P f = true) (k : K h [] v) : OPc P r o fr h L K :=
  C_callC0 x hop hc hf hvs hcal fun u e => by subst e; exact k
/-- owned blocks anywhere are given over -/
theorem keepAt {M A B : Hp} {w : World} (hw : Holds h (A ++ (M ++ B)) w) : ∃ h', Ext h (A ++ (M ++ B)) w h' (A ++ B) w ∧ ∀ p, p ∈ M → h' p.1 = some p.2 := by
  have hp : (M ++ (A ++ B)).Perm (A ++ (M ++ B)) := (List.perm_append_comm_assoc A M B).symm
  obtain ⟨e0, hm⟩ := Ext.keep (hw.perm hp)
  exact ⟨_, e0.of_perm hp.symm, hm⟩
theorem OPS_keepM {l : List Oper} (A M B : Hp) (hL : L = A ++ (M ++ B)) (x : ∀ h', le h h' → (∀ p, p ∈ M → h' p.1 = some p.2) → OPS P r N D ops l h' (A ++ B) fr Cc) : OPS P r N D ops l h L fr Cc := by
  subst hL
  intro a w fa hw
  obtain ⟨h', e0, hm⟩ := keepAt hw
  exact wpListIn_mono (fun e a' w' ⟨he, h2, L', fr', q, f, e1⟩ => ⟨he, h2, L', fr', q, f, e0.trans e1⟩) _ _ _ (x _ e0.le hm a w fa e0.holds)
theorem WP_keepM {c : Code} {Q : Post} (A M B : Hp) (hL : L = A ++ (M ++ B)) (x : ∀ h', le h h' → (∀ p, p ∈ M → h' p.1 = some p.2) → WP P r N c h' (A ++ B) D fr Q) : WP P r N c h L D fr Q := by
  subst hL
  intro a w fa hw
  obtain ⟨h', e0, hm⟩ := keepAt hw
  exact wpIn_mono (x h' e0.le hm a w fa e0.holds) fun _ _ _ ⟨h', L', D', fr', q, f, e⟩ => ⟨h', L', D', fr', q, f, e0.trans e⟩
/-- a box that is only read from here on -/
theorem at_of_keep {h' : Frag} {b t : Nat} {l : List Value} (e : ∀ p, p ∈ [(b, cells l t)] → h' p.1 = some p.2) : At h' b 0 l :=
  ⟨l.toArray, t, (0, 0), e (b, cells l t) (by simp), fun j v hv => by simpa using hv⟩
end
/-! ### Appends, with what is owned in three parts -/
section
variable {α : Type} {P : Program} {r : Option Nat} {h : Frag} {L : Hp} {fr : Fr} {o : Oper} {K : OCont} {B k : Nat} {C : CR α}
theorem OPw_perm {L2 : Hp} (hp : L.Perm L2) (x : OPw P r o fr h L2 K) : OPw P r o fr h L K := by
  intro a ha w hw
  exact Oper.wpIn_mono (fun a' w' ⟨h', L', v, e, q, z⟩ => ⟨h', L', v, e, q, z.of_perm hp⟩) (x a ha w (hw.perm hp.symm))
theorem OPw_permK {K' : OCont} (x : OPw P r o fr h L K') (hk : ∀ h' L' v, K' h' L' v → ∃ L'', L''.Perm L' ∧ K h' L'' v) : OPw P r o fr h L K := by
  intro a ha w hw
  refine Oper.wpIn_mono (fun a' w' ⟨h', L', v, e, q, z⟩ => ?_) (x a ha w hw)
  obtain ⟨L'', hp, q'⟩ := hk _ _ _ q
  exact ⟨h', L'', v, e, q', z.perm hp⟩
/-- append(xs, ys...), xs owned, ys not -/
theorem W_appS {c : Call} {s x : Operand} {t e by_ : Nat} {v u : Value} {xs ys : List α} {z : List Value} {M : Hp} (A A2 : Hp) (hos : OS h e k C v xs M) (hsl : SLB B h k C u ys) (hop : o.op = .call c) (hc : c.callee = .builtin .append) (ha : c.args = #[s, x]) (hat : c.argTypes = #[t, t])
    (hs : ev fr s = some v) (hx : ev fr x = some u) (he : elemOf? P t = some (e, k, by_)) (hz : zeroOf P e = some z) (hzk : z.length = k) (hL : L = A ++ (M ++ A2))
    (hb : (xs.length + ys.length) * by_ ≤ 140737488355328) (hnm : xs.length + ys.length ≤ 9223372036854775807) (kk : ∀ p c M', OS h e k C (.slice p (xs ++ ys).length c) (xs ++ ys) M' → K h (A ++ (M' ++ A2)) (.slice p (xs ++ ys).length c)) : OPw P r o fr h L K := by
  refine OPw_perm (L2 := (A ++ A2) ++ M) (by rw [hL]; simpa using (List.perm_append_comm (l₁ := M) (l₂ := A2)).append_left A) (OPw_permK (W_appendS (A ++ A2) (A ++ A2) hos hsl hop hc ha hat hs hx he hz hzk rfl (List.Sublist.refl _) hb hnm
    (K := fun h' L' v' => ∃ M', L' = (A ++ A2) ++ M' ∧ K h' (A ++ (M' ++ A2)) v') fun v' M' q => ⟨M', rfl, by obtain ⟨p, c, rfl⟩ := q.slice; exact kk p c M' q⟩) fun h' L' v' ⟨M', e1, q⟩ => ⟨_, ?_, q⟩)
  subst e1
  simpa using (List.perm_append_comm (l₁ := M') (l₂ := A2)).append_left A
/-- append(xs, y): the block of the one element stands at the head of what is owned -/
theorem W_app1 {c : Call} {s x : Operand} {t e by_ b : Nat} {v : Value} {xs : List α} {y : α} {vs z : List Value} {M : Hp} (A A2 : Hp) (hos : OS h e k C v xs M) (hop : o.op = .call c) (hc : c.callee = .builtin .append) (ha : c.args = #[s, x]) (hat : c.argTypes = #[t, t])
    (hs : ev fr s = some v) (hx : ev fr x = some (.slice (some ⟨b, 0, none⟩) 1 1)) (he : elemOf? P t = some (e, k, by_)) (hz : zeroOf P e = some z) (hzk : z.length = k) (hL : L = (b, cells vs e) :: (A ++ (M ++ A2))) (hvs : vs.length = k) (h1 : ones vs = true) (hy : C h y vs)
    (hb : (xs.length + 1) * by_ ≤ 140737488355328) (hnm : xs.length + 1 ≤ 9223372036854775807) (kk : ∀ p c M', OS h e k C (.slice p (xs ++ [y]).length c) (xs ++ [y]) M' → K h (A ++ (M' ++ A2)) (.slice p (xs ++ [y]).length c)) : OPw P r o fr h L K := by
  refine OPw_perm (L2 := (b, cells vs e) :: ((A ++ A2) ++ M)) (by rw [hL]; exact List.Perm.cons _ (by simpa using (List.perm_append_comm (l₁ := M) (l₂ := A2)).append_left A)) (OPw_permK (W_append1 (A ++ A2) hos hop hc ha hat hs hx he hz hzk rfl hvs h1 hy hb hnm
    (K := fun h' L' v' => ∃ M', L' = (A ++ A2) ++ M' ∧ K h' (A ++ (M' ++ A2)) v') fun v' M' q => ⟨M', rfl, by obtain ⟨p, c, rfl⟩ := q.slice; exact kk p c M' q⟩) fun h' L' v' ⟨M', e1, q⟩ => ⟨_, ?_, q⟩)
  subst e1
  simpa using (List.perm_append_comm (l₁ := M') (l₂ := A2)).append_left A
end
end Go.Mesh
/-
  RULES FOR THE WALKER, SECOND PART: fixed results of calls, undecided choices; identities and whole numbers as keys of maps.
-/
set_option linter.all false
namespace Go.Mesh
open Go.RowKit
set_option linter.unusedVariables false
section
variable {P : Program} {r : Option Nat} {N : Nat} {h : Frag} {L : Hp} {D : List Nat} {fr : Fr} {o : Oper} {K : OCont} {ops : Array Oper} {rest l : List Oper} {C : Frag → Hp → Fr → Prop} {fuel n m i : Nat}
theorem C_callv {c : Call} {f : FuncId} {vs : List Value} {v : Value} (x : PSpec P f vs.toArray h (fun _ u => u = v)) (hop : o.op = .call c) (hc : c.callee = .value (.func f)) (hvs : evs fr c.args.toList vs) (hcal : callOk P f = true) (k : K h [] v) : OPc P r o fr h L K :=
  C_call0 x hop hc hvs hcal fun u e => by subst e; exact k
theorem yielded_un {a : Act} (fa : FrOk N D fr a) {j : Nat} {oj : Oper} {d : Nat} (hj : ops[j]? = some oj) (hd : oj.dst = some d) (hv : get? fr d = some undef) : yielded ops a.tmps j = none := by
  simp [yielded, hj, hd, fa.slots d _ hv, undef]
/-- a guard that was not asked itself -/
theorem S_gu {d j dj : Nat} {want : Bool} {oj : Oper} (hd : o.dst = some d) (hN : Nat.blt d N = true) (hg : o.guard = some (j, want)) (hj : ops[j]? = some oj) (hdj : oj.dst = some dj) (hv : get? fr dj = some undef)
    (x : OPS P r N D ops rest h L ((d, undef) :: fr) C) : OPS P r N D ops (o :: rest) h L fr C := by
  intro a w fa hw
  have hy := yielded_un (ops := ops) fa hj hdj hv
  have hne : ((none : Option Bool) == some want) = false := by cases want <;> rfl
  simp only [wpListIn, Region.wanted, hg, hy, hne, Bool.false_eq_true, if_false]
  refine ⟨fun _ _ => trivial, ?_⟩
  rw [hd]
  exact x _ _ (fa.put (dst := some d) hN undef) hw
theorem A_gu {d i j dj m' : Nat} {want : Bool} {oj : Oper} (hd : o.dst = some d) (hN : Nat.blt d N = true) (hg : o.guard = some (j, want)) (hj : nth l j = some oj) (hdj : oj.dst = some dj) (hv : get? fr dj = some undef)
    (hm : m ||| 2 ^ i = m') (hf : firstB l.toArray (lst n m) i = true) (x : ANY P r N D l.toArray fuel (lst n m') h L ((d, undef) :: fr) C) : ANYo P r N D l (fuel + 1) n m i o h L fr C := by
  intro hi a fa
  obtain ⟨h1, h2, h3, h4⟩ := first_parts hi hf
  have hj' : l.toArray[j]? = some oj := by rw [nth_eq] at hj; simpa using hj
  have hy := yielded_un (ops := l.toArray) fa hj' hdj hv
  have x' : ANY P r N D l.toArray fuel ((lst n m).setIfInBounds i true) h L (putd fr o.dst undef) C := by rw [hd, lst_set hm]; exact x
  exact ANYa_first hi h2 fuel (lst n m) a h L h1 h4 h3 (.inr ⟨by simp only [Region.wanted, hg, hy]; cases want <;> rfl, rfl⟩) (x' _ (fa.put (dstOk_of hd hN) undef))
theorem pretKM {fn : Func} {R : Frag → Value → Prop} {e : Exit} {rs : List ResultVar} {vs : List Value} (A M B : Hp) (hL : L = A ++ (M ++ B)) (he : e = .ret ∨ e = .normal) (hrs : fn.results.toList = rs) (hr : resVals P h L fr rs vs) (x : ∀ h', le h h' → (∀ p, p ∈ M → h' p.1 = some p.2) → R h' (resOf vs)) : retQ P fn (fun h' L' v => L' = [] ∧ R h' v) e h L [] fr :=
  ⟨he, rfl, vs, by rw [hrs]; exact hr, fun w hw => by
    subst hL
    obtain ⟨h', e, hm⟩ := keepAt hw
    exact ⟨h', [], e.drop (List.nil_sublist _), rfl, x h' e.le hm⟩⟩
theorem W_callB {c : Call} {f : FuncId} {vs : List Value} {R : Value → Prop} {M : Hp} (A B : Hp) (x : ∀ h', le h h' → (∀ p, p ∈ M → h' p.1 = some p.2) → PSpec P f vs.toArray h' (fun _ v => R v)) (hop : o.op = .call c) (hc : c.callee = .value (.func f)) (hvs : evs fr c.args.toList vs) (hcal : callOk P f = true) (hL : L = A ++ (M ++ B))
    (k : ∀ v, R v → K h (A ++ (M ++ B)) v) : OPw P r o fr h L K :=
  W_callF A B (PSpec.lend x) hop hc hvs hcal hL fun h' M' v _ ⟨e1, e2, q⟩ => by subst e1; subst e2; exact k v q
theorem W_callBv {c : Call} {f : FuncId} {vs : List Value} {v : Value} {M : Hp} (A B : Hp) (x : ∀ h', le h h' → (∀ p, p ∈ M → h' p.1 = some p.2) → PSpec P f vs.toArray h' (fun _ u => u = v)) (hop : o.op = .call c) (hc : c.callee = .value (.func f)) (hvs : evs fr c.args.toList vs) (hcal : callOk P f = true) (hL : L = A ++ (M ++ B))
    (k : K h (A ++ (M ++ B)) v) : OPw P r o fr h L K :=
  W_callB A B x hop hc hvs hcal hL fun u e => by subst e; exact k
theorem YSpec.wide {l : Nat} {args : Array Value} {R : OCont} {M : Hp} (A B : Hp) (x : YSpec P l args h M R) : YSpec P l args h (A ++ (M ++ B)) (fun h' L' v => ∃ M', L' = A ++ (M' ++ B) ∧ R h' M' v) := by
  intro w hw
  have hp : (M ++ (A ++ B)).Perm (A ++ (M ++ B)) := (List.perm_append_comm_assoc A M B).symm
  have hw2 := hw.perm hp
  obtain ⟨fn, tmps, assign, body, h1, h2⟩ := x w (hw2.drop (List.sublist_append_left _ _))
  refine ⟨fn, tmps, assign, body, h1, h2.mono fun e w' ⟨v, h', L', he, q, y⟩ => ⟨v, h', A ++ (L' ++ B), he, ⟨L', rfl, q⟩, ?_⟩⟩
  exact ((y.framed hw2).of_perm hp.symm).perm (List.perm_append_comm_assoc A L' B)
theorem W_yield {c : Call} {l : Nat} {fo : Operand} {vs : List Value} {R : OCont} {M : Hp} (A B : Hp) (x : YSpec P l vs.toArray h M R) (hop : o.op = .call c) (hc : c.callee = .value fo) (hf : ev fr fo = some (.func (.yield l) #[] #[])) (hvs : evs fr c.args.toList vs) (hL : L = A ++ (M ++ B))
    (k : ∀ h' M' v, le h h' → R h' M' v → K h' (A ++ (M' ++ B)) v) : OPw P r o fr h L K := by
  subst hL
  exact OPw_yield hop hc hf hvs (x.wide A B) fun h' L' v hl ⟨M', e, q⟩ => by subst e; exact k h' M' v hl q
theorem S_gw {d j dj : Nat} {want : Bool} {oj : Oper} (hd : o.dst = some d) (hN : Nat.blt d N = true) (hg : o.guard = some (j, want)) (hj : ops[j]? = some oj) (hdj : oj.dst = some dj) (hv : get? fr dj = some (.bool want))
    (x : OPw P r o fr h L (fun h' L' v => OPS P r N D ops rest h' L' ((d, v) :: fr) C)) : OPS P r N D ops (o :: rest) h L fr C :=
  OPS_gw hg hj hdj hv (dstOk_of hd hN) (by rw [hd]; exact x)
theorem S_psplit {d : Nat} {x y : Operand} {b : Bool} (hop : o.op = .pick (.tmp d) x y) (hv : get? fr d = some (.bool b)) (t : b = true → OPS P r N D ops (o :: rest) h L ((d, .bool true) :: fr) C) (f : b = false → OPS P r N D ops (o :: rest) h L ((d, .bool false) :: fr) C) : OPS P r N D ops (o :: rest) h L fr C :=
  S_split hv t f
theorem A_psplit {d : Nat} {x y : Operand} {b : Bool} (hop : o.op = .pick (.tmp d) x y) (hv : get? fr d = some (.bool b))
    (t : b = true → ANY P r N D l.toArray fuel (lst n m) h L ((d, .bool true) :: fr) C) (f : b = false → ANY P r N D l.toArray fuel (lst n m) h L ((d, .bool false) :: fr) C) : ANYo P r N D l fuel n m i o h L fr C :=
  fun _ => A_split hv t f
end
theorem SLB.none_nil {α : Type} {B : Nat} {h : Frag} {k n c : Nat} {C : CR α} {xs : List α} (s : SLB B h k C (.slice none n c) xs) : xs = [] := by
  obtain ⟨_, ⟨_, _, e, rfl⟩ | ⟨b, off, cap', e, _⟩⟩ := s
  · rfl
  · simp at e
theorem OS.lit0 {α : Type} (h : Frag) (e k : Nat) (C : CR α) (b : Nat) : OS h e k C (.slice (some ⟨b, 0, none⟩) 0 0) [] [(b, cells [] e)] := ⟨[], Row.lit (by simp), rfl⟩
def idv (x : ID) : Value := .agg (idc x).toArray
def itv (x : Int) : Value := .int .i64 x
theorem key_id {l : List Value} {a b : Int} {fr : Fr} {y : Operand} (hy : ev fr y = some (.agg l.toArray)) (hl : l = [.int .i64 a, .int .i64 b] := by rfl) : ev fr y = some (idv (a, b)) := by rw [hy, hl]; rfl
abbrev IsMapP {κ : Type} (kc : κ → Value) (h : Frag) (b : Nat) (ps : List (κ × Value)) : Prop := h b = some (mapObj kc ps)
theorem IsMapP.up {κ : Type} {kc : κ → Value} {h h' : Frag} {b : Nat} {ps : List (κ × Value)} (x : IsMapP kc h b ps) (hl : le h h') : IsMapP kc h' b ps := hl _ _ x
section
variable {κ : Type} [DecidableEq κ] {P : Program} {r : Option Nat} {h : Frag} {L : Hp} {fr : Fr} {o : Oper} {K : OCont} {kc : κ → Value} {t kt et b : Nat} {x y : Operand} {k : κ} {ps : List (κ × Value)} {z v : Value}
theorem Q_lookupS (hop : o.op = .lookup t x y false) (hx : ev fr x = some (.map (some b))) (hy : ev fr y = some (kc k)) (kl : KeyLaw P kt kc) (ht : P.underlying t = some (.map kt et)) (hz : zvOf P et = some z) (hm : IsMap h L b (mapObj kc ps)) (hg : mget k ps = some v) : QOP P o fr h L v := by
  have := Q_lookup hop hx hy kl ht hz hm; rw [hg] at this; exact this
theorem Q_lookupN (hop : o.op = .lookup t x y false) (hx : ev fr x = some (.map (some b))) (hy : ev fr y = some (kc k)) (kl : KeyLaw P kt kc) (ht : P.underlying t = some (.map kt et)) (hz : zvOf P et = some z) (hm : IsMap h L b (mapObj kc ps)) (hg : mget k ps = none) : QOP P o fr h L z := by
  have := Q_lookup hop hx hy kl ht hz hm; rw [hg] at this; exact this
theorem Q_lookupOkS (hop : o.op = .lookup t x y true) (hx : ev fr x = some (.map (some b))) (hy : ev fr y = some (kc k)) (kl : KeyLaw P kt kc) (ht : P.underlying t = some (.map kt et)) (hz : zvOf P et = some z) (hm : IsMap h L b (mapObj kc ps)) (hg : mget k ps = some v) : QOP P o fr h L (.tuple #[v, .bool true]) := by
  have := Q_lookupOk hop hx hy kl ht hz hm; rw [hg] at this; exact this
theorem Q_lookupOkN (hop : o.op = .lookup t x y true) (hx : ev fr x = some (.map (some b))) (hy : ev fr y = some (kc k)) (kl : KeyLaw P kt kc) (ht : P.underlying t = some (.map kt et)) (hz : zvOf P et = some z) (hm : IsMap h L b (mapObj kc ps)) (hg : mget k ps = none) : QOP P o fr h L (.tuple #[z, .bool false]) := by
  have := Q_lookupOk hop hx hy kl ht hz hm; rw [hg] at this; exact this
theorem C_makeMapK (kl : KeyLaw P kt kc) (hop : o.op = .makeMap t none) (ht : P.underlying t = some (.map kt et)) (k : ∀ b, K h [(b, mapObj kc [])] (.map (some b))) : OPc P r o fr h L K := C_makeMap kc hop k
end
theorem mget_mput {κ : Type} [DecidableEq κ] (k k' : κ) (v : Value) : ∀ ps : List (κ × Value), mget k' (mput k v ps) = if k = k' then some v else mget k' ps
  | [] => by simp [mput, mget]
  | (q, u) :: ps => by
    simp only [mput]
    split
    · rename_i h; subst h; simp only [mget]; split <;> rfl
    · rename_i h
      simp only [mget, mget_mput k k' v ps]
      split
      · rename_i h2; subst h2; simp [Ne.symm h, fun e : k = q => h e.symm]
      · rfl
end Go.Mesh
namespace Go.Proofs.YtfhoecgiahpddaaGreat
open Go.Mesh Go.RowKit
set_option maxRecDepth 100000
theorem zvo {t : Nat} {z : Value} (h : zvOf Tryz.prog t = some z) : zvOf Tryz.prog t = some z := h
theorem itk : KeyLaw Tryz.prog 3 itv := by
  have h3 : Tryz.prog.underlying 3 = some (.int .i64) := by kernel_rfl
  refine ⟨fun w b k => ?_, fun w k ps => ?_, fun k => ?_⟩
  · rw [show (10000 : Nat) = 9999 + 1 from rfl, Instr.checkKey]
    simp [run_underlying' h3, itv]
  · have key : ∀ (ps : List (Int × Value)) (j : Nat), Instr.findNow (.int .i64) (itv k) (ent itv j ps) j = some (fidx k j ps) := by
      intro ps
      induction ps with
      | nil => intro j; rfl
      | cons p ps ih =>
        intro j
        obtain ⟨k', v⟩ := p
        have := ih (j + 1)
        simp only [ent, fidx, Instr.findNow, itv] at this ⊢
        by_cases hk : k' = k
        · subst hk; simp [Instr.sameNow]
        · have hk2 : ¬ k = k' := fun e => hk e.symm
          have hb : (k == k') = false := by simpa using hk2
          simp [Instr.sameNow, hk, hb, this]
    simp [Instr.findKey, run_underlying' h3, key ps 0]
  · simp [Instr.sameBits, itv]
theorem idk : KeyLaw Tryz.prog 35 idv := by
  have hf : Tryz.prog.underlying 35 = some (.struct (Tryz.prog.fieldsOf 35)) := by kernel_rfl
  have ht : tyOf Tryz.prog 3 = some (false, 1) := by kernel_rfl
  have h3 : Tryz.prog.underlying 3 = some (.int .i64) := by kernel_rfl
  have hfs : (Tryz.prog.fieldsOf 35).toList = [{ name := "Machine", type := 3, offset := 0, embedded := false, tag := "", pkgPath := "", byteOffset := 0 }, { name := "Serial", type := 3, offset := 1, embedded := false, tag := "", pkgPath := "", byteOffset := 8 }] := by kernel_rfl
  refine ⟨fun w b k => ?_, fun w k ps => ?_, fun k => ?_⟩
  · have hin : ∀ x : Int, (Instr.checkKey b 9999 3 (.int .i64 x)).run Tryz.prog w = .ok () w := fun x => by
      rw [show (9999 : Nat) = 9998 + 1 from rfl, Instr.checkKey]
      simp [run_underlying' h3]
    rw [show (10000 : Nat) = 9999 + 1 from rfl, Instr.checkKey]
    simp only [Sem.run_bind, run_underlying' hf, Result.andThen_ok, idv, idc]
    rw [← Array.forIn_toList, hfs]
    simp [part, run_isAgg ht, hin, asAgg]
  · have key : ∀ (ps : List (ID × Value)) (j : Nat), (Instr.findAsking 35 (idv k) (ent idv j ps) j).run Tryz.prog w = .ok (fidx k j ps) w := by
      intro ps
      induction ps with
      | nil => intro j; rfl
      | cons p ps ih =>
        intro j
        obtain ⟨k', v⟩ := p
        have := ih (j + 1)
        have he := eqIDIn 9998 w k' k
        have he2 := eqIDIn 9998 w k k'
        simp only [ent, fidx, Instr.findAsking, Op.equal, Op.maxDepth, Sem.run_bind]
        by_cases hk : k' = k
        · subst hk
          simp [idv, he]
        · have hk2 : ¬ k = k' := fun e => hk e.symm
          simp only [idv] at this ⊢
          simp [he, he2, hk, hk2, this]
    have hnow : ∀ (ps : List (ID × Value)) , Instr.findNow (.struct (Tryz.prog.fieldsOf 35)) (idv k) (ent idv 0 ps) 0 = none ∨ ps = [] := by
      intro ps
      cases ps with
      | nil => exact .inr rfl
      | cons p ps => left; simp [ent, Instr.findNow, Instr.sameNow, idv]
    simp only [Instr.findKey, Sem.run_bind, run_underlying' hf, Result.andThen_ok]
    rcases hnow ps with hn | rfl
    · rw [hn]; exact key ps 0
    · simp [ent, Instr.findNow, fidx]
  · simp [Instr.sameBits, idv, idc]
end Go.Proofs.YtfhoecgiahpddaaGreat
/-
  A REGION THAT DRAWS ITS ORDER: the question whether an operation may be taken first, asked of what has not come up alone (quick in large regions).
-/
set_option linter.all false
namespace Go.Mesh
open Go.RowKit
set_option linter.unusedVariables false
def ancL (ops : Array Oper) (listed : Array Bool) (i : Nat) : Nat → Nat → Bool
  | 0, _ => false
  | f + 1, j => bif listed.getD j false then false else match ops[j]? with
    | none => false
    | some o => o.after.any fun e => Region.binds .any e && (e.on == i || ancL ops listed i f e.on)
theorem ancL_anc {ops : Array Oper} {listed : Array Bool} {i : Nat} : ∀ (f j : Nat), ancL ops listed i f j = true → anc ops i f j = true
  | 0, _, h => by cases h
  | f + 1, j, h => by
    unfold ancL at h
    cases hl : listed.getD j false with
    | true => rw [hl] at h; cases h
    | false =>
      rw [hl] at h
      simp only [cond_false] at h
      unfold anc
      cases ho : ops[j]? with
      | none => rw [ho] at h; cases h
      | some o =>
        rw [ho] at h
        simp only at h ⊢
        rw [Array.any_eq_true] at h ⊢
        obtain ⟨k, hk, h⟩ := h
        refine ⟨k, hk, ?_⟩
        rw [Bool.and_eq_true, Bool.or_eq_true] at h ⊢
        exact ⟨h.1, h.2.imp id (ancL_anc f _)⟩
def firstL (ops : Array Oper) (listed : Array Bool) (i : Nat) : Bool :=
  closedB ops listed && (match ops[i]? with
    | none => false
    | some oi => calmOp oi.op && (List.range ops.size).all fun j => j == i || listed.getD j true || ancL ops listed i ops.size j || (match ops[j]? with | none => true | some oj => oi.apart ops oj && calmOp oj.op)) && (Region.ready .any ops listed).contains i
theorem fbL {ops : Array Oper} {listed : Array Bool} {i : Nat} (h : firstL ops listed i = true) : firstB ops listed i = true := by
  unfold firstL at h
  unfold firstB okFirst
  cases hi : ops[i]? with
  | none => rw [hi] at h; simp at h
  | some oi =>
    rw [hi] at h
    simp only [Bool.and_eq_true] at h ⊢
    obtain ⟨⟨h1, h2, h3⟩, h4⟩ := h
    refine ⟨⟨h1, h2, ?_⟩, h4⟩
    rw [List.all_eq_true] at h3 ⊢
    intro j hj
    have := h3 j hj
    simp only [Bool.or_eq_true] at this ⊢
    rcases this with ((a | a) | a) | a
    · exact .inl (.inl (.inl a))
    · exact .inl (.inl (.inr a))
    · exact .inl (.inr (ancL_anc _ _ a))
    · exact .inr a
end Go.Mesh
