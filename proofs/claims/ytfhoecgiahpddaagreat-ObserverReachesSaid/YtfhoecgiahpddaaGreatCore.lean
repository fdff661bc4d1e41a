/-
  THE GROUND OF THE OBSERVER PROOFS: a small separation logic over the guide's fenced calculus ('Code.wpIn' at the wide fence).
  A state is: h (blocks that nobody writes any more), L (blocks that are owned), D (marks of ranges over functions), fr (what is known of the slots).
-/
import Derived.TacticsIn
import Derived.RangeFuncLeaves
import Derived.OrdersIn
import Derived.Below
set_option linter.all false
namespace Go.Mesh
open Go.RowKit

abbrev Frag := Nat → Option Obj
abbrev Hp := List (Nat × Obj)
abbrev Fr := List (Nat × Value)

def le (h h' : Frag) : Prop := ∀ b o, h b = some o → h' b = some o
theorem le_refl (h : Frag) : le h h := fun _ _ x => x
theorem le_trans {a b c : Frag} (x : le a b) (y : le b c) : le a c := fun k o e => y k o (x k o e)

def ids (L : Hp) : List Nat := L.map (·.1)
theorem mem_ids {L : Hp} {p : Nat × Obj} (h : p ∈ L) : p.1 ∈ ids L := List.mem_map.2 ⟨p, h, rfl⟩
theorem ids_append (L M : Hp) : ids (L ++ M) = ids L ++ ids M := by simp [ids]

structure Sees (h : Frag) (L : Hp) (w : World) : Prop where
  pers : ∀ b o, h b = some o → w.heap[b]? = some o
  own : ∀ p, p ∈ L → w.heap[p.1]? = some p.2

structure Holds (h : Frag) (L : Hp) (w : World) : Prop where
  sees : Sees h L w
  nodup : (ids L).Nodup
  apart : ∀ p, p ∈ L → h p.1 = none

theorem Sees.mono {h h' : Frag} {L L' : Hp} {w : World} (s : Sees h' L' w) (hl : le h h') (hL : ∀ p, p ∈ L → p ∈ L') : Sees h L w :=
  ⟨fun b o e => s.pers b o (hl b o e), fun p hp => s.own p (hL p hp)⟩

theorem Holds.lt {h : Frag} {L : Hp} {w : World} (s : Holds h L w) {p : Nat × Obj} (hp : p ∈ L) : p.1 < w.heap.size := by
  have := s.sees.own p hp
  exact (Array.getElem?_eq_some_iff.1 this).1
theorem Holds.lt_ids {h : Frag} {L : Hp} {w : World} (s : Holds h L w) {b : Nat} (hb : b ∈ ids L) : b < w.heap.size := by
  obtain ⟨p, hp, rfl⟩ := List.mem_map.1 hb
  exact s.lt hp
theorem Holds.pers_lt {h : Frag} {L : Hp} {w : World} (s : Holds h L w) {b : Nat} {o : Obj} (hb : h b = some o) : b < w.heap.size :=
  (Array.getElem?_eq_some_iff.1 (s.sees.pers b o hb)).1

structure Ext (h : Frag) (L : Hp) (w : World) (h' : Frag) (L' : Hp) (w' : World) : Prop where
  le : le h h'
  holds : Holds h' L' w'
  size : w.heap.size ≤ w'.heap.size
  frame : ∀ b, b < w.heap.size → b ∉ ids L → w'.heap[b]? = w.heap[b]?
  persNew : ∀ b o, h' b = some o → h b = some o ∨ w.heap.size ≤ b ∨ b ∈ ids L
  ownNew : ∀ p, p ∈ L' → w.heap.size ≤ p.1 ∨ p.1 ∈ ids L
  os : w'.os = w.os
  tape : w'.tape = w.tape
  output : w'.output = w.output
  drawn : w.drawn ≤ w'.drawn

theorem Ext.same {h : Frag} {L : Hp} {w w' : World} (s : Holds h L w) (hh : w'.heap = w.heap) (ho : w'.os = w.os) (ht : w'.tape = w.tape) (hp : w'.output = w.output) (hn : w.drawn ≤ w'.drawn) :
    Ext h L w h L w' where
  le := le_refl h
  holds := ⟨⟨fun b o e => by rw [hh]; exact s.sees.pers b o e, fun p hp => by rw [hh]; exact s.sees.own p hp⟩, s.nodup, s.apart⟩
  size := by rw [hh]; exact Nat.le_refl _
  frame := fun b _ _ => by rw [hh]
  persNew := fun b o e => .inl e
  ownNew := fun p hp => .inr (mem_ids hp)
  os := ho
  tape := ht
  output := hp
  drawn := hn
theorem Ext.refl {h : Frag} {L : Hp} {w : World} (s : Holds h L w) : Ext h L w h L w := Ext.same s rfl rfl rfl rfl (Nat.le_refl _)

theorem Ext.trans {h h1 h2 : Frag} {L L1 L2 : Hp} {w w1 w2 : World} (x : Ext h L w h1 L1 w1) (y : Ext h1 L1 w1 h2 L2 w2) : Ext h L w h2 L2 w2 where
  le := le_trans x.le y.le
  holds := y.holds
  size := Nat.le_trans x.size y.size
  frame := fun b hb hn => by
    have hn1 : b ∉ ids L1 := fun hm => by
      obtain ⟨p, hp, rfl⟩ := List.mem_map.1 hm
      rcases x.ownNew p hp with h | h
      · omega
      · exact hn h
    rw [y.frame b (Nat.lt_of_lt_of_le hb x.size) hn1, x.frame b hb hn]
  persNew := fun b o e => by
    rcases y.persNew b o e with h | h | h
    · exact x.persNew b o h
    · exact .inr (.inl (Nat.le_trans x.size h))
    · obtain ⟨p, hp, rfl⟩ := List.mem_map.1 h
      exact .inr (x.ownNew p hp)
  ownNew := fun p hp => by
    rcases y.ownNew p hp with h | h
    · exact .inl (Nat.le_trans x.size h)
    · obtain ⟨q, hq, e⟩ := List.mem_map.1 h
      rw [← e]; exact x.ownNew q hq
  os := y.os.trans x.os
  tape := y.tape.trans x.tape
  output := y.output.trans x.output
  drawn := Nat.le_trans x.drawn y.drawn

/-- THE FRAME RULE. -/
theorem Ext.framed {h h' : Frag} {L L' M : Hp} {w w' : World} (s : Holds h (L ++ M) w) (x : Ext h L w h' L' w') : Ext h (L ++ M) w h' (L' ++ M) w' := by
  have hnd := s.nodup
  rw [ids_append, List.nodup_append] at hnd
  obtain ⟨_, hM, hd⟩ := hnd
  have hMw : ∀ p, p ∈ M → p.1 < w.heap.size := fun p hp => s.lt (List.mem_append_right _ hp)
  have hML : ∀ p, p ∈ M → p.1 ∉ ids L := fun p hp hm => hd _ hm _ (mem_ids hp) rfl
  refine ⟨x.le, ⟨⟨x.holds.sees.pers, fun p hp => ?_⟩, ?_, fun p hp => ?_⟩, x.size, fun b hb hn => ?_, fun b o e => ?_, fun p hp => ?_, x.os, x.tape, x.output, x.drawn⟩
  · rcases List.mem_append.1 hp with hp | hp
    · exact x.holds.sees.own p hp
    · rw [x.frame _ (hMw p hp) (hML p hp)]; exact s.sees.own p (List.mem_append_right _ hp)
  · rw [ids_append, List.nodup_append]
    refine ⟨x.holds.nodup, hM, fun a ha b hb e => ?_⟩
    obtain ⟨p, hp, rfl⟩ := List.mem_map.1 ha
    obtain ⟨q, hq, rfl⟩ := List.mem_map.1 hb
    rcases x.ownNew p hp with h | h
    · have := hMw q hq; omega
    · exact hML q hq (by rw [← e]; exact h)
  · rcases List.mem_append.1 hp with hp | hp
    · exact x.holds.apart p hp
    · cases hh : h' p.1 with
      | none => rfl
      | some o =>
        rcases x.persNew _ o hh with h | h | h
        · rw [s.apart p (List.mem_append_right _ hp)] at h; cases h
        · have := hMw p hp; omega
        · exact absurd h (hML p hp)
  · rw [ids_append] at hn
    exact x.frame b hb (fun hm => hn (List.mem_append_left _ hm))
  · rcases x.persNew b o e with h | h | h
    · exact .inl h
    · exact .inr (.inl h)
    · exact .inr (.inr (by rw [ids_append]; exact List.mem_append_left _ h))
  · rcases List.mem_append.1 hp with hp | hp
    · rcases x.ownNew p hp with h | h
      · exact .inl h
      · exact .inr (by rw [ids_append]; exact List.mem_append_left _ h)
    · exact .inr (by rw [ids_append]; exact List.mem_append_right _ (mem_ids hp))

/-- Owned blocks may be let go. -/
theorem Ext.drop {h h' : Frag} {L L' L2 : Hp} {w w' : World} (x : Ext h L w h' L' w') (hs : List.Sublist L2 L') : Ext h L w h' L2 w' where
  le := x.le
  holds := ⟨⟨x.holds.sees.pers, fun p hp => x.holds.sees.own p (hs.subset hp)⟩, (hs.map _).nodup x.holds.nodup, fun p hp => x.holds.apart p (hs.subset hp)⟩
  size := x.size
  frame := x.frame
  persNew := x.persNew
  ownNew := fun p hp => x.ownNew p (hs.subset hp)
  os := x.os
  tape := x.tape
  output := x.output
  drawn := x.drawn
/-- The order of owned blocks does not matter. -/
theorem Ext.perm {h h' : Frag} {L L' L2 : Hp} {w w' : World} (x : Ext h L w h' L' w') (hs : L2.Perm L') : Ext h L w h' L2 w' where
  le := x.le
  holds := ⟨⟨x.holds.sees.pers, fun p hp => x.holds.sees.own p (hs.mem_iff.1 hp)⟩, ((hs.map _).nodup_iff).2 x.holds.nodup, fun p hp => x.holds.apart p (hs.mem_iff.1 hp)⟩
  size := x.size
  frame := x.frame
  persNew := x.persNew
  ownNew := fun p hp => x.ownNew p (hs.mem_iff.1 hp)
  os := x.os
  tape := x.tape
  output := x.output
  drawn := x.drawn
theorem Holds.perm {h : Frag} {L L2 : Hp} {w : World} (s : Holds h L w) (hs : L2.Perm L) : Holds h L2 w :=
  ((Ext.refl s).perm hs).holds
theorem Holds.drop {h : Frag} {L L2 : Hp} {w : World} (s : Holds h L w) (hs : List.Sublist L2 L) : Holds h L2 w :=
  ((Ext.refl s).drop hs).holds
/-- The start may be widened. -/
theorem Ext.of_perm {h h' : Frag} {L L' L2 : Hp} {w w' : World} (x : Ext h L w h' L' w') (hs : L2.Perm L) : Ext h L2 w h' L' w' where
  le := x.le
  holds := x.holds
  size := x.size
  frame := fun b hb hn => x.frame b hb (fun hm => hn (((hs.map _).mem_iff).2 hm))
  persNew := fun b o e => (x.persNew b o e).imp id (Or.imp id fun hm => ((hs.map _).mem_iff).2 hm)
  ownNew := fun p hp => (x.ownNew p hp).imp id fun hm => ((hs.map _).mem_iff).2 hm
  os := x.os
  tape := x.tape
  output := x.output
  drawn := x.drawn

/-- A new block. -/
theorem Ext.alloc {h : Frag} {L : Hp} {w : World} (s : Holds h L w) (o : Obj) : Ext h L w h ((w.heap.size, o) :: L) { w with heap := w.heap.push o } := by
  have hlt : ∀ b, b < w.heap.size → (w.heap.push o)[b]? = w.heap[b]? := fun b hb => by rw [Array.getElem?_push, if_neg (by omega)]
  refine ⟨le_refl h, ⟨⟨fun b o' e => ?_, fun p hp => ?_⟩, ?_, fun p hp => ?_⟩, ?_, fun b hb _ => hlt b hb, fun b o e => .inl e, fun p hp => ?_, rfl, rfl, rfl, Nat.le_refl _⟩
  · rw [hlt b (s.pers_lt e)]; exact s.sees.pers b o' e
  · rcases List.mem_cons.1 hp with rfl | hp
    · simp
    · rw [hlt _ (s.lt hp)]; exact s.sees.own p hp
  · show (w.heap.size :: ids L).Nodup
    rw [List.nodup_cons]
    exact ⟨fun hm => by have := s.lt_ids hm; omega, s.nodup⟩
  · rcases List.mem_cons.1 hp with rfl | hp
    · cases hh : h w.heap.size with
      | none => rfl
      | some o' => have := s.pers_lt hh; omega
    · exact s.apart p hp
  · simp
  · rcases List.mem_cons.1 hp with rfl | hp
    · exact .inl (Nat.le_refl _)
    · exact .inr (mem_ids hp)

/-- 'L has b with o; with o' in its place it is L''. -/
def Upd (b : Nat) (o o' : Obj) (L L' : Hp) : Prop := ∃ A B, L = A ++ (b, o) :: B ∧ L' = A ++ (b, o') :: B
theorem Upd.head {b : Nat} {o o' : Obj} (L : Hp) : Upd b o o' ((b, o) :: L) ((b, o') :: L) := ⟨[], L, rfl, rfl⟩
theorem Upd.tail {b : Nat} {o o' : Obj} (p : Nat × Obj) {L L' : Hp} (u : Upd b o o' L L') : Upd b o o' (p :: L) (p :: L') := by
  obtain ⟨A, B, rfl, rfl⟩ := u; exact ⟨p :: A, B, rfl, rfl⟩
theorem Upd.skip {b : Nat} {o o' : Obj} (M : Hp) {L L' : Hp} (u : Upd b o o' L L') : Upd b o o' (M ++ L) (M ++ L') := by
  obtain ⟨A, B, rfl, rfl⟩ := u; exact ⟨M ++ A, B, by simp, by simp⟩
theorem Upd.split {b : Nat} {o o' : Obj} {L L' : Hp} (u : Upd b o o' L L') : ∃ A B, L = A ++ (b, o) :: B ∧ L' = A ++ (b, o') :: B := u
theorem Upd.mem {b : Nat} {o o' : Obj} {L L' : Hp} (u : Upd b o o' L L') : (b, o) ∈ L := by
  obtain ⟨A, B, rfl, _⟩ := u.split; simp
theorem Upd.ids {b : Nat} {o o' : Obj} {L L' : Hp} (u : Upd b o o' L L') : Mesh.ids L' = Mesh.ids L := by
  obtain ⟨A, B, rfl, rfl⟩ := u.split; simp [Mesh.ids]

theorem Ext.set {h : Frag} {L L' : Hp} {w : World} (s : Holds h L w) {b : Nat} {o o' : Obj} (u : Upd b o o' L L') {w' : World}
    (hb : w'.heap[b]? = some o') (hne : ∀ k, k ≠ b → w'.heap[k]? = w.heap[k]?) (hsz : w'.heap.size = w.heap.size) (ho : w'.os = w.os) (ht : w'.tape = w.tape) (hp : w'.output = w.output) (hdn : w'.drawn = w.drawn) :
    Ext h L w h L' w' := by
  have hid := u.ids
  have hbL : b ∈ ids L := mem_ids u.mem
  have hmem : ∀ p, p ∈ L' → p = (b, o') ∨ (p ∈ L ∧ p.1 ≠ b) := by
    intro p hp
    obtain ⟨A, B, e1, e2⟩ := u.split
    have hnd := s.nodup
    rw [e1] at hnd
    simp only [ids, List.map_append, List.map_cons] at hnd
    rw [List.nodup_append] at hnd
    obtain ⟨_, hnd2, hdis⟩ := hnd
    rw [List.nodup_cons] at hnd2
    rw [e2] at hp
    rcases List.mem_append.1 hp with hp | hp
    · refine .inr ⟨by rw [e1]; exact List.mem_append_left _ hp, fun e => ?_⟩
      exact hdis p.1 (List.mem_map.2 ⟨p, hp, rfl⟩) b (by simp) e
    · rcases List.mem_cons.1 hp with rfl | hp
      · exact .inl rfl
      · exact .inr ⟨by rw [e1]; exact List.mem_append_right _ (List.mem_cons_of_mem _ hp), fun e => hnd2.1 (by rw [← e]; exact List.mem_map.2 ⟨p, hp, rfl⟩)⟩
  refine ⟨le_refl h, ⟨⟨fun k o e => ?_, fun p hp => ?_⟩, by rw [hid]; exact s.nodup, fun p hp => ?_⟩, by rw [hsz]; exact Nat.le_refl _, fun k _ hk => hne k (fun e => hk (e ▸ hbL)), fun k o e => .inl e, fun p hp => ?_, ho, ht, hp, Nat.le_of_eq hdn.symm⟩
  · rw [hne k (fun e' => by
      subst e'
      have := s.apart _ u.mem
      rw [this] at e; cases e)]
    exact s.sees.pers k o e
  · rcases hmem p hp with rfl | ⟨hp, hn⟩
    · exact hb
    · rw [hne _ hn]; exact s.sees.own p hp
  · rcases hmem p hp with rfl | ⟨hp, _⟩
    · exact s.apart (b, o) u.mem
    · exact s.apart p hp
  · exact .inr (by rw [← hid]; exact mem_ids hp)

/-- Owned blocks may be given over to those that nobody writes any more. -/
def add (h : Frag) (M : Hp) : Frag := fun b => match M.lookup b with | some o => some o | none => h b
theorem lookup_mem {M : Hp} {b : Nat} {o : Obj} (e : M.lookup b = some o) : (b, o) ∈ M := by
  induction M with
  | nil => simp at e
  | cons p M ih =>
    obtain ⟨k, o'⟩ := p
    simp only [List.lookup] at e
    by_cases hk : b = k
    · subst hk; simp at e; simp [e]
    · have : (b == k) = false := by simpa using hk
      simp only [this] at e
      exact List.mem_cons_of_mem _ (ih e)
theorem mem_lookup {M : Hp} (hn : (ids M).Nodup) {b : Nat} {o : Obj} (hm : (b, o) ∈ M) : M.lookup b = some o := by
  induction M with
  | nil => cases hm
  | cons p M ih =>
    obtain ⟨k, o'⟩ := p
    simp only [ids, List.map_cons] at hn
    rw [List.nodup_cons] at hn
    simp only [List.lookup]
    rcases List.mem_cons.1 hm with e | hm
    · cases e; simp
    · have : (b == k) = false := by
        have : b ≠ k := fun e => hn.1 (by rw [← e]; exact List.mem_map.2 ⟨_, hm, rfl⟩)
        simpa using this
      simp only [this]
      exact ih hn.2 hm
theorem Ext.keep {h : Frag} {L M : Hp} {w : World} (s : Holds h (M ++ L) w) : Ext h (M ++ L) w (add h M) L w ∧ ∀ p, p ∈ M → add h M p.1 = some p.2 := by
  have hnd := s.nodup
  rw [ids_append, List.nodup_append] at hnd
  obtain ⟨hM, hL, hd⟩ := hnd
  refine ⟨⟨fun b o e => ?_, ⟨⟨fun b o e => ?_, fun p hp => s.sees.own p (List.mem_append_right _ hp)⟩, hL, fun p hp => ?_⟩, Nat.le_refl _, fun _ _ _ => rfl, fun b o e => ?_, fun p hp => .inr (mem_ids (List.mem_append_right _ hp)), rfl, rfl, rfl, Nat.le_refl _⟩, fun p hp => ?_⟩
  · unfold add
    cases hl : M.lookup b with
    | none => exact e
    | some o' =>
      have := s.apart (b, o') (List.mem_append_left _ (lookup_mem hl))
      simp only at this
      rw [this] at e; cases e
  · unfold add at e
    cases hl : M.lookup b with
    | none => rw [hl] at e; exact s.sees.pers b o e
    | some o' =>
      rw [hl] at e
      cases e
      exact s.sees.own (b, o) (List.mem_append_left _ (lookup_mem hl))
  · unfold add
    cases hl : M.lookup p.1 with
    | none => exact s.apart p (List.mem_append_right _ hp)
    | some o' => exact absurd rfl (hd p.1 (mem_ids (p := (p.1, o')) (lookup_mem hl)) p.1 (mem_ids hp))
  · unfold add at e
    cases hl : M.lookup b with
    | none => rw [hl] at e; exact .inl e
    | some o' => exact .inr (.inr (by rw [ids_append]; exact List.mem_append_left _ (mem_ids (p := (b, o')) (lookup_mem hl))))
  · unfold add
    rw [mem_lookup hM hp]

/-! ### Frames -/
def get? : Fr → Nat → Option Value
  | [], _ => none
  | (j, v) :: r, i => bif Nat.beq j i then some v else get? r i
theorem get?_cons (j i : Nat) (v : Value) (r : Fr) : get? ((j, v) :: r) i = if j = i then some v else get? r i := by
  simp only [get?]
  by_cases h : j = i
  · subst h; simp
  · have : Nat.beq j i = false := by
      cases hb : Nat.beq j i with
      | false => rfl
      | true => exact absurd (Nat.eq_of_beq_eq_true hb) h
    simp [this, h]

def marks (D : List Nat) : List Deferred := D.map fun d => { target := .collected d, args := #[] }

structure FrOk (N : Nat) (D : List Nat) (fr : Fr) (a : Act) : Prop where
  defers : a.defers = marks D
  size : a.tmps.size = N
  slots : ∀ i v, get? fr i = some v → a.tmps[i]? = some v

def putd (fr : Fr) : Option Tmp → Value → Fr
  | some d, v => (d, v) :: fr
  | none, _ => fr
def dstOk (N : Nat) : Option Tmp → Bool
  | some d => Nat.blt d N
  | none => true

theorem FrOk.put {N : Nat} {D : List Nat} {fr : Fr} {a : Act} (f : FrOk N D fr a) {dst : Option Tmp} (hd : dstOk N dst = true) (v : Value) : FrOk N D (putd fr dst v) (a.put dst v) := by
  cases dst with
  | none => exact f
  | some d =>
    have hd' : d < N := by simpa [dstOk, Nat.blt_eq] using hd
    refine ⟨f.defers, by simp [Act.put, f.size], fun i u e => ?_⟩
    simp only [putd, get?_cons] at e
    simp only [Act.put]
    rw [Array.getElem?_setIfInBounds]
    split at e
    · rename_i h; subst h; cases e; simp [f.size, hd']
    · rename_i h; rw [if_neg h]; exact f.slots i u e

def ev (fr : Fr) : Operand → Option Value
  | .tmp t => get? fr t
  | .const v => some v
  | .global g => some (.pointer (some ⟨g, 0, none⟩))
  | .func f => some (.func (.func f) #[] #[])

theorem FrOk.eval {N : Nat} {D : List Nat} {fr : Fr} {a : Act} (f : FrOk N D fr a) {x : Operand} {v : Value} (h : ev fr x = some v) : a.eval x = v := by
  cases x with
  | tmp t => have := f.slots t v h; simp [Act.eval, this]
  | const u => simpa [ev, Act.eval] using h
  | global g => simpa [ev, Act.eval] using h
  | func g => simpa [ev, Act.eval] using h

def FrSub : Fr → Fr → Prop
  | [], _ => True
  | (s, v) :: r, fr => get? fr s = some v ∧ FrSub r fr
theorem FrSub.get {f g : Fr} (h : FrSub f g) {i : Nat} {v : Value} (e : get? f i = some v) : get? g i = some v := by
  induction f with
  | nil => cases e
  | cons p f ih =>
    obtain ⟨s, u⟩ := p
    rw [get?_cons] at e
    split at e
    · rename_i hs; subst hs; cases e; exact h.1
    · exact ih h.2 e
theorem FrOk.sub {N : Nat} {D : List Nat} {fr fr' : Fr} {a : Act} (f : FrOk N D fr a) (h : FrSub fr' fr) : FrOk N D fr' a :=
  ⟨f.defers, f.size, fun i v e => f.slots i v (h.get e)⟩

/-! ### The fence -/
def FW (r : Option Nat) : Fence := { fn := fun _ => True, depth := none, alive := false, round := r }
theorem callsIn_FW {r : Option Nat} {n : Nat} {P : Program} {f : FuncId} {args : Array Value} {w : World} {R : Ending → World → Prop} (h : Calls P f args w R) : CallsIn (FW r) n P f args w R :=
  (callsIn_wide (n := n)).2 h
theorem calls_of_FW {r : Option Nat} {n : Nat} {P : Program} {f : FuncId} {args : Array Value} {w : World} {R : Ending → World → Prop} (h : CallsIn (FW r) n P f args w R) : Calls P f args w R :=
  (callsIn_wide (n := n)).1 h

abbrev Post := Exit → Frag → Hp → List Nat → Fr → Prop
abbrev Cont := Frag → Hp → List Nat → Fr → Prop

def lift (N : Nat) (h : Frag) (L : Hp) (w : World) (Q : Post) : Exit → Act → World → Prop :=
  fun e a' w' => ∃ h' L' D' fr', Q e h' L' D' fr' ∧ FrOk N D' fr' a' ∧ Ext h L w h' L' w'

def WP (P : Program) (r : Option Nat) (N : Nat) (c : Code) (h : Frag) (L : Hp) (D : List Nat) (fr : Fr) (Q : Post) : Prop :=
  ∀ a w, FrOk N D fr a → Holds h L w → c.wpIn (FW r) 0 P (lift N h L w Q) a w

def thenQ (K : Cont) (Q : Post) : Post
  | .normal, h, L, D, fr => K h L D fr
  | e, h, L, D, fr => Q e h L D fr
def blockQ (id : Nat) (Q : Post) : Post
  | .exit k, h, L, D, fr => if k = id then Q .normal h L D fr else Q (.exit k) h L D fr
  | e, h, L, D, fr => Q e h L D fr

section rules
variable {P : Program} {r : Option Nat} {N : Nat} {h : Frag} {L : Hp} {D : List Nat} {fr : Fr} {Q : Post}

theorem WP.mono {c : Code} {Q' : Post} (x : WP P r N c h L D fr Q) (hq : ∀ e h' L' D' fr', le h h' → Q e h' L' D' fr' → Q' e h' L' D' fr') : WP P r N c h L D fr Q' :=
  fun a w fa hw => wpIn_mono (x a w fa hw) fun _ _ _ ⟨h', L', D', fr', q, f, e⟩ => ⟨h', L', D', fr', hq _ _ _ _ _ e.le q, f, e⟩
theorem WP.sub {c : Code} {fr' : Fr} (hs : FrSub fr' fr) (x : WP P r N c h L D fr' Q) : WP P r N c h L D fr Q :=
  fun a w fa hw => x a w (fa.sub hs) hw
theorem WP.perm {c : Code} {L2 : Hp} (hs : L2.Perm L) (x : WP P r N c h L2 D fr Q) : WP P r N c h L D fr Q :=
  fun a w fa hw => wpIn_mono (x a w fa (hw.perm hs)) fun _ _ _ ⟨h', L', D', fr', q, f, e⟩ => ⟨h', L', D', fr', q, f, e.of_perm hs.symm⟩
theorem Ext.of_drop {h h' : Frag} {L L' L2 : Hp} {w w' : World} (x : Ext h L2 w h' L' w') (hs : List.Sublist L2 L) : Ext h L w h' L' w' where
  le := x.le
  holds := x.holds
  size := x.size
  frame := fun b hb hn => x.frame b hb (fun hm => hn ((hs.map _).subset hm))
  persNew := fun b o e => (x.persNew b o e).imp id (Or.imp id fun hm => (hs.map _).subset hm)
  ownNew := fun p hp => (x.ownNew p hp).imp id fun hm => (hs.map _).subset hm
  os := x.os
  tape := x.tape
  output := x.output
  drawn := x.drawn
theorem WP.drop {c : Code} {L2 : Hp} (hs : List.Sublist L2 L) (x : WP P r N c h L2 D fr Q) : WP P r N c h L D fr Q :=
  fun a w fa hw => wpIn_mono (x a w fa (hw.drop hs)) fun _ _ _ ⟨h', L', D', fr', q, f, e⟩ => ⟨h', L', D', fr', q, f, e.of_drop hs⟩
theorem WP.keep {c : Code} {M : Hp} (x : ∀ h', le h h' → (∀ p, p ∈ M → h' p.1 = some p.2) → WP P r N c h' L D fr Q) : WP P r N c h (M ++ L) D fr Q :=
  fun a w fa hw => by
    obtain ⟨e0, hm⟩ := Ext.keep hw
    exact wpIn_mono (x _ e0.le hm a w fa e0.holds) fun _ _ _ ⟨h', L', D', fr', q, f, e⟩ => ⟨h', L', D', fr', q, f, e0.trans e⟩

theorem WP_skip (x : Q .normal h L D fr) : WP P r N .skip h L D fr Q :=
  fun _ _ fa hw => wpIn_skip ⟨h, L, D, fr, x, fa, .refl hw⟩
theorem WP_exit {id : Nat} (x : Q (.exit id) h L D fr) : WP P r N (.exit id) h L D fr Q :=
  fun _ _ fa hw => wpIn_exit ⟨h, L, D, fr, x, fa, .refl hw⟩
theorem WP_ret (x : Q .ret h L D fr) : WP P r N .ret h L D fr Q :=
  fun _ _ fa hw => wpIn_ret ⟨h, L, D, fr, x, fa, .refl hw⟩
theorem WP_seq {x y : Code} (k : WP P r N x h L D fr (thenQ (fun h' L' D' fr' => WP P r N y h' L' D' fr' Q) Q)) : WP P r N (.seq x y) h L D fr Q :=
  fun a w fa hw => wpIn_seq (wpIn_mono (k a w fa hw) fun e a1 w1 ⟨h1, L1, D1, fr1, q, f1, e1⟩ => by
    cases e with
    | normal => exact wpIn_mono (q a1 w1 f1 e1.holds) fun _ _ _ ⟨h', L', D', fr', q, f, e⟩ => ⟨h', L', D', fr', q, f, e1.trans e⟩
    | _ => exact ⟨h1, L1, D1, fr1, q, f1, e1⟩)
theorem WP_cond {c : Operand} {x y : Code} {t : Bool} (hc : ev fr c = some (.bool t)) (ht : t = true → WP P r N x h L D fr Q) (hf : t = false → WP P r N y h L D fr Q) :
    WP P r N (.cond c x y) h L D fr Q :=
  fun a w fa hw => wpIn_cond_split (fa.eval hc) (fun e => ht e a w fa hw) (fun e => hf e a w fa hw)
theorem WP_block {id : Nat} {c : Code} (x : WP P r N c h L D fr (blockQ id Q)) : WP P r N (.block id c) h L D fr Q :=
  fun a w fa hw => wpIn_block (wpIn_mono (x a w fa hw) fun e a1 w1 ⟨h1, L1, D1, fr1, q, f1, e1⟩ => by
    cases e with
    | exit k =>
      simp only [Exit.inBlock]
      simp only [blockQ] at q
      by_cases hk : k = id
      · simp only [hk, if_true] at q ⊢; exact ⟨h1, L1, D1, fr1, q, f1, e1⟩
      · simp only [hk, if_false] at q ⊢; exact ⟨h1, L1, D1, fr1, q, f1, e1⟩
    | _ => exact ⟨h1, L1, D1, fr1, q, f1, e1⟩)

/-- A loop: I n at every round's head, n going down. -/
def roundQ (I : Nat → Cont) (n : Nat) (Q : Post) : Post
  | .normal, h, L, D, fr => ∃ m, m < n ∧ ∃ fr', FrSub fr' fr ∧ I m h L D fr'
  | e, h, L, D, fr => Q e h L D fr
theorem least (p : Nat → Prop) : ∀ n, p n → ∃ n, p n ∧ ∀ m, p m → n ≤ m := by
  intro n
  induction n using Nat.strongRecOn with
  | _ n ih =>
    intro hp
    by_cases hx : ∃ m, m < n ∧ p m
    · obtain ⟨m, hm, hpm⟩ := hx; exact ih m hm hpm
    · exact ⟨n, hp, fun m hm => Nat.le_of_not_lt fun hlt => hx ⟨m, hlt, hm⟩⟩
theorem leastFn {α β : Type} (p : α → β → Nat → Prop) : ∃ f : α → β → Nat, ∀ a b n, p a b n → p a b (f a b) ∧ ∀ m, p a b m → f a b ≤ m := by
  refine ⟨fun a b => @dite _ (∃ n, p a b n ∧ ∀ m, p a b m → n ≤ m) (Classical.propDecidable _) (fun hx => Classical.choose hx) (fun _ => 0), fun a b n hp => ?_⟩
  have hx := least (p a b) n hp
  simp only [dif_pos hx]
  exact Classical.choose_spec hx
theorem WP_loop {c : Code} (I : Nat → Cont) (n0 : Nat) (fr0 : Fr) (h0 : I n0 h L D fr0) (hs : FrSub fr0 fr)
    (round : ∀ n h1 L1 D1 fr1, le h h1 → I n h1 L1 D1 fr1 → WP P r N c h1 L1 D1 fr1 (roundQ I n Q)) : WP P r N (.loop c) h L D fr Q := by
  intro a w fa hw
  obtain ⟨f, hf⟩ := leastFn fun (a1 : Act) (w1 : World) n => ∃ h1 L1 D1 fr1, I n h1 L1 D1 fr1 ∧ FrOk N D1 fr1 a1 ∧ Ext h L w h1 L1 w1
  refine wpIn_loop (fun a1 w1 => ∃ n h1 L1 D1 fr1, I n h1 L1 D1 fr1 ∧ FrOk N D1 fr1 a1 ∧ Ext h L w h1 L1 w1) f ?_ ?_
  · exact ⟨n0, h, L, D, fr0, h0, fa.sub hs, .refl hw⟩
  · intro a1 w1 hI
    obtain ⟨n1, hI⟩ := hI
    obtain ⟨⟨h1, L1, D1, fr1, i1, f1, e1⟩, _⟩ := hf a1 w1 n1 hI
    refine wpIn_mono (round _ h1 L1 D1 fr1 e1.le i1 a1 w1 f1 e1.holds) fun e a2 w2 ⟨h2, L2, D2, fr2, q, f2, e2⟩ => ?_
    cases e with
    | normal =>
      obtain ⟨m, hm, fr', hs', im⟩ := q
      have hex : ∃ h1 L1 D1 fr1, I m h1 L1 D1 fr1 ∧ FrOk N D1 fr1 a2 ∧ Ext h L w h1 L1 w2 := ⟨h2, L2, D2, fr', im, f2.sub hs', e1.trans e2⟩
      exact ⟨⟨m, hex⟩, Nat.lt_of_le_of_lt ((hf a2 w2 m hex).2 m hex) hm⟩
    | _ => exact ⟨h2, L2, D2, fr2, q, f2, e1.trans e2⟩
end rules

end Go.Mesh
