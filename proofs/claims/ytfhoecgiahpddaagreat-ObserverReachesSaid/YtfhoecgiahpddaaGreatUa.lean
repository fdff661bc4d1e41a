/-
  THE UNION OF GRAPHS, in plain words: nodes put one after the other into a list that increases strictly by identity.
-/
import Derived.Test.YtfhoecgiahpddaaGreatFj
set_option linter.all false
namespace Go.Proofs.YtfhoecgiahpddaaGreat
open Go.Mesh Go.RowKit
set_option maxRecDepth 100000
set_option linter.unusedVariables false
set_option maxHeartbeats 4000000
attribute [local irreducible] WP OPS ANY ANYo LG LV FSpec PSpec QOP OPc OPw thenQ blockQ roundQ roundF retQ retM Rd At SLB OS cmpI orI cmpID namedB valB nodeB kindB validG valAux idxI findG zeroV viewOf vwAt idxOf recv flyB scionOf moveOf numberedOf idOf valueOf mget mput localB carriedB stubOf followF followOf flOf flightsOf flPre setL minusL compactL putI
def mergeN (o n : Nd) : Option Nd :=
  if (o.kind == 3) = (n.kind == 3) then (if o = n then some o else none) else if o.cls = n.cls then some (if o.kind = 3 then n else o) else none
def insN : List Nd → Nd → Option (List Nd)
  | [], n => some [n]
  | y :: l, n => if cmpID y.id n.id < 0 then (insN l n).map (y :: ·) else if y.id = n.id then (mergeN y n).map (· :: l) else some (n :: y :: l)
/-- strictly increasing by identity -/
def SN (l : List Nd) : Prop := l.Pairwise fun a b => cmpID a.id b.id < 0
theorem mergeN_id {o n m : Nd} (h : mergeN o n = some m) (hi : o.id = n.id) : m.id = o.id := by
  unfold mergeN at h
  split at h
  · split at h
    · cases h; rfl
    · cases h
  · split at h
    · cases h; split
      · exact hi.symm
      · rfl
    · cases h
theorem findG_none_of_lt {l : List Nd} {id : ID} (h : ∀ x, x ∈ l → x.id ≠ id) : findG l id = none := by
  unfold findG; rw [List.find?_eq_none]; intro x hx; simp [h x hx]
theorem findG_cons (y : Nd) (l : List Nd) (id : ID) : findG (y :: l) id = if y.id = id then some y else findG l id := by
  unfold findG
  rw [List.find?_cons]
  by_cases h : y.id = id <;> simp [h]
theorem findG_some {l : List Nd} {id : ID} {n : Nd} (h : findG l id = some n) : n ∈ l ∧ n.id = id := by
  unfold findG at h
  exact ⟨List.mem_of_find?_eq_some h, by simpa using List.find?_some h⟩
theorem findG_mem {l : List Nd} (hs : SN l) {n : Nd} (h : n ∈ l) : findG l n.id = some n := by
  induction l with
  | nil => cases h
  | cons y l ih =>
    have h' := List.pairwise_cons.1 hs
    rw [findG_cons]
    rcases List.mem_cons.1 h with e | e
    · subst e; simp
    · have := h'.1 n e
      rw [if_neg (fun e' => by rw [e'] at this; exact cmp_irrefl _ this)]
      exact ih h'.2 e
/-- what putting a node does -/
theorem insN_spec : ∀ {l : List Nd} {n : Nd}, SN l → match findG l n.id with
    | none => ∃ l', insN l n = some l' ∧ SN l' ∧ l'.length = l.length + 1 ∧ (∀ z, z ∈ l' → z = n ∨ z ∈ l) ∧ ∀ id, findG l' id = if id = n.id then some n else findG l id
    | some o => match mergeN o n with
      | none => insN l n = none
      | some m => ∃ l', insN l n = some l' ∧ SN l' ∧ l'.length = l.length ∧ (∀ z, z ∈ l' → z = m ∨ z ∈ l) ∧ ∀ id, findG l' id = if id = n.id then some m else findG l id
  | [], n, _ => by
    have : findG [] n.id = none := by unfold findG; rfl
    rw [this]
    refine ⟨[n], rfl, by simp [SN], rfl, by simp, fun id => ?_⟩
    rw [findG_cons]
    by_cases h : n.id = id
    · simp [h]
    · rw [if_neg h, if_neg (Ne.symm h)]
  | y :: l, n, hs => by
    have h' := List.pairwise_cons.1 hs
    have ih := insN_spec (l := l) (n := n) h'.2
    rw [findG_cons]
    by_cases hlt : cmpID y.id n.id < 0
    · have hne : y.id ≠ n.id := fun e => by rw [e] at hlt; exact cmp_irrefl _ hlt
      rw [if_neg hne]
      have key : ∀ (m : Nd) (l' : List Nd), m.id = n.id → SN l' → (∀ z, z ∈ l' → z = m ∨ z ∈ l) → (∀ id, findG l' id = if id = n.id then some m else findG l id) → SN (y :: l') ∧ (∀ z, z ∈ y :: l' → z = m ∨ z ∈ y :: l) ∧ ∀ id, findG (y :: l') id = if id = n.id then some m else findG (y :: l) id := by
        intro m l' hm h1 h2 h3
        refine ⟨List.pairwise_cons.2 ⟨fun z hz => ?_, h1⟩, fun z hz => ?_, fun id => ?_⟩
        · rcases h2 z hz with e | e
          · subst e; rw [hm]; exact hlt
          · exact h'.1 z e
        · rcases List.mem_cons.1 hz with e | e
          · exact .inr (by simp [e])
          · exact (h2 z e).imp id fun e => by simp [e]
        · rw [findG_cons, findG_cons, h3]
          by_cases hid : y.id = id
          · subst hid; rw [if_pos rfl, if_neg hne, if_pos rfl]
          · rw [if_neg hid, if_neg hid]
      cases hf : findG l n.id with
      | none =>
        rw [hf] at ih
        obtain ⟨l', e1, e2, e3, e4, e5⟩ := ih
        obtain ⟨k1, k2, k3⟩ := key n l' rfl e2 e4 e5
        exact ⟨y :: l', by simp [insN, hlt, e1], k1, by simp [e3], k2, k3⟩
      | some o =>
        rw [hf] at ih
        simp only at ih ⊢
        cases hm : mergeN o n with
        | none => rw [hm] at ih; simp only at ih ⊢; simp [insN, hlt, ih]
        | some m =>
          rw [hm] at ih
          obtain ⟨l', e1, e2, e3, e4, e5⟩ := ih
          have hoi := (findG_some hf).2
          obtain ⟨k1, k2, k3⟩ := key m l' ((mergeN_id hm hoi).trans hoi) e2 e4 e5
          exact ⟨y :: l', by simp [insN, hlt, e1], k1, by simp [e3], k2, k3⟩
    · by_cases he : y.id = n.id
      · rw [if_pos he]
        simp only
        cases hm : mergeN y n with
        | none => simp only; simp [insN, hlt, he, hm]; exact fun h => absurd h (cmp_irrefl _)
        | some m =>
          have hmi := mergeN_id hm he
          refine ⟨m :: l, ?_, List.pairwise_cons.2 ⟨fun z hz => by rw [hmi]; exact h'.1 z hz, h'.2⟩, rfl, fun z hz => ?_, fun id => ?_⟩
          · simp only [insN]; rw [if_neg hlt, if_pos he, hm]; rfl
          · rcases List.mem_cons.1 hz with e | e
            · exact .inl e
            · exact .inr (by simp [e])
          · rw [findG_cons, findG_cons, hmi, he]
            by_cases hid : n.id = id
            · rw [if_pos hid, if_pos hid.symm]
            · rw [if_neg hid, if_neg (Ne.symm hid), if_neg hid]
      · rw [if_neg he]
        have hny : cmpID n.id y.id < 0 := Decidable.byContradiction fun hc => he (cmp_eq.1 ⟨hlt, hc⟩)
        have hn0 : findG l n.id = none := findG_none_of_lt fun x hx e => by
          have := cmp_trans hny (h'.1 x hx); rw [e] at this; exact cmp_irrefl _ this
        rw [hn0]
        refine ⟨n :: y :: l, by simp [insN, hlt, he], List.pairwise_cons.2 ⟨fun z hz => ?_, hs⟩, rfl, fun z hz => ?_, fun id => ?_⟩
        · rcases List.mem_cons.1 hz with e | e
          · subst e; exact hny
          · exact cmp_trans hny (h'.1 z e)
        · rcases List.mem_cons.1 hz with e | e
          · exact .inl e
          · exact .inr e
        · rw [findG_cons n]
          by_cases hid : n.id = id
          · rw [if_pos hid, if_pos hid.symm]
          · rw [if_neg hid, if_neg (Ne.symm hid)]
def insAll : List Nd → List Nd → Option (List Nd)
  | acc, [] => some acc
  | acc, n :: r => match insN acc n with | none => none | some a => insAll a r
def resU : Option (List Nd) → List Nd × Int
  | none => ([], 9)
  | some ns => (ns, 0)
def unionR (l : List (List Nd)) : List Nd × Int := if l.all validG then resU (insAll [] l.flatten) else ([], 1)
theorem insAll_drop {acc l : List Nd} {k : Nat} {x : Nd} (hx : l[k]? = some x) : insAll acc (l.drop k) = match insN acc x with | none => none | some a => insAll a (l.drop (k + 1)) := by
  rw [drop_get hx, insAll]
attribute [local irreducible] mergeN insN insAll unionR
theorem SN_unique : ∀ {l r : List Nd}, SN l → SN r → (∀ x, x ∈ l ↔ x ∈ r) → l = r
  | [], [], _, _, _ => rfl
  | [], y :: r, _, _, h => by have := (h y).2 (by simp); simp at this
  | x :: l, [], _, _, h => by have := (h x).1 (by simp); simp at this
  | x :: l, y :: r, hl, hr, h => by
    have hl' := List.pairwise_cons.1 hl
    have hr' := List.pairwise_cons.1 hr
    have hxy : x = y := by
      rcases List.mem_cons.1 ((h x).1 (by simp)) with e | e
      · exact e
      · rcases List.mem_cons.1 ((h y).2 (by simp)) with e2 | e2
        · exact e2.symm
        · exact absurd (hr'.1 x e) (cmp_asymm (hl'.1 y e2))
    subst hxy
    congr 1
    refine SN_unique hl'.2 hr'.2 fun z => ⟨fun hz => ?_, fun hz => ?_⟩
    · rcases List.mem_cons.1 ((h z).1 (by simp [hz])) with e | e
      · subst e; exact absurd (hl'.1 z hz) (cmp_irrefl _)
      · exact e
    · rcases List.mem_cons.1 ((h z).2 (by simp [hz])) with e | e
      · subst e; exact absurd (hr'.1 z hz) (cmp_irrefl _)
      · exact e
end Go.Proofs.YtfhoecgiahpddaaGreat
