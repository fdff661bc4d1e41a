/-
  SETS OF IDENTITIES: the order, lists that increase strictly, identity.Set and Minus.
-/
import Derived.Test.YtfhoecgiahpddaaGreatSort
import Derived.Test.YtfhoecgiahpddaaGreatFi
set_option linter.all false
namespace Go.Proofs.YtfhoecgiahpddaaGreat
open Go.Mesh Go.RowKit
set_option maxRecDepth 100000
set_option linter.unusedVariables false
set_option maxHeartbeats 4000000
attribute [local irreducible] WP OPS ANY ANYo LG LV FSpec PSpec QOP OPc OPw thenQ blockQ roundQ roundF retQ retM Rd At SLB OS cmpI orI cmpID namedB valB nodeB kindB validG valAux idxI findG zeroV viewOf vwAt idxOf recv flyB scionOf moveOf numberedOf idOf valueOf mget mput localB carriedB stubOf followF followOf flOf flightsOf flPre
theorem cmp_lt {a b : ID} : cmpID a b < 0 ↔ (a.1 < b.1 ∨ (a.1 = b.1 ∧ a.2 < b.2)) := by
  simp only [cmpID, orI, cmpI]
  split <;> split <;> (try split) <;> (try split) <;> simp_all <;> omega
theorem cmp_eq {a b : ID} : (¬ cmpID a b < 0 ∧ ¬ cmpID b a < 0) ↔ a = b := by
  rw [cmp_lt, cmp_lt, Prod.ext_iff]; omega
theorem cmp_trans {a b c : ID} (h1 : cmpID a b < 0) (h2 : cmpID b c < 0) : cmpID a c < 0 := by
  rw [cmp_lt] at *; omega
theorem cmp_asymm {a b : ID} (h1 : cmpID a b < 0) : ¬ cmpID b a < 0 := by
  rw [cmp_lt] at *; omega
theorem cmp_irrefl (a : ID) : ¬ cmpID a a < 0 := by rw [cmp_lt]; omega
/-- strictly increasing -/
def SI (l : List ID) : Prop := l.Pairwise fun a b => cmpID a b < 0
theorem SI_unique : ∀ {l r : List ID}, SI l → SI r → (∀ x, x ∈ l ↔ x ∈ r) → l = r
  | [], [], _, _, _ => rfl
  | [], y :: r, _, _, h => by have := (h y).2 (by simp); simp at this
  | x :: l, [], _, _, h => by have := (h x).1 (by simp); simp at this
  | x :: l, y :: r, hl, hr, h => by
    have hl' := List.pairwise_cons.1 hl
    have hr' := List.pairwise_cons.1 hr
    have hxy : x = y := by
      rcases List.mem_cons.1 ((h x).1 (by simp)) with e | e
      · exact e
      · rcases List.mem_cons.1 ((h y).2 (by simp)) with e2 | e2
        · exact e2.symm
        · exact absurd (hr'.1 x e) (cmp_asymm (hl'.1 y e2))
    subst hxy
    congr 1
    refine SI_unique hl'.2 hr'.2 fun z => ⟨fun hz => ?_, fun hz => ?_⟩
    · rcases List.mem_cons.1 ((h z).1 (by simp [hz])) with e | e
      · subst e; exact absurd (hl'.1 z hz) (cmp_irrefl z)
      · exact e
    · rcases List.mem_cons.1 ((h z).2 (by simp [hz])) with e | e
      · subst e; exact absurd (hr'.1 z hz) (cmp_irrefl z)
      · exact e
def putI : List ID → ID → List ID
  | [], x => [x]
  | y :: l, x => if cmpID y x < 0 then y :: putI l x else if y = x then y :: l else x :: y :: l
theorem mem_putI {x z : ID} : ∀ {l : List ID}, z ∈ putI l x ↔ z = x ∨ z ∈ l
  | [] => by simp [putI]
  | y :: l => by
    simp only [putI]
    split
    · simp only [List.mem_cons, mem_putI (l := l)]
      constructor
      · rintro (h | h | h)
        · exact .inr (.inl h)
        · exact .inl h
        · exact .inr (.inr h)
      · rintro (h | h | h)
        · exact .inr (.inl h)
        · exact .inl h
        · exact .inr (.inr h)
    · split
      · rename_i h; subst h; simp
      · simp
theorem SI_putI {x : ID} : ∀ {l : List ID}, SI l → SI (putI l x)
  | [], _ => by simp [putI, SI]
  | y :: l, h => by
    have h' := List.pairwise_cons.1 h
    simp only [putI]
    split
    · rename_i hlt
      refine List.pairwise_cons.2 ⟨fun z hz => ?_, SI_putI h'.2⟩
      rcases mem_putI.1 hz with e | e
      · subst e; exact hlt
      · exact h'.1 z e
    · rename_i hlt
      split
      · exact h
      · rename_i hne
        have hx : cmpID x y < 0 := Decidable.byContradiction fun hc => hne (cmp_eq.1 ⟨hlt, hc⟩)
        refine List.pairwise_cons.2 ⟨fun z hz => ?_, h⟩
        rcases List.mem_cons.1 hz with e | e
        · subst e; exact hx
        · exact cmp_trans hx (h'.1 z e)
def setL (xs : List ID) : List ID := xs.foldl putI []
theorem foldl_putI (xs : List ID) : ∀ l : List ID, SI l → SI (xs.foldl putI l) ∧ ∀ z, z ∈ xs.foldl putI l ↔ z ∈ l ∨ z ∈ xs := by
  induction xs with
  | nil => intro l h; exact ⟨h, by simp⟩
  | cons x xs ih =>
    intro l h
    obtain ⟨h1, h2⟩ := ih (putI l x) (SI_putI h)
    refine ⟨h1, fun z => ?_⟩
    rw [List.foldl_cons, h2, mem_putI]
    simp only [List.mem_cons]
    constructor
    · rintro ((h | h) | h)
      · exact .inr (.inl h)
      · exact .inl h
      · exact .inr (.inr h)
    · rintro (h | h | h)
      · exact .inl (.inr h)
      · exact .inl (.inl h)
      · exact .inr h
theorem putI_length (x : ID) : ∀ l : List ID, (putI l x).length ≤ l.length + 1
  | [] => by simp [putI]
  | y :: l => by
    have := putI_length x l
    simp only [putI]
    repeat' split
    all_goals simp only [List.length_cons]
    all_goals omega
theorem foldl_putI_length (xs : List ID) : ∀ l : List ID, (xs.foldl putI l).length ≤ l.length + xs.length := by
  induction xs with
  | nil => intro l; simp
  | cons x xs ih => intro l; have h1 := ih (putI l x); have h2 := putI_length x l; simp only [List.foldl_cons, List.length_cons]; omega
theorem setL_length (xs : List ID) : (setL xs).length ≤ xs.length := by have := foldl_putI_length xs []; rw [setL]; simpa using this
theorem SI_setL (xs : List ID) : SI (setL xs) := (foldl_putI xs [] List.Pairwise.nil).1
theorem mem_setL {xs : List ID} {z : ID} : z ∈ setL xs ↔ z ∈ xs := by have := (foldl_putI xs [] List.Pairwise.nil).2 z; rw [setL]; simpa using this
theorem mem_compactL {z : ID} : ∀ {l : List ID}, z ∈ compactL l ↔ z ∈ l
  | [] => by simp [compactL]
  | [x] => by simp [compactL]
  | x :: y :: r => by
    rw [compactL]
    split
    · rename_i h; subst h; rw [mem_compactL]; simp
    · rw [List.mem_cons, mem_compactL]; simp
theorem SI_compactL : ∀ {l : List ID}, l.Pairwise (fun x y => ¬ cmpID y x < 0) → SI (compactL l)
  | [], _ => by simp [compactL, SI]
  | [x], _ => by simp [compactL, SI]
  | x :: y :: r, h => by
    have h' := List.pairwise_cons.1 h
    rw [compactL]
    split
    · exact SI_compactL h'.2
    · rename_i hne
      have hxy : cmpID x y < 0 := Decidable.byContradiction fun hc => hne (cmp_eq.1 ⟨hc, h'.1 y (by simp)⟩)
      have h2 := List.pairwise_cons.1 h'.2
      refine List.pairwise_cons.2 ⟨fun z hz => ?_, SI_compactL h'.2⟩
      rw [mem_compactL] at hz
      rcases List.mem_cons.1 hz with e | e
      · subst e; exact hxy
      · by_cases hyz : y = z
        · subst hyz; exact hxy
        · have : cmpID y z < 0 := Decidable.byContradiction fun hc => hyz (cmp_eq.1 ⟨hc, h2.1 z e⟩)
          exact cmp_trans hxy this
theorem compact_set {xs ys : List ID} (hp : ys.Perm xs) (hs : ys.Pairwise fun x y => ¬ cmpID y x < 0) : compactL ys = setL xs :=
  SI_unique (SI_compactL hs) (SI_setL xs) fun z => by rw [mem_compactL, mem_setL, hp.mem_iff]
def minusL (a b : List ID) : List ID := (setL a).filter fun x => !decide (x ∈ b)
theorem SI_filter {l : List ID} {p : ID → Bool} (h : SI l) : SI (l.filter p) := List.Pairwise.sublist (List.filter_sublist) h
theorem SWO_cmp : Go.Sort.SWO (Go.Proofs.ltOf cmpID) where
  irrefl x := by simpa [Go.Proofs.ltOf] using cmp_irrefl x
  trans x y z h1 h2 := by simp only [Go.Proofs.ltOf, decide_eq_true_eq] at *; exact cmp_trans h1 h2
  ntrans x y z h1 h2 := by simp only [Go.Proofs.ltOf, decide_eq_false_iff_not, cmp_lt] at *; omega
attribute [local irreducible] setL minusL compactL putI
end Go.Proofs.YtfhoecgiahpddaaGreat
