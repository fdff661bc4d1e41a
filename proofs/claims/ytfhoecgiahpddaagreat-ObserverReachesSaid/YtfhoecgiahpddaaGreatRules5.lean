/-
  SLICES OF IDENTITIES THAT ARE WRITTEN IN PLACE: an owned block that holds a list of identities, read, written, cut and cleared.
-/
import Derived.Test.YtfhoecgiahpddaaGreatFh
set_option linter.all false
namespace Go.Mesh
open Go.RowKit
set_option linter.unusedVariables false
def flatI (xs : List ID) : List Value := xs.flatMap idc
theorem flatI_length (xs : List ID) : (flatI xs).length = xs.length * 2 := by
  induction xs with
  | nil => rfl
  | cons x xs ih => simp only [flatI, List.flatMap_cons, List.length_append] at *; rw [ih]; simp [idc]; omega
theorem flatI_append (xs ys : List ID) : flatI (xs ++ ys) = flatI xs ++ flatI ys := by simp [flatI]
theorem flatI_take (xs : List ID) (j : Nat) : flatI (xs.take j) = (flatI xs).take (j * 2) := by
  induction xs generalizing j with
  | nil => simp [flatI]
  | cons x xs ih =>
    cases j with
    | zero => simp [flatI]
    | succ j =>
      have := ih j
      simp only [flatI, List.take_succ_cons, List.flatMap_cons] at *
      rw [this, show (j + 1) * 2 = j * 2 + 2 by omega]
      rfl
theorem flatI_drop (xs : List ID) (j : Nat) : flatI (xs.drop j) = (flatI xs).drop (j * 2) := by
  have h1 : flatI xs = flatI (xs.take j) ++ flatI (xs.drop j) := by rw [← flatI_append, List.take_append_drop]
  rw [flatI_take] at h1
  by_cases hj : j ≤ xs.length
  · have hl : ((flatI xs).take (j * 2)).length = j * 2 := by rw [List.length_take, flatI_length]; omega
    conv => rhs; rw [h1, List.drop_append, hl]
    simp
  · rw [List.drop_eq_nil_of_le (by omega), List.drop_eq_nil_of_le (by rw [flatI_length]; omega)]; rfl
theorem flatI_get {xs : List ID} {j : Nat} {x : ID} (hx : xs[j]? = some x) : (flatI xs).drop (j * 2) = idc x ++ flatI (xs.drop (j + 1)) := by
  obtain ⟨h1, h2⟩ := List.getElem?_eq_some_iff.1 hx
  rw [← flatI_drop, List.drop_eq_getElem_cons h1, h2]; rfl
theorem flatI_set {xs : List ID} {j : Nat} (y : ID) (hj : j < xs.length) (rest : List Value) : putAt (flatI xs ++ rest) (j * 2) (idc y) = flatI (xs.set j y) ++ rest := by
  have hl := flatI_length xs
  have hlen : (idc y).length = 2 := rfl
  rw [List.set_eq_take_append_cons_drop, if_pos hj, flatI_append, putAt, hlen, List.take_append_of_le_length (by omega), List.drop_append_of_le_length (by omega), flatI_take]
  have : flatI (y :: xs.drop (j + 1)) = idc y ++ flatI (xs.drop (j + 1)) := rfl
  rw [this, flatI_drop, show (j + 1) * 2 = j * 2 + 2 by omega]
  simp
theorem Flat_id {h : Frag} {xs : List ID} {us : List Value} : Flat h 2 IDC xs us ↔ us = flatI xs := by
  induction xs generalizing us with
  | nil => exact Iff.rfl
  | cons x xs ih =>
    constructor
    · rintro ⟨vs, ws, rfl, _, _, rfl, hf⟩
      rw [ih.1 hf]; rfl
    · rintro rfl
      exact ⟨idc x, flatI xs, rfl, rfl, rfl, rfl, ih.2 rfl⟩
theorem OS.parts {h : Frag} {v : Value} {xs : List ID} {M : Hp} (s : OS h 35 2 IDC v xs M) (h0 : 0 < xs.length) : ∃ b cap rest, v = .slice (some ⟨b, 0, none⟩) xs.length cap ∧ M = [(b, cells (flatI xs ++ rest) 35)] ∧ xs.length ≤ cap ∧ (flatI xs).length + rest.length = cap * 2 := by
  obtain ⟨us, ⟨hu, ⟨rfl, h1, _⟩ | ⟨b, cap, rest, rfl, rfl, h2, h3⟩⟩, f⟩ := s
  · omega
  · rw [Flat_id.1 f] at h2 ⊢
    exact ⟨b, cap, rest, rfl, rfl, h3, h2⟩
theorem OS.make {h : Frag} {b n cap : Nat} {xs : List ID} {rest : List Value} (hn : n = xs.length) (hc : xs.length ≤ cap) (hl : (flatI xs).length + rest.length = cap * 2) : OS h 35 2 IDC (.slice (some ⟨b, 0, none⟩) n cap) xs [(b, cells (flatI xs ++ rest) 35)] := by
  subst hn
  exact ⟨flatI xs, ⟨flatI_length xs, .inr ⟨b, cap, rest, rfl, rfl, hl, hc⟩⟩, Flat_id.2 rfl⟩
section
variable {P : Program} {r : Option Nat} {h : Frag} {L : Hp} {fr : Fr} {o : Oper} {K : OCont} {b j k e : Nat} {xs ys : List ID} {x y : ID} {rest : List Value}
theorem Rd_id (hm : (b, cells (flatI xs ++ rest) e) ∈ L) (hx : xs[j]? = some x) : Rd h L b (j * 2) (idc x) := by
  refine ⟨_, e, (0, 0), .inr hm, fun i v hv => ?_⟩
  have h1 := flatI_get hx
  have hlt : j * 2 < (flatI xs).length := by rw [flatI_length]; have := (List.getElem?_eq_some_iff.1 hx).1; omega
  have hi : i < 2 := (List.getElem?_eq_some_iff.1 hv).1
  have h2 : ((flatI xs).drop (j * 2))[i]? = some v := by rw [h1, List.getElem?_append_left (by exact hi)]; exact hv
  rw [List.getElem?_drop] at h2
  have h3 := (List.getElem?_eq_some_iff.1 h2).1
  simp only [List.getElem?_toArray]
  rw [List.getElem?_append_left h3]; exact h2
theorem L_id0 {t : TypeId} {KK : Value → Prop} (hm : (b, cells (flatI xs ++ rest) e) ∈ L) (hx : xs[j]? = some x) (ht : tyOf P t = some (true, 2)) (kk : KK (.agg (idc x).toArray)) : LG P h L b (0 + j * 2) t KK := by
  rw [Nat.zero_add]; exact L_agg (Rd_id hm hx) ht rfl kk
theorem L_id1 {t : TypeId} {KK : Value → Prop} (hm : (b, cells (flatI xs ++ rest) e) ∈ L) (hx : xs[k + j]? = some x) (ht : tyOf P t = some (true, 2)) (kk : KK (.agg (idc x).toArray)) : LG P h L b (0 + k * 2 + j * 2) t KK := by
  rw [show 0 + k * 2 + j * 2 = (k + j) * 2 by omega]; exact L_agg (Rd_id hm hx) ht rfl kk
theorem Q_indexX {t q by_ n cap off kk : Nat} {s ix : Operand} {qk : IntKind} {i : Int} (hx : xs[j]? = some x) (hop : o.op = .indexAddr t s ix) (hs : ev fr s = some (.slice (some ⟨b, off, none⟩) n cap)) (hi : ev fr ix = some (.int qk i)) (he : elemOf? P t = some (q, kk, by_)) (hj : i = (j : Int)) (hlt : j < n) : QOP P o fr h L (ptr b (off + j * kk)) :=
  Q_index hop hs hi he hj hlt
theorem W_id {t : TypeId} {p z : Operand} {L' : Hp} (hop : o.op = .store t p z) (hp : ev fr p = some (ptr b (0 + j * 2))) (hz : ev fr z = some (.agg (idc y).toArray)) (ht : tyOf P t = some (true, 2)) (hj : j < xs.length) (hu : Upd b (cells (flatI xs ++ rest) e) (cells (flatI (xs.set j y) ++ rest) e) L L') (kk : K h L' undef) : OPw P r o fr h L K := by
  refine W_put (v := .agg (idc y).toArray) (vs := idc y) (l := flatI xs ++ rest) (bt := e) hop hp hz rfl ht rfl rfl (L' := L') ?_ ?_ kk
  · rw [Nat.zero_add, flatI_set y hj]; exact hu
  · simp [flatI_length, idc]; omega
theorem W_clear {c : Call} {z : Operand} {t by_ n cap : Nat} {L' : Hp} (hop : o.op = .call c) (hc : c.callee = .builtin .clear) (ha : c.args = #[z]) (hat : c.argTypes = #[t]) (hz : ev fr z = some (.slice (some ⟨b, 0 + k * 2, none⟩) n cap)) (he : elemOf? P t = some (e, 2, by_)) (hzv : zvOf P e = some (.agg (idc (0, 0)).toArray)) (hn : k + n = xs.length)
    (hu : Upd b (cells (flatI xs ++ rest) e) (cells (flatI (xs.take k ++ List.replicate n (0, 0)) ++ rest) e) L L') (kk : K h L' (.tuple #[])) : OPw P r o fr h L K := by
  intro a hal w hw
  obtain ⟨hun, i0, hi, hk, _⟩ := elemOf?_spec he
  have hzero : (zeroValue e).run P w = .ok (.agg (idc (0, 0)).toArray) w := run_zeroValue hzv
  have hd : ∀ c', o.op ≠ .defer c' := fun c' => by rw [hop]; simp
  have hrep : (Builtin.zeroCells (Value.agg (idc (0, 0)).toArray).cells n).toList = flatI (List.replicate n (0, 0)) := by
    have : ∀ n : Nat, flatI (List.replicate n ((0, 0) : ID)) = List.replicate (n * 2) (.int .i64 0) := by
      intro n
      induction n with
      | zero => rfl
      | succ n ih =>
        rw [List.replicate_succ]
        have h1 : flatI ((0, 0) :: List.replicate n ((0, 0) : ID)) = idc (0, 0) ++ flatI (List.replicate n (0, 0)) := rfl
        rw [h1, ih, show (n + 1) * 2 = n * 2 + 1 + 1 by omega, List.replicate_succ, List.replicate_succ]; rfl
    rw [this]
    apply List.ext_getElem
    · simp [Builtin.zeroCells, Value.cells, idc]
    · intro i h1 h2
      simp [Builtin.zeroCells, Value.cells, idc]
      have : i % 2 = 0 ∨ i % 2 = 1 := by omega
      rcases this with h | h <;> simp [h]
  have hput : putAt (flatI xs ++ rest) (k * 2 + 0) (flatI (List.replicate n (0, 0))) = flatI (xs.take k ++ List.replicate n (0, 0)) ++ rest := by
    have hl := flatI_length xs
    have hl2 := flatI_length (List.replicate n ((0, 0) : ID))
    simp only [List.length_replicate] at hl2
    rw [putAt, hl2, flatI_append, List.take_append_of_le_length (by omega), List.drop_append_of_le_length (by omega), flatI_take]
    have hnil : (flatI xs).drop (k * 2 + 0 + n * 2) = [] := List.drop_eq_nil_of_le (by omega)
    rw [hnil]
    simp
  have hones : ∀ v ∈ flatI (List.replicate n ((0, 0) : ID)), v.oneCell' = true := by
    intro v hv
    simp only [flatI, List.mem_flatMap, List.mem_replicate] at hv
    obtain ⟨x, ⟨_, rfl⟩, hv⟩ := hv
    simp [idc] at hv; subst hv; rfl
  obtain ⟨w', hr, hb', hne, hsz, ho, htp, hpo, hdn⟩ := run_storeCells (P := P) (b := b) (t := e) (flatI (List.replicate n (0, 0))) 0 (k * 2) (flatI xs ++ rest) w (hw.sees.own _ hu.mem) (by
    have hl := flatI_length xs
    have hl2 := flatI_length (List.replicate n ((0, 0) : ID))
    simp only [List.length_replicate] at hl2
    simp only [List.length_append]; omega) hones
  rw [hput] at hb'
  have hx := Ext.set hw hu hb' hne hsz ho htp hpo hdn
  have hrun : (Builtin.clear_ #[t] o.type #[.slice (some ⟨b, k * 2, none⟩) n cap]).run P w = .ok (.tuple #[]) w' := by
    unfold Builtin.clear_
    cases n with
    | zero =>
      have : w' = w := by
        have : flatI (List.replicate 0 ((0, 0) : ID)) = [] := rfl
        rw [this] at hr
        simp only [storeCells, Sem.run_pure] at hr
        cases hr; rfl
      subst this
      simp [run_underlying' hun]
    | succ n =>
      simp only [Sem.run_bind]
      simp [run_underlying' hun, hzero, hrep, hr]
  refine wpIn_of_value hd (w' := w') (v := .tuple #[]) ?_ ⟨h, L', _, rfl, kk, hx⟩
  unfold execOp; rw [hop]
  simp [resolve, hc, ha, hat, invoke, builtin, hal z _ hz, hrun]
end
end Go.Mesh
