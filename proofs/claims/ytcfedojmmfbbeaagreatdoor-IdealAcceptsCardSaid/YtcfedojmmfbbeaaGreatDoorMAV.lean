/-
  Part MAV of the proof's ground: Ta, Tc, Tw, Tg.
-/
import Derived.ChangeArms
import Derived.ChangeReads
import Derived.WideShapes
import Derived.Test.YtcfedojmmfbbeaaGreatDoorRows
import Derived.WalkKit
import Derived.ProofKit
import Derived.OpenShut
import Derived.Carry
import Derived.LaidMore
import Derived.MakeChecks
import Derived.DataReads
import Derived.FnData
import Derived.Test.YtcfedojmmfbbeaaGreatDoorMAD
import Derived.Test.YtcfedojmmfbbeaaGreatDoorMAF
import Derived.Test.YtcfedojmmfbbeaaGreatDoorMAU
/-
  HOW THE DATA THAT A ROW SPEAKS OF ARE OPENED: from a value's reading to its cells, in the words of the logic.
-/
set_option linter.all false
namespace Go.Mesh
open Go.RowKit
set_option linter.unusedVariables false
section
variable {H : Type} {enc : TypeId × Value → H} {P : Program} {w : World} {t e : TypeId} {cs : List Value}
def TR (enc : TypeId × Value → H) (P : Program) (w : World) (t : TypeId) (cs : List Value) : Prop := ∃ fuel x, DataW.trod enc P w 0 (fun _ => true) true fuel t cs = some x
/-- the whole heap: nobody writes it -/
def hpOf (w : World) : Frag := fun b => w.heap[b]?
theorem Holds.all (w : World) : Holds (hpOf w) [] w := ⟨⟨fun _ _ e => e, by simp⟩, List.nodup_nil, by simp⟩
theorem TR.int {k : IntKind} (h : TR enc P w t cs) (ht : P.underlying t = some (.int k)) : ∃ n, cs = [.int k n] ∧ (Lit.int k n).wf = true := by
  obtain ⟨_, _, h⟩ := h
  obtain ⟨n, e, _, hw⟩ := DataW.trod_int ht h
  exact ⟨n, e, hw⟩
theorem TR.bool (h : TR enc P w t cs) (ht : P.underlying t = some .bool) : ∃ b, cs = [.bool b] := by
  obtain ⟨_, _, h⟩ := h
  obtain ⟨b, e, _⟩ := DataW.trod_bool ht h
  exact ⟨b, e⟩
theorem TR.str (h : TR enc P w t cs) (ht : P.underlying t = some .string) : ∃ s, cs = [.string s] := by
  obtain ⟨_, _, h⟩ := h
  obtain ⟨s, e, _⟩ := DataW.trod_string ht h
  exact ⟨s, e⟩
/-- the cells of fields that lie side by side -/
def Parts (Q : TypeId → List Value → Prop) : List TypeId → List Value → Prop
  | [], cs => cs = []
  | t :: ts, cs => ∃ a b, cs = a ++ b ∧ Q t a ∧ Parts Q ts b
def tilesB (P : Program) : List Field → Nat → Nat → Bool
  | [], cur, tot => Nat.beq cur tot
  | f :: fs, cur, tot => Nat.beq f.offset cur && tilesB P fs (cur + P.cellsOf f.type) tot
theorem tilesB_le : ∀ (l : List Field) (cur tot : Nat), tilesB P l cur tot = true → cur ≤ tot
  | [], cur, tot, h => Nat.le_of_eq (Nat.eq_of_beq_eq_true h)
  | f :: fs, cur, tot, h => by
    simp only [tilesB, Bool.and_eq_true] at h
    have := tilesB_le fs _ _ h.2
    omega
theorem parts_of {Q : TypeId → List Value → Prop} : ∀ (l : List Field) (cur : Nat), tilesB P l cur cs.length = true → (∀ f, f ∈ l → ((cs.drop f.offset).take (P.cellsOf f.type)).length = P.cellsOf f.type → Q f.type ((cs.drop f.offset).take (P.cellsOf f.type))) →
    Parts Q (l.map (·.type)) (cs.drop cur)
  | [], cur, h, _ => by
    have : cur = cs.length := Nat.eq_of_beq_eq_true h
    simp [Parts, this]
  | f :: fs, cur, h, hq => by
    simp only [tilesB, Bool.and_eq_true] at h
    obtain ⟨h1, h2⟩ := h
    have h1 := Nat.eq_of_beq_eq_true h1
    have hle := tilesB_le fs _ _ h2
    have ih := parts_of fs _ h2 fun g hg => hq g (List.mem_cons_of_mem _ hg)
    refine ⟨(cs.drop cur).take (P.cellsOf f.type), cs.drop (cur + P.cellsOf f.type), ?_, ?_, ih⟩
    · rw [← List.drop_drop, List.take_append_drop]
    · have := hq f (List.mem_cons_self ..)
      rw [h1] at this
      exact this (by rw [List.length_take, List.length_drop]; omega)
theorem TR.struct {fs : Array Field} {tys : List TypeId} (h : TR enc P w t cs) (ht : P.underlying t = some (.struct fs)) (hb : tilesB P fs.toList 0 (P.cellsOf t) = true) (hty : fs.toList.map (·.type) = tys) : cs.length = P.cellsOf t ∧ Parts (fun t a => a.length = P.cellsOf t ∧ TR enc P w t a) tys cs := by
  obtain ⟨_, _, h⟩ := h
  obtain ⟨xs, n, _, _, hl, hx, hf⟩ := DataW.trod_struct ht h
  subst hty
  refine ⟨hl, ?_⟩
  have := parts_of (P := P) (Q := fun t a => a.length = P.cellsOf t ∧ TR enc P w t a) (cs := cs) fs.toList 0 (by rw [hl]; exact hb) fun f hm hlen => ?_
  · simpa using this
  · obtain ⟨i, hi⟩ := List.getElem?_of_mem hm
    have hi' : fs[i]? = some f := by simpa using hi
    have := hf i f hi'
    have hlt : i < xs.length := by rw [hx]; exact (Array.getElem?_eq_some_iff.1 hi').1
    rw [List.getElem?_eq_getElem hlt] at this
    exact ⟨hlen, n, _, this⟩
theorem list_of {α : Type} {Q : Nat → α → Prop} : ∀ n, (∀ i, i < n → ∃ y, Q i y) → ∃ xs : List α, xs.length = n ∧ ∀ (i : Nat) y, xs[i]? = some y → Q i y
  | 0, _ => ⟨[], rfl, by simp⟩
  | n + 1, h => by
    obtain ⟨xs, hl, hx⟩ := list_of n fun i hi => h i (by omega)
    obtain ⟨y, hy⟩ := h n (by omega)
    refine ⟨xs ++ [y], by simp [hl], fun i z hz => ?_⟩
    rw [List.getElem?_append] at hz
    split at hz
    · exact hx i z hz
    · rename_i hge
      have hi : i - xs.length = 0 := by
        have := (List.getElem?_eq_some_iff.1 hz).1
        simp at this; omega
      rw [hi] at hz
      simp at hz
      subst hz
      have : i = n := by omega
      rw [this]; exact hy
theorem TR.slice {α : Type} {C : CR α} {k : Nat} (h : TR enc P w t cs) (ht : P.underlying t = some (.slice e)) (hk : P.cellsOf e = k) (h0 : 0 < k)
    (hel : ∀ cs, TR enc P w e cs → ∃ y, cs.length = k ∧ ones cs = true ∧ C (hpOf w) y cs) : ∃ p c, ∃ xs : List α, cs = [.slice p xs.length c] ∧ SLB 9223372036854775807 (hpOf w) k C (.slice p xs.length c) xs := by
  obtain ⟨_, _, h⟩ := h
  rcases DataW.trod_slice ht h with ⟨rfl, _⟩ | ⟨a, len, cap, elems, rest, n, _, rfl, _, _, hlc, hcm, hel2, hget, _⟩
  · exact ⟨none, 0, [], rfl, by simp, .inl ⟨none, 0, rfl, rfl⟩⟩
  · rw [hk] at hget
    by_cases hz : len = 0
    · subst hz
      exact ⟨some a, cap, [], rfl, by simp, .inl ⟨some a, cap, rfl, rfl⟩⟩
    have hcells : ∀ i, i < len → ∃ y, ∃ us : List Value, us.length = k ∧ ones us = true ∧ C (hpOf w) y us ∧ ∀ j, j < k → w.cell? ((a.add (i * k)).add j) = us[j]? := by
      intro i hi
      have hg := hget i hi
      rw [List.getElem?_eq_getElem (by rw [hel2]; exact hi)] at hg
      cases hc : w.cells? 0 (a.add (i * k)) k with
      | none => rw [hc] at hg; cases hg
      | some us =>
        rw [hc] at hg
        obtain ⟨y, hl, ho, hC⟩ := hel us ⟨n, _, hg⟩
        simp only [World.cells?, Nat.zero_le, if_true] at hc
        exact ⟨y, us, hl, ho, hC, fun j hj => mapM_some_get hc j j (by simp [hj])⟩
    obtain ⟨b, off, spot⟩ := a
    have hsp : spot = none := by
      obtain ⟨y, us, hl, _, _, hc⟩ := hcells 0 (by omega)
      have h00 := hc 0 h0
      rw [List.getElem?_eq_getElem (by omega)] at h00
      have hs := World.cell?_spot h00
      simpa [Addr.add] using hs
    subst hsp
    have hone : ∀ i, i < len → ∃ y, ∃ us : List Value, us.length = k ∧ ones us = true ∧ C (hpOf w) y us ∧ At (hpOf w) b (off + i * k) us := by
      intro i hi
      obtain ⟨y, us, hl, ho, hC, hc⟩ := hcells i hi
      refine ⟨y, us, hl, ho, hC, ?_⟩
      have h00 := hc 0 h0
      rw [List.getElem?_eq_getElem (by omega)] at h00
      simp only [addr_add, World.cell?] at hc h00
      cases hb : w.heap[b]? with
      | none => simp only [hb] at h00; cases h00
      | some ob =>
        simp only [hb] at h00 hc
        cases ob with
        | cells arr ty fz =>
          refine ⟨arr, ty, fz, hb, fun j v hv => ?_⟩
          have := hc j (by rw [← hl]; exact (List.getElem?_eq_some_iff.1 hv).1)
          simp only [Option.isSome_none, Bool.false_eq_true, if_false] at this
          rw [this]; exact hv
        | _ => cases h00
    obtain ⟨xs, hl, hx⟩ := list_of len hone
    refine ⟨some ⟨b, off, none⟩, cap, xs, by rw [hl], by rw [hl]; unfold maxLen at hcm; omega, ?_⟩
    exact .inr ⟨b, off, cap, rfl, fun i y hy => hx i y hy⟩
/-- types of which only the cells' form is asked -/
def flatB (P : Program) : Nat → TypeId → Bool
  | 0, _ => false
  | n + 1, t => match P.underlying t with
    | some (.struct fs) => tilesB P fs.toList 0 (P.cellsOf t) && fs.toList.all fun f => flatB P n f.type
    | some (.array ..) => false
    | some _ => true
    | none => false
theorem ones_parts {Q : TypeId → List Value → Prop} (hq : ∀ t a, Q t a → ones a = true) : ∀ (ts : List TypeId) (cs : List Value), Parts Q ts cs → ones cs = true
  | [], _, e => by cases e; rfl
  | t :: ts, _, ⟨a, b, e, h1, h2⟩ => by subst e; exact ones_append (hq t a h1) (ones_parts hq ts b h2)
theorem TR.ones : ∀ (n : Nat) {t : TypeId} {cs : List Value}, TR enc P w t cs → flatB P n t = true → Mesh.ones cs = true
  | 0, _, _, _, hf => by cases hf
  | n + 1, t, cs, h, hf => by
    unfold flatB at hf
    split at hf
    · rename_i fs hu
      rw [Bool.and_eq_true, List.all_eq_true] at hf
      obtain ⟨_, hp⟩ := TR.struct (tys := fs.toList.map (·.type)) h hu hf.1 rfl
      have hmem : ∀ (ts : List TypeId) (cs : List Value), (∀ t, t ∈ ts → flatB P n t = true) → Parts (fun t a => a.length = P.cellsOf t ∧ TR enc P w t a) ts cs → Mesh.ones cs = true := by
        intro ts
        induction ts with
        | nil => intro cs _ e; cases e; rfl
        | cons t ts ih =>
          rintro _ hall ⟨a, b, rfl, ⟨_, h1⟩, h2⟩
          exact ones_append (TR.ones n h1 (hall t (List.mem_cons_self ..))) (ih b (fun u hu => hall u (List.mem_cons_of_mem _ hu)) h2)
      refine hmem _ _ (fun t ht => ?_) hp
      obtain ⟨f, hfm, rfl⟩ := List.mem_map.1 ht
      exact hf.2 f hfm
    · cases hf
    · rename_i d hns hna hu
      obtain ⟨fuel, x, h⟩ := h
      cases fuel with
      | zero => simp [DataW.trod] at h
      | succ m =>
        unfold DataW.trod at h
        rw [hu] at h
        split at h <;> first | rfl | (cases h; done) | (exfalso; simp_all; done) | skip
    · cases hf
end
end Go.Mesh
/-
  FROM A CONTRACT TO A ROW's STEP: what was in memory is as it was; the arguments read as they did.
-/
set_option linter.all false
namespace Go.Mesh
open Go.RowKit
section
variable {H : Type} {enc : TypeId × Value → H} {P : Program} {W W' : World}
/-- the old blocks are as they were -/
structure Same (W W' : World) : Prop where
  os : W'.os = W.os
  output : W'.output = W.output
  block : ∀ b, b < W.heap.size → W'.heap[b]? = W.heap[b]?
theorem Same.kept (x : Same W W') (may : MemPlace → Prop) : W.keptBut W' may := by
  refine ⟨x.os, x.output, fun i hi => ?_⟩
  have hk := (World.keptBut_refl W may).2.2 i hi
  rw [x.block i hi]
  exact hk
theorem Same.at (x : Same W W') {p : MemPlace} (hp : p.block < W.heap.size) : W.sameAt W' p := by
  cases p with
  | cell b off => simp only [World.sameAt, World.cell?]; rw [x.block b hp]
  | map b => exact x.block b hp
theorem TrodAll_same (hl : laidOutB P = true) (x : Same W W') {sp : Nat → Bool} : ∀ (ts : List TypeId) (vs : List Value) (ds : List (DataW H)) (ps : List MemPlace), (∀ t, t ∈ ts → P.readableRec t = true ∧ t < P.types.size) →
    DataW.TrodAll enc P W 0 (fun _ => true) true ts vs ds ps → (∀ p, p ∈ ps → p.block < W.heap.size) → (∀ p, p ∈ ps → sp p.block = true) → DataW.TrodAll enc P W' 0 sp true ts vs ds ps
  | [], [], [], ps, _, h, _, _ => h
  | t :: ts, v :: vs, d :: ds, ps, hr, h, hlt, hs => by
    obtain ⟨p, q, h1, h2, rfl⟩ := h
    obtain ⟨hr1, hr2⟩ := hr t (List.mem_cons_self ..)
    refine ⟨p, q, WideElems.Trod_stays hl hr1 hr2 h1 (fun y hy => x.at (hlt y (List.mem_append_left _ hy))) (fun y hy => hs y (List.mem_append_left _ hy)), ?_, rfl⟩
    exact TrodAll_same hl x ts vs ds q (fun u hu => hr u (List.mem_cons_of_mem _ hu)) h2 (fun y hy => hlt y (List.mem_append_right _ hy)) (fun y hy => hs y (List.mem_append_right _ hy))
theorem calls_of_pspec {f : FuncId} {args : Array Value} {v : Value} (x : PSpec P f args (hpOf W) (fun _ u => u = v)) : Calls P f args W fun e W' => e = .returned v ∧ Same W W' := by
  refine (x W (Holds.all W)).mono ?_
  rintro e W' ⟨u, h', L', rfl, ⟨_, rfl⟩, y⟩
  exact ⟨rfl, y.os, y.output, fun b hb => y.frame b hb (by simp [ids])⟩
/-- what a law that returns true leaves -/
theorem law_post {f : Func} {s : ChangeSpec} {args : Array Value} {ds gs : List (DataW H)} {before : List MemPlace} (hl : laidOutB P = true) (hr : ∀ t, t ∈ f.params.toList → P.readableRec t = true ∧ t < P.types.size)
    (hvars : s.vars = []) (hW : DataW.Whole enc P f.params.toList s.vars false W args.toList ds gs before) (hfn : (s.fn H (ds ++ gs)).results = [.lit (.bool true)] ∧ (s.fn H (ds ++ gs)).args = ds ∧ (s.fn H (ds ++ gs)).vars = []) (hb : P.underlying 4 = some .bool) (hres : f.resultTypes = #[4])
    (x : Same W W') : s.post enc P f false true false false W args (.bool true) W' := by
  have hlt := fun p hp => hW.lt p hp
  obtain ⟨h1, h2, h3⟩ := hfn
  have hW' := hW
  obtain ⟨p, q, hA, hV, rfl, hfz, hnd⟩ := hW
  have hq : q = [] := by
    rw [hvars] at hV
    cases gs with
    | nil => exact hV
    | cons g gs => exact hV.elim
  subst hq
  refine ⟨ds, gs, p ++ [], [], p, [], hW', ?_, ?_, ?_, x.kept _, fun h => by cases h⟩
  · rw [h1, hres]
    exact trodAll_cons_mk (p' := []) (shut_bool hb true) rfl
  · rw [h2]
    exact TrodAll_same hl x _ _ _ _ hr hA (fun y hy => hlt y (by simpa using hy)) (fun y hy => by simpa using hlt y (by simpa using hy))
  · rw [h3, hvars]; rfl
end
end Go.Mesh
/-
  ARGUMENTS WITHIN THE MACHINE's REACH, OPENED: a compiled program; what the package-level variables read as.
-/
set_option linter.all false
namespace Go.Mesh
open Go.RowKit
set_option linter.unusedVariables false
section
variable {H : Type} {enc : TypeId × Value → H} {P : Program} {w : World} {t e : TypeId} {cs : List Value}
theorem weightsAll_mem {d : DataW H} : ∀ {l : List (DataW H)}, d ∈ l → ∀ n, n ∈ d.weights P e → n ∈ DataW.weightsAll P e l
  | [], h, _, _ => by cases h
  | x :: l, h, n, hn => by
    rw [DataW.weightsAll]
    rcases List.mem_cons.1 h with rfl | h
    · exact List.mem_append_left _ hn
    · exact List.mem_append_right _ (weightsAll_mem h n hn)
theorem weightsEach_mem {d : DataW H} {t : TypeId} : ∀ {ts : List TypeId} {l : List (DataW H)} {i : Nat}, ts[i]? = some t → l[i]? = some d → ∀ n, n ∈ d.weights P t → n ∈ DataW.weightsEach P ts l
  | [], _, _, h, _, _, _ => by simp at h
  | _ :: _, [], _, _, h, _, _ => by simp at h
  | u :: ts, x :: l, 0, h1, h2, n, hn => by
    simp at h1 h2; subst h1; subst h2
    rw [DataW.weightsEach]; exact List.mem_append_left _ hn
  | u :: ts, x :: l, i + 1, h1, h2, n, hn => by
    rw [DataW.weightsEach]; exact List.mem_append_right _ (weightsEach_mem (i := i) (by simpa using h1) (by simpa using h2) n hn)
def TRw (enc : TypeId × Value → H) (P : Program) (w : World) (t : TypeId) (cs : List Value) : Prop := ∃ fuel x, DataW.trod enc P w 0 (fun _ => true) true fuel t cs = some x ∧ ∀ n, n ∈ x.1.weights P t → n ≤ 140737488351232
theorem TRw.tr (h : TRw enc P w t cs) : TR enc P w t cs := by
  obtain ⟨f, x, h, _⟩ := h; exact ⟨f, x, h⟩
theorem TRw.struct {fs : Array Field} {tys : List TypeId} (h : TRw enc P w t cs) (ht : P.underlying t = some (.struct fs)) (hb : tilesB P fs.toList 0 (P.cellsOf t) = true) (hty : fs.toList.map (·.type) = tys) : cs.length = P.cellsOf t ∧ Parts (fun t a => a.length = P.cellsOf t ∧ TRw enc P w t a) tys cs := by
  obtain ⟨_, _, h, hk⟩ := h
  obtain ⟨xs, n, _, hx0, hl, hx, hf⟩ := DataW.trod_struct ht h
  subst hty
  subst hx0
  refine ⟨hl, ?_⟩
  have := parts_of (P := P) (Q := fun t a => a.length = P.cellsOf t ∧ TRw enc P w t a) (cs := cs) fs.toList 0 (by rw [hl]; exact hb) fun f hm hlen => ?_
  · simpa using this
  · obtain ⟨i, hi⟩ := List.getElem?_of_mem hm
    have hi' : fs[i]? = some f := by simpa using hi
    have := hf i f hi'
    have hlt : i < xs.length := by rw [hx]; exact (Array.getElem?_eq_some_iff.1 hi').1
    rw [List.getElem?_eq_getElem hlt] at this
    refine ⟨hlen, n, _, this, fun k hk1 => hk k ?_⟩
    rw [DataW.weights, ht]
    exact weightsEach_mem (i := i) (by simp [hi]) (by simp [List.getElem?_eq_getElem hlt]) k hk1
theorem TRw.slice {α : Type} {C : CR α} {k kb B : Nat} (h : TRw enc P w t cs) (ht : P.underlying t = some (.slice e)) (hk : P.cellsOf e = k) (h0 : 0 < k) (hkb : P.bytesOf e = kb) (hB : 140737488351232 < (B + 1) * kb)
    (hel : ∀ cs, TRw enc P w e cs → ∃ y, cs.length = k ∧ ones cs = true ∧ C (hpOf w) y cs) : ∃ p c, ∃ xs : List α, cs = [.slice p xs.length c] ∧ SLB B (hpOf w) k C (.slice p xs.length c) xs := by
  obtain ⟨_, _, h, hbk⟩ := h
  rcases DataW.trod_slice ht h with ⟨rfl, _⟩ | ⟨a, len, cap, elems, rest, n, _, rfl, hx0, _, hlc, hcm, hel2, hget, _⟩
  · exact ⟨none, 0, [], rfl, by simp, .inl ⟨none, 0, rfl, rfl⟩⟩
  · subst hx0
    have hlen : len ≤ B := by
      have h1 := hbk ((elems.length + rest.length) * kb) (by rw [DataW.weights, ht]; simp [hkb])
      rw [hel2] at h1
      refine Nat.le_of_lt_succ ?_
      have h2 : len * kb ≤ (len + rest.length) * kb := Nat.mul_le_mul_right _ (Nat.le_add_right _ _)
      exact Nat.lt_of_mul_lt_mul_right (Nat.lt_of_le_of_lt (Nat.le_trans h2 h1) hB)
    have hwt : ∀ d, d ∈ elems.map (·.1) → ∀ m, m ∈ d.weights P e → m ≤ 140737488351232 := fun d hd m hm => hbk m (by
      rw [DataW.weights, ht]
      exact List.mem_cons_of_mem _ (List.mem_append_left _ (weightsAll_mem hd m hm)))
    rw [hk] at hget
    by_cases hz : len = 0
    · subst hz
      exact ⟨some a, cap, [], rfl, by simp, .inl ⟨some a, cap, rfl, rfl⟩⟩
    have hcells : ∀ i, i < len → ∃ y, ∃ us : List Value, us.length = k ∧ ones us = true ∧ C (hpOf w) y us ∧ ∀ j, j < k → w.cell? ((a.add (i * k)).add j) = us[j]? := by
      intro i hi
      have hg := hget i hi
      have hi2 : i < elems.length := by rw [hel2]; exact hi
      rw [List.getElem?_eq_getElem hi2] at hg
      cases hc : w.cells? 0 (a.add (i * k)) k with
      | none => rw [hc] at hg; cases hg
      | some us =>
        rw [hc] at hg
        obtain ⟨y, hl, ho, hC⟩ := hel us ⟨n, _, hg, hwt _ (List.mem_map.2 ⟨_, List.getElem_mem hi2, rfl⟩)⟩
        simp only [World.cells?, Nat.zero_le, if_true] at hc
        exact ⟨y, us, hl, ho, hC, fun j hj => mapM_some_get hc j j (by simp [hj])⟩
    obtain ⟨b, off, spot⟩ := a
    have hsp : spot = none := by
      obtain ⟨y, us, hl, _, _, hc⟩ := hcells 0 (by omega)
      have h00 := hc 0 h0
      rw [List.getElem?_eq_getElem (by omega)] at h00
      have hs := World.cell?_spot h00
      simpa [Addr.add] using hs
    subst hsp
    have hone : ∀ i, i < len → ∃ y, ∃ us : List Value, us.length = k ∧ ones us = true ∧ C (hpOf w) y us ∧ At (hpOf w) b (off + i * k) us := by
      intro i hi
      obtain ⟨y, us, hl, ho, hC, hc⟩ := hcells i hi
      refine ⟨y, us, hl, ho, hC, ?_⟩
      have h00 := hc 0 h0
      rw [List.getElem?_eq_getElem (by omega)] at h00
      simp only [addr_add, World.cell?] at hc h00
      cases hb : w.heap[b]? with
      | none => simp only [hb] at h00; cases h00
      | some ob =>
        simp only [hb] at h00 hc
        cases ob with
        | cells arr ty fz =>
          refine ⟨arr, ty, fz, hb, fun j v hv => ?_⟩
          have := hc j (by rw [← hl]; exact (List.getElem?_eq_some_iff.1 hv).1)
          simp only [Option.isSome_none, Bool.false_eq_true, if_false] at this
          rw [this]; exact hv
        | _ => cases h00
    obtain ⟨xs, hl, hx⟩ := list_of len hone
    refine ⟨some ⟨b, off, none⟩, cap, xs, by rw [hl], by rw [hl]; omega, ?_⟩
    exact .inr ⟨b, off, cap, rfl, fun i y hy => hx i y hy⟩
end
theorem wf_i64 {n : Int} (h : (Lit.int .i64 n).wf = true) : inI64 n := by
  simp [Lit.wf, IntKind.min, IntKind.max, IntKind.signed, IntKind.bits] at h
  exact h
/-! ### Plain data: what reads as a datum are the datum's cells -/
def tileT (P : Program) : Nat → TypeId → Bool
  | 0, _ => false
  | n + 1, t => match P.underlying t with
    | some (.struct fs) => tilesB P fs.toList 0 (P.cellsOf t) && fs.toList.all fun f => tileT P n f.type
    | some (.array k e) => Nat.beq (P.cellsOf t) (k * P.cellsOf e) && tileT P n e
    | some (.int _) => true
    | some .string => true
    | some .bool => true
    | _ => false
end Go.Mesh
namespace Go.Proofs.YtcfedojmmfbbeaaGreatDoor
open Go.Mesh Go.RowKit Go.ChangeShapes
set_option linter.unusedVariables false
set_option maxRecDepth 100000
section
variable {H : Type} {enc : TypeId × Value → H} {w : World} {cs : List Value}
theorem ins_of (h : TRw enc Tryz.prog w 77 cs) : ∃ y : Ins, cs.length = 3 ∧ ones cs = true ∧ InsC (hpOf w) y cs := by
  obtain ⟨_, a, _, rfl, ⟨_, h1⟩, b, _, rfl, ⟨_, h2⟩, c, _, rfl, ⟨_, h3⟩, rfl⟩ := h.struct (tys := [3, 2, 2]) Tryz.underlying77 (by kernel_rfl) rfl
  obtain ⟨x1, rfl, i1⟩ := h1.tr.int Tryz.underlying3
  obtain ⟨x2, rfl, i2⟩ := h2.tr.int Tryz.underlying2
  obtain ⟨x3, rfl, i3⟩ := h3.tr.int Tryz.underlying2
  exact ⟨⟨x1, x2, x3⟩, rfl, rfl, ⟨wf_i64 i1, wf_i64 i2, wf_i64 i3⟩, rfl⟩
theorem str_of (h : TRw enc Tryz.prog w 9 cs) : ∃ y : ByteArray, cs.length = 1 ∧ ones cs = true ∧ StrC (hpOf w) y cs := by
  obtain ⟨x, rfl⟩ := h.tr.str Tryz.underlying9
  exact ⟨x, rfl, rfl, rfl⟩
theorem meth_of (h : TRw enc Tryz.prog w 70 cs) : ∃ y : Meth, cs.length = 5 ∧ ones cs = true ∧ MethC 8796093022208 (hpOf w) y cs := by
  obtain ⟨_, a, _, rfl, ⟨_, h1⟩, b, _, rfl, ⟨_, h2⟩, c, _, rfl, ⟨_, h3⟩, d, _, rfl, ⟨_, h4⟩, e, _, rfl, ⟨_, h5⟩, rfl⟩ := h.struct (tys := [9, 3, 3, 68, 64]) Tryz.underlying70 (by kernel_rfl) rfl
  obtain ⟨x1, rfl⟩ := h1.tr.str Tryz.underlying9
  obtain ⟨x2, rfl, i2⟩ := h2.tr.int Tryz.underlying3
  obtain ⟨x3, rfl, i3⟩ := h3.tr.int Tryz.underlying3
  obtain ⟨p, c, xs, rfl, s⟩ := h4.slice (C := InsC) (B := 8796093022208) (kb := 24) Tryz.underlying68 (by kernel_rfl) (by decide) (by kernel_rfl) (by decide) fun _ => ins_of
  obtain ⟨q, d, ys, rfl, s'⟩ := h5.slice (C := StrC) (B := 8796093022208) (kb := 16) Tryz.underlying64 (by kernel_rfl) (by decide) (by kernel_rfl) (by decide) fun _ => str_of
  exact ⟨⟨x2, x3, xs, ys⟩, rfl, rfl, wf_i64 i2, wf_i64 i3, x1, p, c, q, d, rfl, s, s'⟩
theorem cls_of (h : TRw enc Tryz.prog w 67 cs) : ∃ y : Cls, cs.length = 4 ∧ ones cs = true ∧ ClsC 8796093022208 (hpOf w) y cs := by
  obtain ⟨_, a, _, rfl, ⟨_, h1⟩, b, _, rfl, ⟨_, h2⟩, d, _, rfl, ⟨_, h4⟩, e, _, rfl, ⟨_, h5⟩, rfl⟩ := h.struct (tys := [9, 4, 64, 65]) Tryz.underlying67 (by kernel_rfl) rfl
  obtain ⟨x1, rfl⟩ := h1.tr.str Tryz.underlying9
  obtain ⟨x2, rfl⟩ := h2.tr.bool Tryz.underlying4
  obtain ⟨p, c, xs, rfl, s⟩ := h4.slice (C := StrC) (B := 8796093022208) (kb := 16) Tryz.underlying64 (by kernel_rfl) (by decide) (by kernel_rfl) (by decide) fun _ => str_of
  obtain ⟨q, d, ys, rfl, s'⟩ := h5.slice (C := MethC 8796093022208) (B := 8796093022208) (kb := 80) Tryz.underlying65 (by kernel_rfl) (by decide) (by kernel_rfl) (by decide) fun _ => meth_of
  exact ⟨⟨x2, xs, ys⟩, rfl, rfl, x1, p, c, q, d, rfl, s, s'⟩
theorem code_of {v : Value} {d : DataW H} {ps : List MemPlace} {r : Go.Reach} {b0 : Nat} (hval : Value.okWide Tryz.prog w r b0 24 v) (h : DataW.Trod enc Tryz.prog w 0 (fun _ => true) true 24 v d ps) (hb : ∀ n, n ∈ d.weights Tryz.prog 24 → n ≤ 140737488351232) :
    ∃ us cs, v = .agg us.toArray ∧ CodeC 8796093022208 (hpOf w) cs us := by
  obtain ⟨cs, rfl, _⟩ := Go.WideShapes.okWide_struct Tryz.underlying24 hval
  obtain ⟨fuel, hf⟩ := h
  have ht : TRw enc Tryz.prog w 24 cs.toList := ⟨fuel, _, hf, hb⟩
  obtain ⟨_, a, _, e, ⟨_, h1⟩, rfl⟩ := ht.struct (tys := [22]) Tryz.underlying24 (by kernel_rfl) rfl
  obtain ⟨p, c, xs, rfl, s⟩ := h1.slice (C := ClsC 8796093022208) (B := 8796093022208) (kb := 72) Tryz.underlying22 (by kernel_rfl) (by decide) (by kernel_rfl) (by decide) fun _ => cls_of
  exact ⟨cs.toList, xs, rfl, p, c, by simpa using e, s⟩
end
end Go.Proofs.YtcfedojmmfbbeaaGreatDoor
/-
  WHAT THE PACKAGE-LEVEL VARIABLES READ AS, in the words of the logic.
-/
set_option linter.all false
namespace Go.Proofs.YtcfedojmmfbbeaaGreatDoor
open Go.Mesh Go.RowKit Go.ChangeShapes
set_option linter.unusedVariables false
set_option maxRecDepth 100000
section
variable {P : Program} {w : World}
theorem vds_tile {ds : List (DataW Unit)} {cs : List Value} : ∀ (l : List Field) (k cur : Nat), tilesB P l cur cs.length = true → ds.length = k + l.length → (∀ (i : Nat) f d, l[i]? = some f → ds[k + i]? = some d → (cs.drop f.offset).take (P.cellsOf f.type) = vd d) → cs.drop cur = vds (ds.drop k)
  | [], k, cur, h, hk, _ => by
    have : cur = cs.length := Nat.eq_of_beq_eq_true h
    simp only [List.length_nil] at hk
    rw [this, List.drop_length, List.drop_eq_nil_of_le (by omega)]; rfl
  | f :: fs, k, cur, h, hk, hq => by
    simp only [tilesB, Bool.and_eq_true] at h
    obtain ⟨h1, h2⟩ := h
    have h1 := Nat.eq_of_beq_eq_true h1
    simp only [List.length_cons] at hk
    have hlt : k < ds.length := by omega
    have ih := vds_tile (ds := ds) (cs := cs) fs (k + 1) _ h2 (by omega) fun i g d hg hd => hq (i + 1) g d (by simpa using hg) (by rw [← hd]; congr 1; omega)
    have h0 := hq 0 f ds[k] rfl (by simp [List.getElem?_eq_getElem hlt])
    rw [List.drop_eq_getElem_cons hlt, vds, ← h0, ← ih, h1, ← List.drop_drop, List.take_append_drop]
theorem vds_arr {ds : List (DataW Unit)} {cs : List Value} {c : Nat} (hl : cs.length = ds.length * c) (hq : ∀ (i : Nat) d, ds[i]? = some d → (cs.drop (i * c)).take c = vd d) : ∀ n k, k + n = ds.length → cs.drop (k * c) = vds (ds.drop k)
  | 0, k, hk => by
    rw [List.drop_eq_nil_of_le (by rw [hl, ← hk]; simp), List.drop_eq_nil_of_le (by omega)]; rfl
  | n + 1, k, hk => by
    have hlt : k < ds.length := by omega
    have ih := vds_arr hl hq n (k + 1) (by omega)
    have h0 := hq k ds[k] (by simp [List.getElem?_eq_getElem hlt])
    rw [List.drop_eq_getElem_cons hlt, vds, ← h0, ← ih, Nat.add_mul, Nat.one_mul, ← List.drop_drop, List.take_append_drop]
theorem trod_flat {base : Nat} {sp : Nat → Bool} {held : Bool} : ∀ (n : Nat) {t : TypeId} {fuel : Nat} {cs : List Value} {x : DataW Unit × List MemPlace}, tileT P n t = true → DataW.trod (fun _ => ()) P w base sp held fuel t cs = some x → cs = vd x.1
  | 0, _, _, _, _, h, _ => by cases h
  | n + 1, t, fuel, cs, x, ht, h => by
    unfold tileT at ht
    split at ht
    · rename_i fs hu
      rw [Bool.and_eq_true, List.all_eq_true] at ht
      obtain ⟨xs, m, _, rfl, hl, hx, hf⟩ := DataW.trod_struct hu h
      have := vds_tile (P := P) (ds := xs.map (·.1)) (cs := cs) fs.toList 0 0 (by rw [hl]; exact ht.1) (by simp [hx]) fun i f d hi hd => by
        have hi' : fs[i]? = some f := by simpa using hi
        have h1 := hf i f hi'
        rw [Nat.zero_add] at hd
        rw [List.getElem?_map] at hd
        cases hy : xs[i]? with
        | none => rw [hy] at hd; cases hd
        | some y =>
          rw [hy] at hd h1; cases hd
          exact trod_flat n (ht.2 f (List.mem_of_getElem? hi)) h1
      simpa [vd] using this
    · rename_i k e hu
      rw [Bool.and_eq_true] at ht
      have hc := Nat.eq_of_beq_eq_true ht.1
      obtain ⟨xs, m, _, rfl, hl, hx, hf⟩ := DataW.trod_array hu h
      have := vds_arr (ds := xs.map (·.1)) (cs := cs) (c := P.cellsOf e) (by rw [hl, hc, List.length_map, hx]) (fun i d hd => by
        rw [List.getElem?_map] at hd
        cases hy : xs[i]? with
        | none => rw [hy] at hd; cases hd
        | some y =>
          have hi : i < k := by rw [← hx]; exact (List.getElem?_eq_some_iff.1 hy).1
          have h1 := hf i hi
          rw [hy] at hd h1; cases hd
          exact trod_flat n ht.2 h1) k 0 (by simp [hx])
      simpa [vd] using this
    · rename_i k hu
      obtain ⟨m, rfl, rfl, _⟩ := DataW.trod_int hu h
      rfl
    · rename_i hu
      obtain ⟨s, rfl, rfl, _⟩ := DataW.trod_string hu h
      simp [vd]
    · rename_i hu
      obtain ⟨b, rfl, rfl⟩ := DataW.trod_bool hu h
      rfl
    · cases ht
theorem laid_mem : ∀ {l : List (String × DataW Unit)} {ps : List MemPlace} {n : String} {d : DataW Unit}, DataW.LaidVars P w l ps → (n, d) ∈ l →
    ∃ g t cs fuel p, P.globalNamed n = some g ∧ (P.globals[g]?).map (·.type) = some t ∧ w.var? P n = some cs ∧ DataW.trod (fun _ => ()) P w 0 (fun _ => true) false fuel t cs.toList = some (d, p)
  | [], _, _, _, _, h => by cases h
  | (m, e) :: l, ps, n, d, ⟨g, t, cs, fuel, p, q, h1, h2, h3, h4, h5, _⟩, h => by
    rcases List.mem_cons.1 h with h | h
    · cases h; exact ⟨g, t, cs, fuel, p, h1, h2, h3, h4⟩
    · exact laid_mem h5 h
theorem var_at {n : String} {g : Nat} {cs : Array Value} (hg : P.globalNamed n = some g) (h : w.var? P n = some cs) : ∃ t fz, hpOf w g = some (.cells cs t fz) := by
  simp only [World.var?, hg, Option.bind_some] at h
  unfold hpOf
  split at h
  · rename_i c t fz e
    cases h; exact ⟨t, fz, e⟩
  · cases h
/-- a listed variable of plain data -/
theorem laid_flat {l : List (String × DataW Unit)} {ps : List MemPlace} {n : String} {d : DataW Unit} {g t : Nat} (k : Nat) (h : DataW.LaidVars P w l ps) (hm : (n, d) ∈ l) (hg : P.globalNamed n = some g) (ht : (P.globals[g]?).map (·.type) = some t) (hk : tileT P k t = true) :
    ∃ rest u fz, hpOf w g = some (.cells (vd d ++ rest).toArray u fz) := by
  obtain ⟨g', t', cs, fuel, p, h1, h2, h3, h4⟩ := laid_mem h hm
  cases hg.symm.trans h1
  cases ht.symm.trans h2
  have := trod_flat k hk h4
  obtain ⟨u, fz, e⟩ := var_at h1 h3
  refine ⟨[], u, fz, ?_⟩
  rw [e, List.append_nil, ← this]
end
theorem vds_ones {P : Program} {w : World} : ∀ {ds : List (DataW Unit)} {us : List Value}, us.length = ds.length → (∀ (i : Nat) d v, ds[i]? = some d → us[i]? = some v → [v] = vd d) → us = vds ds
  | [], us, hl, _ => by simp at hl; subst hl; rfl
  | d :: ds, [], hl, _ => by simp at hl
  | d :: ds, u :: us, hl, h => by
    have h0 := h 0 d u rfl rfl
    have ih := vds_ones (P := P) (w := w) (ds := ds) (us := us) (by simpa using hl) fun i e v he hv => h (i + 1) e v (by simpa using he) (by simpa using hv)
    rw [vds, ← h0, ← ih]; rfl
theorem gl_of {w : World} (h : laidMetH Tryz.prog Rows.idealAcceptsRow.laid w) : Gl (hpOf w) ∧ GB (hpOf w) := by
  rw [MakeChecks.laidMetH_plain _ _ _ (by kernel_rfl)] at h
  obtain ⟨ps, hv, _, _⟩ := h
  have m1 : ("refmesh/checker.codes", Rows.laid_refmesh_checker_codes) ∈ Rows.idealAcceptsRow.laid := by simp [Rows.idealAcceptsRow]
  have m2 : ("refmesh/syntax.forms", Rows.laid_refmesh_syntax_forms) ∈ Rows.idealAcceptsRow.laid := by simp [Rows.idealAcceptsRow]
  have m3 : ("refmesh/lexer.keywords", Rows.laid_refmesh_lexer_keywords) ∈ Rows.idealAcceptsRow.laid := by simp [Rows.idealAcceptsRow]
  have m4 : ("unicode/utf8.acceptRanges", Rows.laid_unicode_utf8_acceptRanges) ∈ Rows.idealAcceptsRow.laid := by simp [Rows.idealAcceptsRow]
  have h12 : ∃ o, hpOf w 12 = some o := by
    obtain ⟨g, t, cs, fuel, p, h1, h2, h3, h4⟩ := laid_mem hv m4
    cases (show Tryz.prog.globalNamed "unicode/utf8.acceptRanges" = some 12 by kernel_rfl).symm.trans h1
    obtain ⟨u, fz, e⟩ := var_at h1 h3
    exact ⟨_, e⟩
  refine ⟨⟨h12, laid_flat 8 hv m1 (by kernel_rfl) (t := 131) (by kernel_rfl) (by kernel_rfl), laid_flat 8 hv m2 (by kernel_rfl) (t := 255) (by kernel_rfl) (by kernel_rfl), ?_⟩, h12⟩
  obtain ⟨g, t, cs, fuel, p, h1, h2, h3, h4⟩ := laid_mem hv m3
  cases (show Tryz.prog.globalNamed "refmesh/lexer.keywords" = some 10 by kernel_rfl).symm.trans h1
  cases (show (Tryz.prog.globals[10]?).map (·.type) = some 64 by kernel_rfl).symm.trans h2
  obtain ⟨u, fz, e⟩ := var_at h1 h3
  obtain ⟨ds, hds, hlen⟩ : ∃ ds, Rows.laid_refmesh_lexer_keywords (H := Unit) = .slice ds [] ∧ ds.length = kwN := ⟨_, rfl, by kernel_rfl⟩
  rw [hds] at h4
  obtain ⟨a, cap, hcs, hle, hel⟩ := open_row Tryz.underlying64 (by kernel_rfl) h4
  have hpos : 0 < ds.length := by rw [hlen]; decide +kernel
  obtain ⟨b, off, spot⟩ := a
  have hone : ∀ i, i < ds.length → ∃ y : Value, ∃ d, ds[i]? = some d ∧ w.cell? (Addr.add ⟨b, off, spot⟩ i) = some y ∧ [y] = vd d := fun i hi => by
    obtain ⟨v, n, q, hc, ht⟩ := hel i ds[i] (List.getElem?_eq_getElem hi)
    exact ⟨v, ds[i], List.getElem?_eq_getElem hi, hc, trod_flat 1 (by kernel_rfl) ht⟩
  have hsp : spot = none := by
    obtain ⟨y, d, _, hc, _⟩ := hone 0 hpos
    have hs := World.cell?_spot hc
    simpa [Addr.add] using hs
  subst hsp
  obtain ⟨us, hul, hu⟩ := list_of ds.length hone
  have huv : us = vds ds := vds_ones (P := Tryz.prog) (w := w) hul fun i d v hd hv => by
    obtain ⟨d', e1, _, e2⟩ := hu i v hv
    cases e1.symm.trans hd; exact e2
  obtain ⟨y0, _, _, hc0, _⟩ := hone 0 hpos
  simp only [addr_add, World.cell?] at hc0
  cases hb : w.heap[b]? with
  | none => simp only [hb] at hc0; cases hc0
  | some ob =>
    simp only [hb] at hc0
    cases ob with
    | cells arr ty fz2 =>
      have hcell : ∀ i, i < ds.length → arr[off + i]? = us[i]? := fun i hi => by
        obtain ⟨y, hy⟩ : ∃ y, us[i]? = some y := ⟨_, List.getElem?_eq_getElem (by rw [hul]; exact hi)⟩
        obtain ⟨d', _, e2, _⟩ := hu i y hy
        simp only [addr_add, World.cell?, hb, Option.isSome_none, Bool.false_eq_true, if_false] at e2
        rw [e2, hy]
      have hsz : off + ds.length ≤ arr.size := by
        have := hcell (ds.length - 1) (by omega)
        rw [List.getElem?_eq_getElem (show ds.length - 1 < us.length by omega)] at this
        have := (Array.getElem?_eq_some_iff.1 this).1
        omega
      have hmid : us = (arr.toList.drop off).take ds.length := by
        apply List.ext_getElem?
        intro i
        by_cases hi : i < ds.length
        · rw [← hcell i hi, List.getElem?_take, if_pos hi, List.getElem?_drop, Array.getElem?_toList]
        · rw [List.getElem?_eq_none (l := us) (i := i) (by omega), List.getElem?_eq_none (l := (arr.toList.drop off).take ds.length) (i := i) (Nat.le_trans (List.length_take_le _ _) (Nat.le_of_not_lt hi))]
      have hel2 : elv Rows.laid_refmesh_lexer_keywords = us := by rw [hds, huv]; rfl
      refine ⟨b, off, cap, [], u, fz, arr.toList.take off, (arr.toList.drop off).drop ds.length, ty, fz2, ?_, ?_, ?_, ?_⟩
      · rw [e, List.append_nil, ← hlen, ← hcs]
      · rw [← hlen]; exact hle
      · rw [hel2, hmid]
        show w.heap[b]? = _
        rw [hb, List.append_assoc, List.take_append_drop, List.take_append_drop]
      · rw [List.length_take, Array.length_toList]; omega
    | _ => cases hc0
end Go.Proofs.YtcfedojmmfbbeaaGreatDoor
