/-
  MAPS: a map that is made, looked up, written and ranged over; its entries are a list of keys and values, in the order in which the keys came.
-/
import Derived.Test.YtfhoecgiahpddaaGreatOps2
set_option linter.all false
namespace Go.Mesh
open Go.RowKit
set_option linter.unusedSectionVars false
set_option linter.unusedSimpArgs false

section
variable {κ : Type} [DecidableEq κ]
def ent (kc : κ → Value) : Nat → List (κ × Value) → List MapEntry
  | _, [] => []
  | j, (k, v) :: ps => ⟨kc k, v, j⟩ :: ent kc (j + 1) ps
def mapObj (kc : κ → Value) (ps : List (κ × Value)) : Obj := .map (ent kc 0 ps).toArray ps.length
def fidx (k : κ) : Nat → List (κ × Value) → Option (Nat × Value)
  | _, [] => none
  | j, (k', v) :: ps => if k' = k then some (j, v) else fidx k (j + 1) ps
def mget (k : κ) : List (κ × Value) → Option Value
  | [] => none
  | (k', v) :: ps => if k' = k then some v else mget k ps
def mput (k : κ) (v : Value) : List (κ × Value) → List (κ × Value)
  | [] => [(k, v)]
  | (k', v') :: ps => if k' = k then (k', v) :: ps else (k', v') :: mput k v ps

theorem ent_length (kc : κ → Value) : ∀ (ps : List (κ × Value)) (j : Nat), (ent kc j ps).length = ps.length
  | [], _ => rfl
  | (_, _) :: ps, j => by simp [ent, ent_length kc ps]
theorem fidx_get (k : κ) : ∀ (ps : List (κ × Value)) (j : Nat), (fidx k j ps).map (·.2) = mget k ps
  | [], _ => rfl
  | (k', v) :: ps, j => by
    simp only [fidx, mget]
    split
    · rfl
    · exact fidx_get k ps (j + 1)
theorem ent_get (kc : κ → Value) : ∀ (ps : List (κ × Value)) (j i : Nat), (ent kc j ps)[i]? = (ps[i]?).map fun p => ⟨kc p.1, p.2, j + i⟩
  | [], _, _ => by simp [ent]
  | (k, v) :: ps, j, 0 => by simp [ent]
  | (k, v) :: ps, j, i + 1 => by simp [ent, ent_get kc ps (j + 1) i, Nat.add_assoc, Nat.add_comm 1 i]
theorem fidx_some (kc : κ → Value) (k : κ) (v : Value) : ∀ (ps : List (κ × Value)) (j i : Nat) (u : Value), fidx k j ps = some (i, u) → j ≤ i ∧ (ent kc j ps).modify (i - j) (fun e => { e with key := kc k, val := v }) = ent kc j (mput k v ps) ∧ (mput k v ps).length = ps.length ∧ ((ent kc j ps)[i - j]?).map (·.key) = some (kc k)
  | [], _, _, _, h => by cases h
  | (k', v') :: ps, j, i, u, h => by
    simp only [fidx] at h
    split at h
    · rename_i hk
      subst hk
      cases h
      refine ⟨Nat.le_refl _, ?_, ?_, ?_⟩ <;> simp [ent, mput]
    · rename_i hk
      obtain ⟨h1, h2, h3, h4⟩ := fidx_some kc k v ps (j + 1) i u h
      have e : i - j = (i - (j + 1)) + 1 := by omega
      refine ⟨by omega, ?_, ?_, ?_⟩
      · rw [e]; simp only [ent, mput, if_neg hk, List.modify_succ_cons, h2]
      · simp [mput, hk, h3]
      · rw [e]; simpa [ent] using h4
theorem fidx_none (kc : κ → Value) (k : κ) (v : Value) : ∀ (ps : List (κ × Value)) (j : Nat), fidx k j ps = none → ent kc j (mput k v ps) = ent kc j ps ++ [⟨kc k, v, j + ps.length⟩] ∧ (mput k v ps).length = ps.length + 1
  | [], j, _ => by simp [ent, mput]
  | (k', v') :: ps, j, h => by
    simp only [fidx] at h
    split at h
    · cases h
    · rename_i hk
      obtain ⟨h1, h2⟩ := fidx_none kc k v ps (j + 1) h
      simp [ent, mput, hk, h1, h2, Nat.add_assoc, Nat.add_comm 1]

structure KeyLaw (P : Program) (kt : TypeId) (kc : κ → Value) : Prop where
  check : ∀ (w : World) (b : Bool) (k : κ), (Instr.checkKey b 10000 kt (kc k)).run P w = .ok () w
  find : ∀ (w : World) (k : κ) (ps : List (κ × Value)), (Instr.findKey kt (kc k) (ent kc 0 ps)).run P w = .ok (fidx k 0 ps) w
  bits : ∀ k : κ, Instr.sameBits 10000 (kc k) (kc k) = true

/-- The block b is this map: one that nobody writes, or an owned one. -/
def IsMap (h : Frag) (L : Hp) (b : Nat) (ob : Obj) : Prop := h b = some ob ∨ (b, ob) ∈ L
theorem IsMap.get {h : Frag} {L : Hp} {b : Nat} {ob : Obj} {w : World} (x : IsMap h L b ob) (hw : Sees h L w) : w.heap[b]? = some ob := x.elim (fun e => hw.pers _ _ e) (fun e => hw.own _ e)
theorem IsMap.mono {h h' : Frag} {L : Hp} {b : Nat} {ob : Obj} (x : h b = some ob) (hl : le h h') : IsMap h' L b ob := .inl (hl _ _ x)

variable {P : Program} {r : Option Nat} {h : Frag} {L : Hp} {fr : Fr} {o : Oper} {K : OCont} {w : World} {kc : κ → Value}
theorem run_getObj_map {b : Nat} {ps : List (κ × Value)} (hb : w.heap[b]? = some (mapObj kc ps)) : (getObj b).run P w = .ok (mapObj kc ps) w := by
  simp [getObj, Sem.run, hb, mapObj]
def zvOf (P : Program) (t : TypeId) : Option Value := match P.info? t with | some i => i.zero | none => none
theorem run_zeroValue {t : TypeId} {z : Value} (hz : zvOf P t = some z) : (zeroValue t).run P w = .ok z w := by
  unfold zvOf at hz
  cases hi : P.info? t with
  | none => simp [hi] at hz
  | some i => simp only [hi] at hz; simp [zeroValue, typeInfo, hi, hz]
theorem run_lookup {t kt et b : Nat} {k : κ} {ps : List (κ × Value)} {z : Value} {ok : Bool} (kl : KeyLaw P kt kc) (ht : P.underlying t = some (.map kt et)) (hz : zvOf P et = some z) (hb : w.heap[b]? = some (mapObj kc ps)) :
    (Instr.lookup t (.map (some b)) (kc k) ok).run P w = .ok (if ok then .tuple #[(mget k ps).getD z, .bool (mget k ps).isSome] else (mget k ps).getD z) w := by
  unfold Instr.lookup
  simp only [Sem.run_bind, run_underlying' ht, Result.andThen_ok, run_getObj_map hb]
  simp only [mapObj]
  have hg := fidx_get k ps 0
  cases hf : fidx k 0 ps with
  | none =>
    rw [hf] at hg
    simp only [Option.map_none] at hg
    simp only [← hg]
    cases ok <;> simp [kl.check, kl.find, hf, run_zeroValue hz]
  | some p =>
    rw [hf] at hg
    obtain ⟨i, u⟩ := p
    simp only [Option.map_some] at hg
    simp only [← hg]
    cases ok <;> simp [kl.check, kl.find, hf]
theorem Q_lookup {t kt et b : Nat} {x y : Operand} {k : κ} {ps : List (κ × Value)} {z : Value} (hop : o.op = .lookup t x y false) (hx : ev fr x = some (.map (some b))) (hy : ev fr y = some (kc k)) (kl : KeyLaw P kt kc) (ht : P.underlying t = some (.map kt et)) (hz : zvOf P et = some z) (hm : IsMap h L b (mapObj kc ps)) :
    QOP P o fr h L ((mget k ps).getD z) :=
  ⟨fun c => by rw [hop]; simp, fun a ha w hw => by
    unfold execOp; rw [hop]
    simp only [ha x _ hx, ha y _ hy, Sem.run_bind, run_lookup kl ht hz (hm.get hw)]
    simp⟩
theorem Q_lookupOk {t kt et b : Nat} {x y : Operand} {k : κ} {ps : List (κ × Value)} {z : Value} (hop : o.op = .lookup t x y true) (hx : ev fr x = some (.map (some b))) (hy : ev fr y = some (kc k)) (kl : KeyLaw P kt kc) (ht : P.underlying t = some (.map kt et)) (hz : zvOf P et = some z) (hm : IsMap h L b (mapObj kc ps)) :
    QOP P o fr h L (.tuple #[(mget k ps).getD z, .bool (mget k ps).isSome]) :=
  ⟨fun c => by rw [hop]; simp, fun a ha w hw => by
    unfold execOp; rw [hop]
    simp only [ha x _ hx, ha y _ hy, Sem.run_bind, run_lookup kl ht hz (hm.get hw)]
    simp⟩
theorem C_makeMap {t : TypeId} (kc : κ → Value) (hop : o.op = .makeMap t none) (k : ∀ b, K h [(b, mapObj kc [])] (.map (some b))) : OPc P r o fr h L K :=
  OPc_new (ob := mapObj kc []) (fun c => by rw [hop]; simp) fun a ha w _ => ⟨fun b => .map (some b), by unfold execOp; rw [hop]; simp [Instr.makeMap, mapObj, ent], k _⟩
theorem W_mapUpdate {t kt et b : Nat} {x y z : Operand} {k : κ} {v : Value} {ps : List (κ × Value)} {L' : Hp} (hop : o.op = .mapUpdate t x y z) (hx : ev fr x = some (.map (some b))) (hy : ev fr y = some (kc k)) (hz : ev fr z = some v) (kl : KeyLaw P kt kc) (ht : P.underlying t = some (.map kt et))
    (hu : Upd b (mapObj kc ps) (mapObj kc (mput k v ps)) L L') (kk : K h L' undef) : OPw P r o fr h L K := by
  intro a ha w hw
  have hb := hw.sees.own _ hu.mem
  have hlt := hw.lt hu.mem
  have hset : ∀ ob, (setObj b ob).run P w = .ok () { w with heap := w.heap.setIfInBounds b ob } := fun ob => by simp only [setObj, Sem.run, hb, mapObj]
  have hrun : (Instr.mapUpdate t (.map (some b)) (kc k) v).run P w = .ok () { w with heap := w.heap.setIfInBounds b (mapObj kc (mput k v ps)) } := by
    unfold Instr.mapUpdate
    simp only [Sem.run_bind, run_underlying' ht, Result.andThen_ok, run_getObj_map hb]
    simp only [mapObj, kl.check, kl.find, Result.andThen_ok, Sem.run_bind]
    cases hf : fidx k 0 ps with
    | none =>
      obtain ⟨h1, h2⟩ := fidx_none kc k v ps 0 hf
      simp only [Nat.zero_add] at h1
      simp only [hset, h1, h2, List.push_toArray]
    | some p =>
      obtain ⟨i, u⟩ := p
      obtain ⟨_, h2, h3, h4⟩ := fidx_some kc k v ps 0 i u hf
      simp only [Nat.sub_zero] at h2 h4
      have hkey : (((ent kc 0 ps).toArray[i]?).map (·.key)).getD (kc k) = kc k := by simp [h4]
      have hstay : (Instr.keyThatStays (kc k) (kc k)).run P w = .ok (kc k) w := by
        unfold Instr.keyThatStays; rw [if_pos (kl.bits k)]; rfl
      simp only [hkey, Sem.run_bind, hstay, Result.andThen_ok, hset]
      congr 2
      simp only [← h2, h3, List.modify_toArray]
  refine wpIn_of_skip (w' := { w with heap := w.heap.setIfInBounds b (mapObj kc (mput k v ps)) }) (fun c => by rw [hop]; simp) ?_ ⟨h, L', undef, rfl, kk, Ext.set hw hu ?_ ?_ ?_ rfl rfl rfl rfl⟩
  · unfold execOp; rw [hop]
    simp [ha x _ hx, ha y _ hy, ha z _ hz, hrun]
  · simp [Array.getElem?_setIfInBounds, hlt]
  · intro j hj; simp [Array.getElem?_setIfInBounds_ne (Ne.symm hj)]
  · simp

/-! ### Ranging over a map that is not written meanwhile -/
def iterObj (mb n : Nat) (seen : List Nat) : Obj := .mapIter (some mb) n seen.toArray n
theorem C_range {t kt et b : Nat} {x : Operand} {ps : List (κ × Value)} (hop : o.op = .range t x) (hx : ev fr x = some (.map (some b))) (ht : P.underlying t = some (.map kt et)) (hm : IsMap h L b (mapObj kc ps)) (k : ∀ ib, K h [(ib, iterObj b ps.length [])] (ptr ib 0)) : OPc P r o fr h L K :=
  OPc_new (ob := iterObj b ps.length []) (fun c => by rw [hop]; simp) fun a ha w hw => ⟨fun ib => ptr ib 0, by
    have hb := hm.get hw.sees
    unfold execOp; rw [hop]
    simp only [ha x _ hx, Instr.range, Sem.run_bind, run_underlying' ht, Result.andThen_ok, run_getObj_map hb]
    simp [mapObj, iterObj], k _⟩
theorem W_next {b ib : Nat} {x : Operand} {ps : List (κ × Value)} {seen : List Nat} (LF : Obj → Hp) (hop : o.op = .next x false) (hx : ev fr x = some (ptr ib 0)) (hm : IsMap h L b (mapObj kc ps)) (hu : ∀ ob, Upd ib (iterObj b ps.length seen) ob L (LF ob))
    (k1 : ∀ (i : Nat) (k : κ) (v : Value), ps[i]? = some (k, v) → i ∉ seen → K h (LF (iterObj b ps.length (seen ++ [i]))) (.tuple #[.bool true, kc k, v]))
    (k2 : (∀ i, i < ps.length → i ∈ seen) → K h L (.tuple #[.bool false])) : OPw P r o fr h L K := by
  intro a ha w hw
  have hb := hm.get hw.sees
  have hib := hw.sees.own _ (hu (iterObj b ps.length seen)).mem
  have hlt := hw.lt (hu (iterObj b ps.length seen)).mem
  have hget : (getObj ib).run P w = .ok (iterObj b ps.length seen) w := by simp [getObj, Sem.run, hib, iterObj]
  have hd : ∀ c, o.op ≠ .defer c := fun c => by rw [hop]; simp
  -- the entries that are left
  let es := ent kc 0 ps
  have hborn : ∀ e ∈ es, ∃ i k v, ps[i]? = some (k, v) ∧ e = ⟨kc k, v, i⟩ := by
    intro e he
    obtain ⟨i, hi, rfl⟩ := List.getElem_of_mem he
    have hg : es[i]? = some es[i] := by simp [hi]
    have hg2 := ent_get kc ps 0 i
    rw [show ent kc 0 ps = es from rfl, hg] at hg2
    cases hp : ps[i]? with
    | none => rw [hp] at hg2; cases hg2
    | some p => rw [hp] at hg2; simp at hg2; exact ⟨i, p.1, p.2, by simp [hp], hg2⟩
  have hlen : es.length = ps.length := ent_length kc ps 0
  have hilt : ∀ (i : Nat) (k : κ) (v : Value), ps[i]? = some (k, v) → i < ps.length := fun i k v hp => (List.getElem?_eq_some_iff.1 hp).1
  let left := es.toArray.filter fun e => !seen.toArray.contains e.born
  have hold : left.filter (fun e => e.born < ps.length) = left := by
    rw [Array.filter_eq_self]
    intro e he
    obtain ⟨he1, _⟩ := Array.mem_filter.1 he
    obtain ⟨i, k, v, hp, rfl⟩ := hborn e (by simpa using he1)
    simpa using hilt i k v hp
  have hnew : left.filter (fun e => e.born ≥ ps.length) = #[] := by
    rw [Array.filter_eq_empty_iff]
    intro e he
    obtain ⟨he1, _⟩ := Array.mem_filter.1 he
    obtain ⟨i, k, v, hp, rfl⟩ := hborn e (by simpa using he1)
    simpa using hilt i k v hp
  have hcond : (!seen.toArray.isEmpty && !es.toArray.isEmpty && es.toArray.all (·.born ≥ ps.length)) = false := by
    cases hes : es with
    | nil => simp
    | cons e es' =>
      obtain ⟨i, k, v, hp, rfl⟩ := hborn e (by simp [hes])
      have := hilt i k v hp
      have hnot : ¬ ps.length ≤ i := by omega
      simp [hnot]
  have hset : ∀ (w1 : World) (ob : Obj), w1.heap = w.heap → (setObj ib ob).run P w1 = .ok () { w1 with heap := w1.heap.setIfInBounds ib ob } := fun w1 ob e => by simp only [setObj, Sem.run, e, hib, iterObj]
  -- what 'next' comes to
  have hstep : ∀ (q : Nat) (w1 : World) (cand : Option MapEntry), (choose (.mapNext ((if left.isEmpty then #[none] else #[]) ++ left.map some).size)).run P w = .ok q w1 → ((if left.isEmpty then #[none] else #[]) ++ left.map some)[q]? = some cand →
      (execOp a.eval o).run P w = (match cand with
        | some e => .ok (.value (.tuple #[.bool true, e.key, e.val])) { w1 with heap := w1.heap.setIfInBounds ib (iterObj b ps.length (seen ++ [e.born])) }
        | none => .ok (.value (.tuple #[.bool false])) w1) ∨ w1.heap ≠ w.heap := by
    intro q w1 cand hq hc
    by_cases hh : w1.heap = w.heap
    · left
      unfold execOp; rw [hop]
      simp only [ha x _ hx, Instr.next, Sem.run_bind, hget, Result.andThen_ok]
      simp only [iterObj, Sem.run_bind, run_getObj_map hb, Result.andThen_ok]
      simp only [mapObj]
      rw [show ent kc 0 ps = es from rfl]
      simp only [hcond, Bool.false_eq_true, if_false, Sem.run_bind, Sem.run_pure, Result.andThen_ok]
      rw [show (es.toArray.filter fun e => !seen.toArray.contains e.born) = left from rfl]
      simp only [hold, hnew, Array.append_empty, hq, Result.andThen_ok, hc]
      cases cand with
      | none => simp
      | some e => simp [hset w1 _ hh, iterObj]
    · exact .inr hh
  have hne : 0 < ((if left.isEmpty then #[none] else #[]) ++ left.map some).size := by
    by_cases hl : left.isEmpty = true
    · rw [if_pos hl]; simp; omega
    · rw [if_neg hl]
      have : left.size ≠ 0 := by simpa [Array.isEmpty] using hl
      simp; omega
  -- the draw
  obtain ⟨q, w1, hq, hqlt, hw1, ho1, ht1, hp1, hn1⟩ : ∃ (q : Nat) (w1 : World), (choose (.mapNext ((if left.isEmpty then #[none] else #[]) ++ left.map some).size)).run P w = .ok q w1 ∧ q < ((if left.isEmpty then #[none] else #[]) ++ left.map some).size ∧ w1.heap = w.heap ∧ w1.os = w.os ∧ w1.tape = w.tape ∧ w1.output = w.output ∧ w.drawn ≤ w1.drawn := by
    generalize ((if left.isEmpty then #[none] else #[]) ++ left.map some).size = n at hne ⊢
    simp only [choose, Sem.run]
    by_cases hf : (Question.mapNext n).forced = true
    · rw [if_pos hf]; exact ⟨0, w, rfl, hne, rfl, rfl, rfl, rfl, Nat.le_refl _⟩
    · rw [if_neg hf]; exact ⟨_, _, rfl, Nat.mod_lt _ hne, rfl, rfl, rfl, rfl, Nat.le_succ _⟩
  obtain ⟨cand, hc⟩ : ∃ cand, ((if left.isEmpty then #[none] else #[]) ++ left.map some)[q]? = some cand := ⟨_, Array.getElem?_eq_getElem hqlt⟩
  have hex := (hstep q w1 cand hq hc).resolve_right (by simp [hw1])
  have hmem : cand ∈ ((if left.isEmpty then #[none] else #[]) ++ left.map some) := Array.mem_of_getElem? hc
  have hsame := Ext.same hw hw1 ho1 ht1 hp1 hn1
  cases cand with
  | none =>
    have hem : left.isEmpty = true := by
      cases hl : left.isEmpty with
      | true => rfl
      | false => rw [hl] at hmem; simp at hmem
    refine wpIn_of_value hd hex ⟨h, L, _, rfl, k2 fun i hi => ?_, hsame⟩
    by_cases hin : i ∈ seen
    · exact hin
    · exfalso
      have hg := ent_get kc ps 0 i
      have hp : ps[i]? = some ps[i] := by simp [hi]
      rw [hp] at hg
      simp only [Option.map_some, Nat.zero_add] at hg
      have hm1 : (⟨kc ps[i].1, ps[i].2, i⟩ : MapEntry) ∈ left := by
        refine Array.mem_filter.2 ⟨?_, by simpa using hin⟩
        have := List.mem_of_getElem? hg
        simpa using this
      have hz : left = #[] := by simpa using hem
      rw [hz] at hm1
      simp at hm1
  | some e =>
    have hel : e ∈ left := by
      rcases Array.mem_append.1 hmem with h1 | h1
      · cases hl : left.isEmpty <;> rw [hl] at h1 <;> simp at h1
      · simpa using h1
    obtain ⟨he1, he2⟩ := Array.mem_filter.1 hel
    obtain ⟨i, k, v, hp, rfl⟩ := hborn e (by simpa using he1)
    have hin : i ∉ seen := by simpa using he2
    refine wpIn_of_value hd hex ⟨h, _, _, rfl, k1 i k v hp hin, hsame.trans (Ext.set hsame.holds (hu _) ?_ ?_ ?_ rfl rfl rfl rfl)⟩
    · rw [Array.getElem?_setIfInBounds]; simp [hw1, hlt]
    · intro j hj; simp [Array.getElem?_setIfInBounds_ne (Ne.symm hj)]
    · simp
theorem Q_entry {b ib : Nat} {x : Operand} {ps : List (κ × Value)} {seen : List Nat} {i : Nat} {k : κ} {v : Value} (hop : o.op = .entry x) (hx : ev fr x = some (ptr ib 0)) (hm : IsMap h L b (mapObj kc ps)) (hi : (ib, iterObj b ps.length (seen ++ [i])) ∈ L) (hp : ps[i]? = some (k, v)) :
    QOP P o fr h L (.tuple #[kc k, v]) :=
  ⟨fun c => by rw [hop]; simp, fun a ha w hw => by
    have hb := hm.get hw
    have hib := hw.own _ hi
    have hget : (getObj ib).run P w = .ok (iterObj b ps.length (seen ++ [i])) w := by simp [getObj, Sem.run, hib, iterObj]
    have hfind : ∀ (ps : List (κ × Value)) (j i : Nat) (k : κ) (v : Value), ps[i]? = some (k, v) → (ent kc j ps).find? (fun e => e.born == j + i) = some ⟨kc k, v, j + i⟩ := by
      intro ps
      induction ps with
      | nil => intro j i k v e; simp at e
      | cons p ps ih =>
        intro j i k v e
        cases i with
        | zero => simp at e; subst e; simp [ent]
        | succ i =>
          have := ih (j + 1) i k v (by simpa using e)
          have hne : ¬ (j = j + (i + 1)) := by omega
          rw [show j + 1 + i = j + (i + 1) by omega] at this
          simp [ent, hne, this]
    have hf := hfind ps 0 i k v hp
    simp only [Nat.zero_add] at hf
    unfold execOp; rw [hop]
    simp only [ha x _ hx, Instr.entry, Sem.run_bind, hget, Result.andThen_ok]
    simp only [iterObj, Sem.run_bind, run_getObj_map hb, Result.andThen_ok]
    simp [run_getObj_map hb, mapObj, hf]⟩
end
end Go.Mesh
