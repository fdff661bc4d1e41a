/-
  slices.SortFunc IN MY LOGIC, out of the kit's contract (Derived/Shelf/SlSortCmp/WholeK.lean): an owned row becomes a permutation of itself, sorted.
-/
import Derived.Test.YtfhoecgiahpddaaGreatShelf
set_option linter.all false
namespace Go.Mesh
open Go.Proofs Go.Shelf
set_option linter.unusedVariables false

theorem Ext.grown {h : Frag} {L : Hp} {w : World} (s : Holds h L w) (os : Array Obj) : Ext h L w h L (Go.Sort.grow w os) := by
  have hlt : ∀ b, b < w.heap.size → (Go.Sort.grow w os).heap[b]? = w.heap[b]? := fun b hb => by simp only [Go.Sort.grow]; rw [Array.getElem?_append_left hb]
  refine ⟨le_refl h, ⟨⟨fun b o e => ?_, fun p hp => ?_⟩, s.nodup, s.apart⟩, ?_, fun b hb _ => hlt b hb, fun b o e => .inl e, fun p hp => .inr (mem_ids hp), rfl, rfl, rfl, Nat.le_refl _⟩
  · rw [hlt b (s.pers_lt e)]; exact s.sees.pers b o e
  · rw [hlt _ (s.lt hp)]; exact s.sees.own p hp
  · simp [Go.Sort.grow]
theorem Ext.isGrow {h h' : Frag} {w w' : World} (x : Ext h [] w h' [] w') : ∃ q os', w' = Go.Sort.grow (w.drewN q) os' := by
  refine ⟨w'.drawn - w.drawn, w'.heap.extract w.heap.size w'.heap.size, ?_⟩
  have hd : w.drawn + (w'.drawn - w.drawn) = w'.drawn := by have := x.drawn; omega
  have hh : w.heap ++ w'.heap.extract w.heap.size w'.heap.size = w'.heap := by
    apply Array.ext_getElem?
    intro i
    rw [Array.getElem?_append]
    split
    · rename_i hlt; rw [x.frame i hlt (by simp [ids])]
    · rename_i hge
      rw [Array.getElem?_extract]
      have hs := x.size
      split
      · rename_i h2; congr 1; omega
      · rename_i h2; rw [Array.getElem?_eq_none (by omega)]
  have h1 := x.os; have h2 := x.tape; have h3 := x.output
  cases w' with
  | mk heap tape drawn os output =>
    simp only at hd hh h1 h2 h3
    simp only [Go.Sort.grow, World.drewN, hd, hh, h1, h2, h3]

section
variable {α : Type} [Inhabited α] {P : Program} {ρ : Ren} {enc : α → List Value} {k : Nat}
theorem flatMap_len (hk : ∀ x, (enc x).length = k) : ∀ d : List α, (d.flatMap enc).length = d.length * k
  | [] => by simp
  | x :: d => by simp only [List.flatMap_cons, List.length_append, hk, flatMap_len hk d, List.length_cons]; rw [Nat.add_mul]; omega
theorem flatMap_get (hk : ∀ x, (enc x).length = k) : ∀ (d : List α) (t : Nat), t < d.length * k → (d.flatMap enc)[t]? = some ((enc (d.toArray[t / k]!))[t % k]!)
  | [], t, h => by simp at h
  | x :: d, t, h => by
    have k0 : 0 < k := by rcases Nat.eq_zero_or_pos k with h0 | h0; · subst h0; simp at h
                          · exact h0
    rw [List.flatMap_cons]
    by_cases ht : t < k
    · rw [List.getElem?_append_left (by rw [hk]; exact ht), Nat.div_eq_of_lt ht, Nat.mod_eq_of_lt ht]
      have : t < (enc x).length := by rw [hk]; exact ht
      simp [this]
    · rw [List.getElem?_append_right (by rw [hk]; omega), hk, flatMap_get hk d (t - k) (by simp only [List.length_cons, Nat.add_mul] at h; omega)]
      obtain ⟨u, rfl⟩ : ∃ u, t = u + k := ⟨t - k, by omega⟩
      rw [Nat.add_sub_cancel, Nat.add_div_right _ k0, Nat.add_mod_right]
      simp
theorem flatK_eq (hk : ∀ x, (enc x).length = k) (d : List α) : Go.Sort.flatK enc k d.toArray = (d.flatMap enc).toArray := by
  apply Array.ext
  · simp [flatMap_len hk]
  · intro t h1 h2
    simp only [Go.Sort.size_flatK, List.size_toArray] at h1
    have h3 := flatMap_get hk d t h1
    have h4 := Go.Sort.get_flatK enc k d.toArray t (by simpa using h1)
    rw [getElem!_pos _ t (by simpa using h1)] at h4
    rw [h4]
    have h5 : t < (d.flatMap enc).length := by rw [flatMap_len hk]; exact h1
    rw [List.getElem?_eq_getElem h5] at h3
    simp only [List.getElem_toArray]
    exact (Option.some.inj h3).symm

theorem ext_sw (hk : ∀ x, (enc x).length = k) {h : Frag} {w : World} {b e : Nat} {d : List α} {rest : List Value} (hw : Holds h [(b, cells (d.flatMap enc ++ rest) e)] w) (m : Nat) (dk : List α) (os : Array Obj) (hs : dk.length = d.length) :
    Ext h [(b, cells (d.flatMap enc ++ rest) e)] w h [(b, cells (dk.flatMap enc ++ rest) e)] (sortWorldK enc k w b 0 m dk.toArray os) := by
  have hb := hw.sees.own (b, cells (d.flatMap enc ++ rest) e) (by simp)
  have hblk := hw.lt (p := (b, cells (d.flatMap enc ++ rest) e)) (by simp)
  have e1 : Ext h [(b, cells (d.flatMap enc ++ rest) e)] w h [(b, cells (d.flatMap enc ++ rest) e)] (Go.Sort.ahead w m) := Ext.same hw rfl rfl rfl rfl (Nat.le_add_right _ _)
  have hput : Go.Sort.putCells id 0 (Go.Sort.flatK enc k dk.toArray) (d.flatMap enc ++ rest).toArray = (dk.flatMap enc ++ rest).toArray := by
    rw [flatK_eq hk]
    have l1 := flatMap_len hk d
    have l2 := flatMap_len hk dk
    apply Array.ext
    · simp [Go.Sort.putCells, l1, l2, hs]
    · intro i h1 h2
      simp only [Go.Sort.putCells, Array.getElem_mapIdx]
      split
      · rename_i hi
        have hi2 : i < (dk.flatMap enc).length := by simpa using hi.2
        simp only [Nat.sub_zero, id]
        rw [getElem!_pos _ i (by simpa using hi2)]
        simp only [List.getElem_toArray]
        rw [List.getElem_append_left hi2]
      · rename_i hi
        have hi2 : (dk.flatMap enc).length ≤ i := by simp only [Nat.zero_le, true_and, Nat.zero_add, List.size_toArray, Nat.not_lt] at hi; exact hi
        simp only [List.getElem_toArray]
        rw [List.getElem_append_right hi2, List.getElem_append_right (by rw [l1, ← hs, ← l2]; exact hi2)]
        congr 1
        rw [l1, l2, hs]
  have e2 : Ext h [(b, cells (d.flatMap enc ++ rest) e)] (Go.Sort.ahead w m) h [(b, cells (dk.flatMap enc ++ rest) e)] (Go.Sort.putRowK enc k (Go.Sort.ahead w m) b 0 dk.toArray) := by
    refine Ext.set e1.holds (Upd.head _) ?_ ?_ ?_ rfl rfl rfl rfl
    · have hb' : (Go.Sort.ahead w m).heap[b]? = some (cells (d.flatMap enc ++ rest) e) := hb
      simp only [Go.Sort.putRowK, Go.Sort.putRow, Go.Sort.mapBlock, Array.getElem?_modify, if_true, hb', Option.map_some, Go.Sort.onCells, hput]
    · intro j hj
      simp only [Go.Sort.putRowK, Go.Sort.putRow, Go.Sort.mapBlock, Array.getElem?_modify]
      rw [if_neg (Ne.symm hj)]
    · simp [Go.Sort.putRowK, Go.Sort.putRow, Go.Sort.mapBlock]
  exact (e1.trans e2).trans (Ext.grown e2.holds os)

theorem enters_ok {g : Nat} (hg : callOk P g = true) (args : Array Value) (w : World) : (callFunc g args).run P w = .ok (.enter g args) w := by
  obtain ⟨fn, hfn, hn, hb⟩ := callOk_spec hg
  have hbn : fn.body.isNone = false := by
    cases hx : fn.body with
    | none => rw [hx] at hb; cases hb
    | some _ => rfl
  simp only [callFunc, Sem.run_bind, run_program, Result.andThen_ok, hfn]
  simp [hn, hbn]

/-- slices.SortFunc -/
theorem sort_spec (LL : SlLaysF0.n6 P ρ) (aE : ∀ w, (isAgg (ρ.t 24)).run P w = .ok true w) (zE : ∀ w, (Go.sizeOf (ρ.t 24)).run P w = .ok k w) (hk : ∀ x, (enc x).length = k) (h1 : ∀ x, ∀ v ∈ enc x, v.oneCell' = true) {cf : α → α → Int} (hO : Go.Sort.SWO (ltOf cf)) {g : Nat} (hg : callOk P g = true) {h : Frag}
    (hc : ∀ x y, PSpec P g #[.agg (enc x).toArray, .agg (enc y).toArray] h (fun _ u => u = .int .i64 (cf x y))) {b cap e : Nat} (d : List α) (rest : List Value) (hd : d.length < 4611686018427387904) :
    FSpec P (ρ.f 6) #[.slice (some ⟨b, 0, none⟩) d.length cap, .func (.func g) #[] #[]] h [(b, cells (d.flatMap enc ++ rest) e)]
      (fun h' L' v => h' = h ∧ v = .tuple #[] ∧ ∃ d' : List α, d'.Perm d ∧ d'.Pairwise (fun x y => ¬ cf y x < 0) ∧ L' = [(b, cells (d'.flatMap enc ++ rest) e)]) := by
  intro w hw
  have hb := hw.sees.own (b, cells (d.flatMap enc ++ rest) e) (by simp)
  have hblk := hw.lt (p := (b, cells (d.flatMap enc ++ rest) e)) (by simp)
  have hH : Go.Sort.HoldsK enc k w b 0 d.toArray := by
    intro j hj
    rw [flatK_eq hk] at hj ⊢
    have hj2 : j < (d.flatMap enc).length := by simpa using hj
    refine ⟨?_, ?_⟩
    · simp only [World.cell?, hb, Nat.zero_add]
      rw [getElem!_pos _ j hj]
      simp [List.getElem?_append_left hj2, hj2]
    · simp [World.frozen?, hb]
  have hcmp : CmpLays P g #[] enc k cf b 0 d.toArray.size w := by
    intro m os dk hsz x y
    have hx := ext_sw hk hw m dk.toList os (by simpa using hsz)
    simp only [Array.toArray_toList] at hx
    have hold : Holds h [] (sortWorldK enc k w b 0 m dk os) := hx.holds.drop (List.nil_sublist _)
    rw [Array.append_empty]
    refine Calls.mono (hc x y (sortWorldK enc k w b 0 m dk os) hold) fun e' w' ⟨v, h', L', he, ⟨hL', hv⟩, y'⟩ => ?_
    subst hL'; subst hv
    exact ⟨he, y'.isGrow⟩
  have hsort := AnyQ.slices_SortFunc LL k aE zE enc hk h1 cf hO g #[] b 0 cap d.toArray w (enters_ok hg) hcmp hH hblk (by simpa using hd)
  rw [List.size_toArray] at hsort
  refine Calls.mono hsort fun e' w' ⟨he, d', n, os, hp, hs, hw'⟩ => ?_
  have hsz : d'.size = d.length := by simpa using hp.1
  have hx := ext_sw hk hw n d'.toList os (by simpa using hsz)
  simp only [Array.toArray_toList] at hx
  subst hw'
  refine ⟨_, h, _, he, ⟨rfl, rfl, d'.toList, ?_, ?_, rfl⟩, hx⟩
  · have := hp.2.2
    have e1 : d'.extract 0 d.length = d' := by rw [← hsz]; simp
    have e2 : d.toArray.extract 0 d.length = d.toArray := by simp
    rw [e1, e2] at this
    simpa using this
  · rw [List.pairwise_iff_getElem]
    intro i j hi hj hij
    have := hs i j (Nat.zero_le _) hij (by simpa [hsz] using hj)
    simp only [Array.length_toList] at hi hj
    rw [getElem!_pos _ j hj, getElem!_pos _ i hi] at this
    simpa [ltOf] using this
end
end Go.Mesh
