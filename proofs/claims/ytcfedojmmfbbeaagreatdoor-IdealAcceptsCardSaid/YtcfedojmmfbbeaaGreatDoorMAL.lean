/-
  Part MAL of the proof's ground: X18, X19, X20, X21.
-/
import Derived.Test.YtcfedojmmfbbeaaGreatDoorMAK
/-
  A RUN THAT THE KERNEL RECKONS: regions.
-/
set_option linter.all false
namespace Go.Mesh
open Go.RowKit
set_option linter.unusedSimpArgs false
set_option linter.unusedVariables false

section
variable {P : Program} {call : CallA} {l : List Oper} {st : Nat → St} {lg : Nat → Lg}
variable {B base : Nat} {ρ0 ρ : Nm} {w0 w : World} {a0 a : Act} {S : Array Bool} {hp : Tr AO}

theorem D_start (x : Rep B base ρ0 (st 0) w0) (hs : SlotsD ρ0 (st 0).fr (st 0).nt a0.tmps) : DInv l st lg B base ρ0 w0 a0 (Array.replicate l.length false) ρ0 (st 0).hp a0 w0 := by
  have hno : ∀ j, ¬ In (Array.replicate l.length false) j := fun j h => by
    unfold In at h
    rw [Array.getD_eq_getD_getElem?, Array.getElem?_replicate] at h
    split at h <;> cases h
  exact ⟨by simp, fun j oj hj hl => absurd hl (hno j), hs.1, rfl, fun i o d v _ h => absurd h (hno i), fun d v _ h => hs.2 d v h, fun _ _ => rfl, fun n i h => absurd h (hno i), x.glob,
    fun n h1 h2 _ => x.fresh n h1 h2, x.size, x.cont, x.high, x.low, x.inj, .refl _, fun _ _ h => .inl h, fun _ _ h => .inl h, Nat.le_refl _, fun _ _ _ => rfl, rfl, rfl, rfl, Nat.le_refl _, fun i _ h => absurd h (hno i)⟩

section
variable (T : Trc P call l st lg) (hcf : ∀ f vs s v s', call f vs s = some (v, s') → HasF s s') (hdr : drawOk l = true) (hB : (st l.length).next ≤ B) (hdom : DomS (st 0))
include T hcf hB hdom
/-- all have been taken -/
theorem D_end (hB0 : (st 0).next ≤ (st l.length).next) (D : DInv l st lg B base ρ0 w0 a0 S ρ hp a w) (hall : ∀ j, j < l.length → In S j) (hlow : n0 ≤ (st 0).next) (hf : ∃ L, HpF L (st 0) (st l.length)) (huniq : dstsOk l [] = true) :
    ∃ L, SlotsD ρ (st l.length).fr (st l.length).nt a.tmps ∧ a.defers = a0.defers ∧ Go B base L ρ0 (st 0) w0 ρ (st l.length) w := by
  have hlogs : ∀ i, i ≤ l.length → ∃ L, HpF L (st 0) (st i) ∧ (∀ e, e ∈ L → ∃ j, j < i ∧ e ∈ lg j) ∧ ∀ j e, j < i → e ∈ lg j → e ∈ L := by
    intro i
    induction i with
    | zero => intro _; exact ⟨[], .refl _, fun _ h => (by cases h), fun j e h => (by omega)⟩
    | succ i ih =>
      intro hi
      obtain ⟨L, h1, h2, h3⟩ := ih (by omega)
      refine ⟨lg i ++ L, h1.trans (T_hpf T hcf (by omega)), fun e he => ?_, fun j e hj he => ?_⟩
      · rcases List.mem_append.1 he with h | h
        · exact ⟨i, by omega, h⟩
        · obtain ⟨j, h4, h5⟩ := h2 e h; exact ⟨j, by omega, h5⟩
      · by_cases e' : j = i
        · subst e'; exact List.mem_append_left _ he
        · exact List.mem_append_right _ (h3 j e (by omega) he)
  obtain ⟨L, hL1, hL2, hL3⟩ := hlogs l.length (Nat.le_refl _)
  -- the blocks are those of the end
  have hhp : ∀ n, (∃ b, ρ n = some b) ∨ True → hp.get n = (st l.length).hp.get n := by
    intro n _
    rcases exists_max (p := fun j => In S j ∧ tch st lg j n) (fun j h => In.lt D h.1) with h | ⟨m, ⟨hm1, hm2⟩, hmax⟩
    · rw [D.hp0 n fun j h1 h2 => h j ⟨h1, h2⟩]
      by_cases h0 : n < (st 0).next
      · exact (T_same T hcf l.length (Nat.zero_le _) (Nat.le_refl _) h0 fun j _ hj e he hee => h j ⟨hall j hj, .inl ⟨e, he, hee⟩⟩).symm
      · by_cases h1 : n < (st l.length).next
        · exfalso
          have : ∀ i, i ≤ l.length → n < (st i).next → False := by
            intro i
            induction i with
            | zero => intro _ h2; exact h0 h2
            | succ i ih =>
              intro h2 h3
              by_cases h4 : n < (st i).next
              · exact ih (by omega) h4
              · exact h i ⟨hall i (by omega), .inr ⟨by omega, h3⟩⟩
          exact this _ (Nat.le_refl _) h1
        · rw [hdom n (by omega), T_dom T hcf hdom l.length (Nat.le_refl _) n (by omega)]
    · rw [D.hp1 n m hm1 hm2 fun j h1 h2 => hmax j ⟨h1, h2⟩]
      have hmlt := In.lt D hm1
      have hn : n < (st (m + 1)).next := by
        rcases hm2 with ⟨e, he, hee⟩ | h
        · have := (T_hpf T hcf hmlt).hi e he; omega
        · exact h.2
      exact (T_same T hcf l.length hmlt (Nat.le_refl _) hn fun j h1 hj e he hee => by have := hmax j ⟨hall j hj, .inl ⟨e, he, hee⟩⟩; omega).symm
  have hhp' := fun n => hhp n (.inr trivial)
  have hin : ∀ n, (∃ i, In S i ∧ inR st i n) → (st 0).next ≤ n ∧ n < (st l.length).next := fun n ⟨i, h1, h2⟩ => by
    have hi := In.lt D h1
    have := T_mono T hcf i (Nat.zero_le _) (by omega)
    have := T_mono T hcf (i := i + 1) l.length (by omega) (Nat.le_refl _)
    have := h2.1; have := h2.2; omega
  refine ⟨L, ⟨by rw [D.tsize, T_nt T hcf _ (Nat.le_refl _)], fun d v hv => ?_⟩, D.defers, ?_, D.ext, ?_, ?_, hL1, D.gsize, ?_, D.os, D.tape, D.output, D.drawn, ?_⟩
  · -- slots
    have last : ∀ j, j ≤ l.length → (∃ k ok, k < j ∧ l[k]? = some ok ∧ ok.dst = some d ∧ (st j).fr.get d = (st (k + 1)).fr.get d) ∨ ((∀ k ok, k < j → l[k]? = some ok → ok.dst ≠ some d) ∧ (st j).fr.get d = (st 0).fr.get d) := by
      intro j
      induction j with
      | zero => intro _; exact .inr ⟨fun k ok h => by omega, rfl⟩
      | succ j ih =>
        intro hj
        have hlj : l[j]? = some l[j] := List.getElem?_eq_getElem (by omega)
        obtain ⟨s1, g1, g2, _⟩ := T.step j l[j] hlj
        obtain ⟨_, v', g3⟩ := stepR_slots g1
        by_cases hdj : l[j].dst = some d
        · exact .inl ⟨j, l[j], by omega, hlj, hdj, rfl⟩
        · have hsame : (st (j + 1)).fr.get d = (st j).fr.get d := by rw [g2]; simp only [g3, hdj, if_false]
          rw [hsame]
          rcases ih (by omega) with ⟨k, ok, h1, h2, h3, h4⟩ | ⟨h1, h2⟩
          · exact .inl ⟨k, ok, by omega, h2, h3, h4⟩
          · refine .inr ⟨fun k ok hk hok => ?_, h2⟩
            by_cases e : k = j
            · subst e; rw [hlj] at hok; cases hok; exact hdj
            · exact h1 k ok (by omega) hok
    rcases last l.length (Nat.le_refl _) with ⟨k, ok, h1, h2, h3, h4⟩ | ⟨h1, h2⟩
    · exact D.slot1 k ok d v h2 (hall k h1) h3 (by rw [← h4]; exact hv)
    · exact D.slot0 d v (fun k ok hk hin hdk => h1 k ok (In.lt D hin) hk hdk) (by rw [← h2]; exact hv)
  · -- the state
    refine ⟨D.glob, fun n h1 h2 => ?_, Nat.le_trans hlow hB0, D.size, fun n o b h1 h2 => D.cont n o b (by rw [hhp' n]; exact h1) h2, D.high, D.low, fun n m o o' b h1 h2 e1 e2 r1 r2 => D.inj n m o o' b h1 h2 (by rw [hhp' n]; exact e1) (by rw [hhp' m]; exact e2) r1 r2⟩
    exact D.fresh n (by omega) h2 fun i h3 h4 => by have := (hin n ⟨i, h3, h4⟩).2; omega
  · intro n b h
    rcases D.new n b h with h | ⟨h1, h2⟩
    · exact .inl h
    · exact .inr ⟨(hin n h1).1, (hin n h1).2, h2.imp id fun ⟨i, e, q1, q2, q3⟩ => ⟨e, hL3 i e (In.lt D q1) q2, q3⟩⟩
  · intro n c h
    rcases D.newκ n c h with h | h1
    · exact .inl h
    · exact .inr (hin n h1)
  · intro b hb hh
    exact D.frame b hb fun i e h1 h2 => hh e (hL3 i e (In.lt D h1) h2)
  · intro e he
    obtain ⟨j, h1, h2⟩ := hL2 e he
    exact D.known j e (hall j h1) h2
variable (hc : CallOk P call) (hlow : n0 ≤ (st 0).next)
include hdr hc hlow
theorem D_any (r : Option Nat) (Q : Exit → Act → World → Prop) (hQ : ∀ ρ hp S a w, DInv l st lg B base ρ0 w0 a0 S ρ hp a w → (∀ j, j < l.length → In S j) → Q .normal a w) : ∀ (fuel : Nat) (S : Array Bool) (ρ : Nm) (hp : Tr AO) (a : Act) (w : World),
    DInv l st lg B base ρ0 w0 a0 S ρ hp a w → ((List.range l.length).filter fun j => !S.getD j false).length ≤ fuel → wpAnyIn (FW r) 0 P .any l.toArray Q fuel S a w := by
  have hready : ∀ (S : Array Bool) (ρ : Nm) (hp : Tr AO) (a : Act) (w : World), DInv l st lg B base ρ0 w0 a0 S ρ hp a w → Region.ready .any l.toArray S = [] → ∀ j, j < l.length → In S j := by
    intro S ρ hp a w D hr j
    induction j using Nat.strongRecOn with
    | _ j ih =>
      intro hj
      refine Classical.byContradiction fun hno => ?_
      have : j ∈ Region.ready .any l.toArray S := by
        refine mem_ready.2 ⟨?_, l[j], by simp [hj], fun e he hb => ?_⟩
        · have hjs : j < S.size := by rw [D.ssize]; exact hj
          unfold In at hno
          rw [Array.getD_eq_getD_getElem?, Array.getElem?_eq_getElem hjs] at hno ⊢
          simpa using hno
        · simp only [drawOk, Bool.and_eq_true] at hdr
          have := edges_lt hdr.1 (show l[j]? = some l[j] by simp [hj]) he hb
          exact ih e.on this (by omega)
      rw [hr] at this; cases this
  intro fuel
  induction fuel with
  | zero =>
    intro S ρ hp a w D hn
    have hall : ∀ j, j < l.length → In S j := by
      intro j hj
      have h0 := List.eq_nil_of_length_eq_zero (Nat.le_zero.1 hn)
      rw [List.filter_eq_nil_iff] at h0
      have := h0 j (List.mem_range.2 hj)
      unfold In
      cases hb : S.getD j false with
      | true => rfl
      | false => rw [hb] at this; exact absurd rfl this
    refine ⟨?_, hQ ρ hp S a w D hall⟩
    cases hr : Region.ready .any l.toArray S with
    | nil => rfl
    | cons j js =>
      have hj : j ∈ Region.ready .any l.toArray S := by rw [hr]; simp
      obtain ⟨h1, oj, h2, _⟩ := mem_ready.1 hj
      have hjl : j < l.length := by simpa using (Array.getElem?_eq_some_iff.1 h2).1
      have h3 := hall j hjl
      unfold In at h3
      have hjs : j < S.size := by rw [D.ssize]; exact hjl
      rw [Array.getD_eq_getD_getElem?, Array.getElem?_eq_getElem hjs] at h1 h3
      simp at h1 h3
      rw [h1] at h3; cases h3
  | succ fuel ih =>
    intro S ρ hp a w D hn
    refine ⟨fun hr => hQ ρ hp S a w D (hready S ρ hp a w D hr), fun i hi => ?_⟩
    obtain ⟨h1, oi, h2, h3⟩ := mem_ready.1 hi
    have hil : i < l.length := by simpa using (Array.getElem?_eq_some_iff.1 h2).1
    have ho : l[i]? = some oi := by simpa using h2
    have his : i < S.size := by rw [D.ssize]; exact hil
    have hni : ¬ In S i := fun h => by
      unfold In at h
      rw [Array.getD_eq_getD_getElem?, Array.getElem?_eq_getElem his] at h1 h
      simp at h1 h
      rw [h1] at h; cases h
    refine wpOpIn_mono (fun a' w' ⟨ρ', hp', D'⟩ => ih _ ρ' hp' a' w' D' ?_) (D_step T hcf hdr hB hdom D ho hni h3 hc hlow r Q)
    have hlt : ∀ (L : List Nat), i ∈ L → (L.filter fun j => !(S.setIfInBounds i true).getD j false).length + 1 ≤ (L.filter fun j => !S.getD j false).length := by
      have hle : ∀ (L : List Nat), (L.filter fun j => !(S.setIfInBounds i true).getD j false).length ≤ (L.filter fun j => !S.getD j false).length := by
        intro L
        induction L with
        | nil => simp
        | cons j L ihL =>
          simp only [List.filter_cons]
          by_cases hj : In S j
          · have hj' : In (S.setIfInBounds i true) j := (In_set his).2 (.inr hj)
            unfold In at hj hj'
            simp only [hj, hj', Bool.not_true, Bool.false_eq_true, if_false]; exact ihL
          · have hb : S.getD j false = false := by unfold In at hj; simpa using hj
            simp only [hb, Bool.not_false, if_true, List.length_cons]
            split
            · simp only [List.length_cons]; omega
            · omega
      intro L
      induction L with
      | nil => intro h; cases h
      | cons j L ihL =>
        intro h
        simp only [List.filter_cons]
        by_cases hji : j = i
        · subst hji
          have hj' : In (S.setIfInBounds j true) j := (In_set his).2 (.inl rfl)
          have hb : S.getD j false = false := by unfold In at hni; simpa using hni
          unfold In at hj'
          simp only [hj', hb, Bool.not_true, Bool.not_false, Bool.false_eq_true, if_false, if_true, List.length_cons]
          have := hle L; omega
        · have hiL : i ∈ L := by
            rcases List.mem_cons.1 h with e | h
            · exact absurd e.symm hji
            · exact h
          have := ihL hiL
          have hsame : (S.setIfInBounds i true).getD j false = S.getD j false := by
            have : ¬ i = j := fun e => hji e.symm
            rw [Array.getD_eq_getD_getElem?, Array.getD_eq_getD_getElem?, Array.getElem?_setIfInBounds_ne this]
          rw [hsame]
          split
          · simp only [List.length_cons]; omega
          · omega
    have := hlt (List.range l.length) (List.mem_range.2 hil)
    omega
end
end

section
variable {P : Program} {call : CallA} {B base : Nat} {ρ : Nm} {s s' : St} {a : Act} {w : World}
/-- what a run of code comes to, by its end -/
def EndAt (B base : Nat) (ρ : Nm) (s : St) (w : World) (a : Act) (s' : St) (a' : Act) (w' : World) : Prop :=
  ∃ ρ' l, SlotsD ρ' s'.fr s'.nt a'.tmps ∧ a'.defers = a.defers ∧ Go B base l ρ s w ρ' s' w'
/-- A REGION. -/
theorem region_ok (hm : P.follows .mixedOrders = true) (hc : CallOk P call) (hcf : ∀ f vs s v s', call f vs s = some (v, s') → HasF s s') {id : Nat} {ops : Array Oper} {d : Bool} (h : runReg P call ops.toList d s = some s') (x : Rep B base ρ s w) (hd : DomS s)
    (hs : SlotsD ρ s.fr s.nt a.tmps) (hB : s'.next ≤ B) (r : Option Nat) : (Code.region id ops d).wpIn (FW r) 0 P (fun e a' w' => e = .normal ∧ EndAt B base ρ s w a s' a' w') a w := by
  unfold runReg at h
  cases d with
  | false =>
    rw [cond_false] at h
    have := runOps_ok hc hcf (ops := ops.toList) r ops.toList s s' ρ a w h x hd hs hB
    exact wpIn_region_list this
  | true =>
    simp only [cond_true, bsome, Option.bind_eq_some_iff, Option.some.injEq] at h
    obtain ⟨hdr, ⟨s1, rw⟩, h1, h2, h3⟩ := h
    simp only at h2 h3
    subst h3
    obtain ⟨T, hend⟩ := trc_of h1 h2
    refine wpIn_region_any hm ?_
    have x' : Rep B base ρ (stA P call ops.toList s 0) { w with drawn := w.drawn + 1 } := x.heap rfl
    have g0 : Go B base [] ρ s w ρ s { w with drawn := w.drawn + 1 } := Go.refl x rfl rfl rfl rfl (Nat.le_succ _)
    have hBB : (stA P call ops.toList s ops.toList.length).next ≤ B := by rw [hend]; exact hB
    have hmono := T_mono T hcf ops.toList.length (Nat.zero_le _) (Nat.le_refl _)
    have hf : ∃ L, HpF L (stA P call ops.toList s 0) (stA P call ops.toList s ops.toList.length) := by rw [hend]; exact runD_f hcf _ _ _ _ h1
    have hds : dstsOk ops.toList [] = true := by simp only [drawOk, Bool.and_eq_true] at hdr; exact hdr.2.1
    have key := D_any (ρ0 := ρ) (w0 := { w with drawn := w.drawn + 1 }) (a0 := a) (base := base) T hcf hdr hBB hd hc x.low0 r (fun e a' w' => e = .normal ∧ EndAt B base ρ s w a s1 a' w') (fun ρ' hp S a' w' D hall => by
      obtain ⟨L, q1, q2, q3⟩ := D_end T hcf hBB hd hmono D hall x.low0 hf hds
      rw [hend] at q1 q3
      exact ⟨rfl, ρ', _, q1, q2, g0.trans q3⟩) ops.toList.length (Array.replicate ops.toList.length false) ρ _ a _ (D_start x' hs) (by
        refine Nat.le_trans (List.length_filter_le _ _) ?_
        simp)
    simpa using key
end
end Go.Mesh
/-
  A RUN THAT THE KERNEL RECKONS: code, ranges over functions, functions.
-/
set_option linter.all false
namespace Go.Mesh
open Go.RowKit
set_option linter.unusedSimpArgs false
set_option linter.unusedVariables false

/-- the blocks for deferred calls that a function has made -/
def DOk (b0 : Nat) (ρ : Nm) (s : St) (w : World) (D : List Nat) : Prop :=
  D.Nodup ∧ ∀ d, d ∈ D → b0 ≤ d ∧ w.heap[d]? = some (.deferred (some [])) ∧ ∃ n, n0 ≤ n ∧ ρ n = some d ∧ s.hp.get n = some .defd
section
variable {P : Program} {call : CallA} {B base b0 : Nat} {ρ ρ' : Nm} {s s' : St} {a : Act} {w w' : World} {D : List Nat} {l : Lg}
theorem DOk.go (x : Rep B base ρ s w) (hd : DomS s) (g : Go B base l ρ s w ρ' s' w') (hB : s'.next ≤ B) (h : DOk b0 ρ s w D) : DOk b0 ρ' s' w' D := by
  refine ⟨h.1, fun d hdm => ?_⟩
  obtain ⟨h1, h2, n, h3, h4, h5⟩ := h.2 d hdm
  have hlt : n < s.next := Nat.lt_of_not_le fun hle => by rw [hd n hle] at h5; cases h5
  have hnl : ∀ e, e ∈ l → e.1 ≠ n := fun e he hee => by
    have := (g.hpf.live e he (by omega)).2
    rw [hee] at this; exact this h5
  refine ⟨h1, ?_, n, h3, g.ext.1 _ _ h4, by rw [g.hpf.same n hlt hnl]; exact h5⟩
  rw [g.frame d (Array.getElem?_eq_some_iff.1 h2).1 fun e he hr => ?_]; exact h2
  have hlt2 : e.1 < s.next := Nat.lt_of_not_le fun hle => by
    have := g.hpf.hi e he
    have := (x.fresh e.1 hle (by omega)).1
    rw [hr] at this; cases this
  have hl := (g.hpf.live e he hlt2).1
  cases ho : s.hp.get e.1 with
  | none => exact hl ho
  | some o => exact hnl e he (x.inj e.1 n o .defd d (g.hpf.low e he) h3 ho h5 hr h4)
theorem DOk.of {t : St} (h : DOk b0 ρ s w D) (h1 : t.hp = s.hp) : DOk b0 ρ t w D := ⟨h.1, fun d hd => by rw [h1]; exact h.2 d hd⟩
/-- what a run of code comes to -/
def EndC (B base b0 : Nat) (ρ : Nm) (s : St) (w : World) (rf : Bool) (s' : St) (a' : Act) (w' : World) : Prop :=
  ∃ ρ' l D', SlotsD ρ' s'.fr s'.nt a'.tmps ∧ a'.defers = marks D' ∧ DOk b0 ρ' s' w' D' ∧ Go B base l ρ s w ρ' s' w'
def RsOk (r : Option Nat) (B base b0 : Nat) (ρ : Nm) (s : St) (w : World) (rf : Bool) (Q : Exit → Act → World → Prop) : Rs → Prop
  | .bad => True
  | .nrm s' => s'.next ≤ B → ∀ a' w', EndC B base b0 ρ s w rf s' a' w' → Q .normal a' w'
  | .ret s' => s'.next ≤ B → ∀ a' w', EndC B base b0 ρ s w rf s' a' w' → Q .ret a' w'
  | .ext id s' => s'.next ≤ B → ∀ a' w', EndC B base b0 ρ s w rf s' a' w' → Q (.exit id) a' w'
/-- the end's number of names -/
def Rs.nx : Rs → Option Nat
  | .bad => none
  | .nrm s' => some s'.next
  | .ret s' => some s'.next
  | .ext _ s' => some s'.next
def Fit (B : Nat) (r : Rs) : Prop := ∃ n, r.nx = some n ∧ n ≤ B
/-- what the code comes to, told by its end -/
def RsQ (B base b0 : Nat) (ρ : Nm) (s : St) (w : World) : Rs → Exit → Act → World → Prop
  | .bad, _, _, _ => False
  | .nrm s', e, a', w' => e = .normal ∧ EndC B base b0 ρ s w true s' a' w'
  | .ret s', e, a', w' => e = .ret ∧ EndC B base b0 ρ s w true s' a' w'
  | .ext id s', e, a', w' => e = .exit id ∧ EndC B base b0 ρ s w true s' a' w'
theorem EndC.trans {l : Lg} {s1 s2 : St} {ρ1 : Nm} {w1 : World} {a2 : Act} {w2 : World} (g : Go B base l ρ s w ρ1 s1 w1) (h : EndC B base b0 ρ1 s1 w1 true s2 a2 w2) : EndC B base b0 ρ s w true s2 a2 w2 := by
  obtain ⟨ρ', l', D', h1, h2, h3, h4⟩ := h
  exact ⟨ρ', _, D', h1, h2, h3, g.trans h4⟩
theorem RsQ.trans {l : Lg} {s1 : St} {ρ1 : Nm} {w1 : World} (g : Go B base l ρ s w ρ1 s1 w1) : ∀ {rs : Rs} {e : Exit} {a2 : Act} {w2 : World}, RsQ B base b0 ρ1 s1 w1 rs e a2 w2 → RsQ B base b0 ρ s w rs e a2 w2
  | .bad, _, _, _, h => h
  | .nrm _, _, _, _, h => ⟨h.1, h.2.trans g⟩
  | .ret _, _, _, _, h => ⟨h.1, h.2.trans g⟩
  | .ext _ _, _, _, _, h => ⟨h.1, h.2.trans g⟩
theorem Fit.of_F {rs : Rs} {s1 : St} (h : Rs.F s1 rs) (f : Fit B rs) : s1.next ≤ B := by
  obtain ⟨n, h1, h2⟩ := f
  cases rs with
  | bad => cases h1
  | nrm s' => obtain ⟨_, h⟩ := h; cases h1; exact Nat.le_trans h.next h2
  | ret s' => obtain ⟨_, h⟩ := h; cases h1; exact Nat.le_trans h.next h2
  | ext id s' => obtain ⟨_, h⟩ := h; cases h1; exact Nat.le_trans h.next h2

theorem run_getLoop {b : Nat} {fid : FuncId} {tmps : Array Value} {ps : Array Tmp} {asg body : Code} {d : Nat} {st : LoopState} {pe : Option Code} (h : w.heap[b]? = some (recO fid tmps ps asg body d st pe)) : (Instr.getLoop b).run P w = .ok { state := st, pending := pe, fn := fid, tmps, params := ps, assign := asg, body, defers := d } w :=
  run_getObj_loop h
/-- a record of a range over a function is given another state -/
theorem loop_go (x : Rep B base ρ s w) {n b : Nat} {fr : Tr AV} {nt d : Nat} {ps : List Tmp} {asg body : Code} {st : LoopState} {pe : Option Code} (h1 : s.hp.get n = some (.loop fr nt ps asg body d st pe)) (hr : ρ n = some b) :
    ∃ fid tmps da, w.heap[b]? = some (recO fid tmps ps.toArray asg body da st pe) ∧ SlotsD ρ fr nt tmps ∧ ρ d = some da ∧ ∀ (st' : LoopState) (pe' : Option Code) (o2 : Option AO) (s' : St), s.upd n 0 big o2 = some s' → (o2 = none ∨ o2 = some (.loop fr nt ps asg body d st' pe')) →
      Go B base [(n, 0, big)] ρ s w ρ s' { w with heap := w.heap.setIfInBounds b (recO fid tmps ps.toArray asg body da st' pe') } := by
  obtain ⟨ob, e1, d1⟩ := x.cont n _ b h1 hr
  cases d1 with
  | @loop _ _ tmps _ da fid _ _ _ _ _ d2 d3 =>
    refine ⟨fid, tmps, da, e1, d2, d3, fun st' pe' o2 s' hu ho => ?_⟩
    have hlt := (Array.getElem?_eq_some_iff.1 e1).1
    refine Go.upd x hu h1 hr (.whole hu (by rw [h1]; exact ⟨by simp, by simp⟩)) (set_at hlt) set_other (by simp) rfl rfl rfl (Nat.le_refl _) fun o' e => ?_
    rcases ho with ho | ho
    · rw [ho] at e; cases e
    · rw [ho] at e; cases e; exact .loop fid ps asg body st' pe' d2 d3

variable (hm : P.follows .mixedOrders = true) (hN : ∀ (g : FuncId) (fn : Func), P.funcs[g]? = some fn → fn.name ≠ "runtime.NumGoroutine") (hc : CallOk P call) (hcf : ∀ f vs s v s', call f vs s = some (v, s') → HasF s s')
include hm hN hc hcf
theorem rangeFunc_ok (x : Rep B base ρ s w) (hd : DomS s) (hs : SlotsD ρ s.fr s.nt a.tmps) (hdf : a.defers = marks D) (hD : DOk b0 ρ s w D) (hb0 : b0 ≤ w.heap.size) {f : Operand} {ps : Array Tmp} {asg body : Code} {fv v : AV} {s1 : St} (hf : aev s.fr f = some fv) (hbod : bodied P fv = true)
    (hcall : call fv [.yld (Nat.succ s.next)] ((s.new .defd).new (.loop s.fr s.nt ps.toList asg body s.next .ready none)) = some (v, s1)) (hB : Fit B (endL s s1 (Nat.succ s.next))) :
    (Code.rangeFunc f ps asg body).wpIn (FW none) 0 P (RsQ B base b0 ρ s w (endL s s1 (Nat.succ s.next))) a w := by
  have hs1B : s1.next ≤ B := hB.of_F endL_f
  have hnx : (Nat.succ (Nat.succ s.next)) ≤ s1.next := (let ⟨_, f⟩ := hcf _ _ _ _ _ hcall; f.next)
  refine wpIn_rangeFunc fun fnid _ => ?_
  let d := w.heap.size
  let w1 : World := { w with heap := w.heap.push (.deferred (some [])) }
  have g1 : Go B base [] ρ s w (ρ.up s.next d none) (s.new .defd) w1 := Go.alloc (c := none) x (by omega) rfl rfl rfl rfl (Nat.le_refl _) (.defd _)
  let ρ1 := ρ.up s.next d none
  let l := w1.heap.size
  let w2 : World := { w1 with heap := w1.heap.push (recO fnid a.tmps ps asg body d .ready none) }
  have hρ1d : ρ1 s.next = some d := Nm.up_at
  have hfr : ∀ (ρ' : Nm), leN ρ1 ρ' → DenO ρ' (.loop s.fr s.nt ps.toList asg body s.next .ready none) (recO fnid a.tmps ps asg body d .ready none) := fun ρ' hle => by
    have := DenO.loop (ρ := ρ') (fr := s.fr) (nt := s.nt) (tmps := a.tmps) (d := s.next) (da := d) fnid ps.toList asg body .ready none ((hs.mono g1.ext).mono hle) (hle.1 _ _ hρ1d)
    simpa [recO] using this
  obtain ⟨hf2, hf2'⟩ := g1.rep.fresh (Nat.succ s.next) (Nat.le_refl _) (by omega)
  have g2 : Go B base [] ρ1 (s.new .defd) w1 (ρ1.up (Nat.succ s.next) l none) ((s.new .defd).new (.loop s.fr s.nt ps.toList asg body s.next .ready none)) w2 :=
    Go.alloc (c := none) g1.rep (show Nat.succ s.next < B by omega) rfl rfl rfl rfl (Nat.le_refl _) (hfr _ (Nm.up_le hf2 hf2'))
  let ρ2 := ρ1.up (Nat.succ s.next) l none
  have g12 := g1.trans g2
  have hD2 : DOk b0 ρ2 ((s.new .defd).new (.loop s.fr s.nt ps.toList asg body s.next .ready none)) w2 (d :: D) := by
    have h1 := DOk.go x hd g12 (show Nat.succ (Nat.succ s.next) ≤ B by omega) hD
    refine ⟨List.nodup_cons.2 ⟨fun hmem => ?_, hD.1⟩, fun d' hd' => ?_⟩
    · have := (hD.2 d hmem).2.1
      have := (Array.getElem?_eq_some_iff.1 this).1
      omega
    · rcases List.mem_cons.1 hd' with rfl | hd'
      · refine ⟨hb0, ?_, s.next, x.low0, g2.ext.1 _ _ hρ1d, ?_⟩
        · show ((w.heap.push (.deferred (some []))).push _)[w.heap.size]? = _
          rw [Array.getElem?_push, if_neg (by simp), Array.getElem?_push, if_pos rfl]
        · show ((s.new .defd).hp.set (Nat.succ s.next) _).get s.next = _
          rw [Tr.get_set, if_neg (by omega)]
          show (s.hp.set s.next _).get s.next = _
          rw [Tr.get_set, if_pos rfl]
      · exact h1.2 d' hd'
  have hdom2 : DomS ((s.new .defd).new (.loop s.fr s.nt ps.toList asg body s.next .ready none)) := g12.hpf.dom hd
  have dfv := (aev_ok hs x.glob hf).mono g12.ext
  have hl2 : ρ2 (Nat.succ s.next) = some l := Nm.up_at
  obtain ⟨fn, first, cap, huf, hinv⟩ := hc _ _ _ _ _ hcall B base ρ2 w2 (a.eval f) [.func (.yield l) #[] #[]] g12.rep hdom2 hs1B dfv (.cons (.yld hl2) .nil)
  -- it is a function with a body
  unfold bodied at hbod
  split at hbod
  · rename_i g as bs
    split at hbod
    · rename_i fn0 hfn0
      rw [huf] at dfv
      cases dfv with
      | @fn _ _ _ us1 us2 du1 du2 =>
        have hbn : fn0.body.isNone = false := by
          cases hx : fn0.body with
          | none => rw [hx] at hbod; cases hbod
          | some _ => rfl
        have hrun : ∀ args, (invoke (.fn (.func g) us2.toArray) args).run P w2 = .ok (.enter g (args ++ us2.toArray)) w2 := fun args => by
          simp only [invoke, callFunc, Sem.run_bind, run_program, Result.andThen_ok, hfn0]
          simp [hN g fn0 hfn0, hbn]
        rcases hinv with ⟨v1, w3, e1, _⟩ | ⟨f', args', e1, hcalls⟩ | ⟨l1, fn1, tm1, as1, bo1, e1, _⟩
        · rw [hrun] at e1; cases e1
        · rw [hrun] at e1
          simp only [Result.ok.injEq, Next.enter.injEq] at e1
          obtain ⟨⟨rfl, rfl⟩, _⟩ := e1
          refine ⟨l, [{ target := .collected d, args := #[] }], w2, { target := .fn (.func g) us2.toArray, args := us1.toArray ++ #[.func (.yield l) #[] #[]] }, w2, g, _, w2, ?_, ?_, fun _ _ => trivial, hrun _, fun e => by simp [FW] at e, callsIn_FW (hcalls.mono fun e w3 ⟨u, he, ρ3, L3, du3, g3⟩ => ?_)⟩
          · show (Instr.enterLoop fnid a.tmps ps asg body none).run P w = _
            simp [Instr.enterLoop, recO, d, w1, w2, l]
          · have hconst : ∀ v, a.eval (.const v) = v := fun _ => rfl
            simp [resolve, rangeCall, huf, Deferred.ofValue, hconst]
          · subst he
            have g123 := g12.trans g3
            have hD3 := DOk.go g12.rep hdom2 g3 hs1B hD2
            have hsl3 : SlotsD ρ3 s.fr s.nt a.tmps := hs.mono g123.ext
            have hl3 : ρ3 (Nat.succ s.next) = some l := g3.ext.1 _ _ hl2
            have hdom3 := g3.hpf.dom hdom2
            -- the record's end
            have fin : ∀ (fr : Tr AV) (nt : Nat) (ps' : List Tmp) (as' bo' : Code) (d' : Nat) (st : LoopState) (pe : Option Code) (s' : St), s1.hp.get (Nat.succ s.next) = some (.loop fr nt ps' as' bo' d' st pe) → st ≠ .busy → s1.upd (Nat.succ s.next) 0 big none = some s' → s'.next ≤ B →
                ∃ w4, (Instr.endLoop l).run P w3 = .ok pe w4 ∧ EndC B base b0 ρ s w true { s' with fr := s.fr, nt := s.nt } { a with defers := [{ target := .collected d, args := #[] }] ++ a.defers } w4 := by
              intro fr nt ps' as' bo' d' st pe s' hget hst hu hB'
              obtain ⟨fid, tm, da, e5, _, _, hgo⟩ := loop_go g3.rep hget hl3
              have g4 := hgo .exhausted pe none s' hu (.inl rfl)
              refine ⟨_, ?_, ρ3, _, d :: D, hsl3, by simp [hdf, marks], (DOk.go g3.rep hdom3 g4 hB' hD3).of rfl, (g123.trans g4).of rfl rfl rfl rfl rfl rfl⟩
              simp only [Instr.endLoop, Sem.run_bind, run_getLoop e5, Result.andThen_ok]
              have : (st == LoopState.busy) = false := by cases st <;> first | rfl | exact absurd rfl hst
              simp [this, run_setObj_loop e5, recO]
            unfold endL at hB ⊢
            split
            · rename_i e6
              rw [e6] at hB
              simp only at hB
              split
              · rename_i s' hu
                rw [hu] at hB
                obtain ⟨w4, h1, h2⟩ := fin _ _ _ _ _ _ _ _ s' e6 (by simp) hu (by obtain ⟨n, q1, q2⟩ := hB; cases q1; exact q2)
                exact ⟨none, w4, h1, rfl, h2⟩
              · rename_i hu; rw [hu] at hB; obtain ⟨n, q1, q2⟩ := hB; cases q1
            · rename_i e6
              rw [e6] at hB
              simp only at hB
              split
              · rename_i s' hu
                rw [hu] at hB
                obtain ⟨w4, h1, h2⟩ := fin _ _ _ _ _ _ _ _ s' e6 (by simp) hu (by obtain ⟨n, q1, q2⟩ := hB; cases q1; exact q2)
                exact ⟨some .ret, w4, h1, wpIn_ret ⟨rfl, h2⟩⟩
              · rename_i hu; rw [hu] at hB; obtain ⟨n, q1, q2⟩ := hB; cases q1
            · rename_i id e6
              rw [e6] at hB
              simp only at hB
              split
              · rename_i s' hu
                rw [hu] at hB
                obtain ⟨w4, h1, h2⟩ := fin _ _ _ _ _ _ _ _ s' e6 (by simp) hu (by obtain ⟨n, q1, q2⟩ := hB; cases q1; exact q2)
                exact ⟨some (.exit id), w4, h1, wpIn_exit ⟨rfl, h2⟩⟩
              · rename_i hu; rw [hu] at hB; obtain ⟨n, q1, q2⟩ := hB; cases q1
            · rename_i q1 q2 q3
              exfalso
              have : endL s s1 (Nat.succ s.next) = .bad := by
                unfold endL
                split
                · rename_i e; exact absurd e (q1 _ _ _ _ _ _)
                · rename_i e; exact absurd e (q2 _ _ _ _ _ _)
                · rename_i e; exact absurd e (q3 _ _ _ _ _ _ _)
                · rfl
              unfold endL at this
              rw [this] at hB
              obtain ⟨n, z1, _⟩ := hB; cases z1
        · rw [hrun] at e1; cases e1
    · cases hbod
  · cases hbod
/-- CODE. -/
theorem runC_ok {rf : Bool} {r : Option Nat} (hrf : rf = true → r = none) : ∀ (n : Nat) (c : Code) (s : St) (ρ : Nm) (a : Act) (w : World) (D : List Nat), Rep B base ρ s w → DomS s → SlotsD ρ s.fr s.nt a.tmps → a.defers = marks D → DOk b0 ρ s w D → b0 ≤ w.heap.size → Fit B (runC P call rf n c s) →
    c.wpIn (FW r) 0 P (RsQ B base b0 ρ s w (runC P call rf n c s)) a w := by
  intro n
  induction n using Nat.strongRecOn with
  | _ n ih0 =>
    intro c s ρ a w D x hd hs hdf hD hb0 hB
    cases n with
    | zero => obtain ⟨n, h, _⟩ := hB; cases h
    | succ n =>
    have ih := ih0 n (Nat.lt_succ_self n)
    have bad : ∀ {Q : Prop}, Fit B Rs.bad → Q := fun h => by obtain ⟨n, h, _⟩ := h; cases h
    have stay : EndC B base b0 ρ s w true s a w := ⟨ρ, _, D, hs, hdf, hD, Go.refl x rfl rfl rfl rfl (Nat.le_refl _)⟩
    -- two runs, one behind the other
    have seq2 : ∀ (c1 c2 : Code), Fit B (match runC P call rf n c1 s with | .nrm s' => runC P call rf n c2 s' | r => r) → c1.wpIn (FW r) 0 P (fun e a1 w1 => match e with | .normal => c2.wpIn (FW r) 0 P (RsQ B base b0 ρ s w (match runC P call rf n c1 s with | .nrm s' => runC P call rf n c2 s' | r => r)) a1 w1 | e => RsQ B base b0 ρ s w (match runC P call rf n c1 s with | .nrm s' => runC P call rf n c2 s' | r => r) e a1 w1) a w := by
      intro c1 c2 hF
      have h1 := ih c1 s ρ a w D x hd hs hdf hD hb0
      have hF1 : Fit B (runC P call rf n c1 s) := by
        cases hr : runC P call rf n c1 s with
        | nrm s' =>
          rw [hr] at hF
          have := runC_f (P := P) (rf := rf) hcf n c2 s'
          exact ⟨_, rfl, Fit.of_F this hF⟩
        | _ => rw [hr] at hF; exact hF
      refine wpIn_mono (h1 hF1) fun e a1 w1 q => ?_
      cases hr : runC P call rf n c1 s with
      | bad => rw [hr] at hF; exact bad hF
      | nrm s' =>
        rw [hr] at q hF
        simp only at hF
        obtain ⟨rfl, ρ1, l1, D1, q1, q2, q3, q4⟩ := q
        simp only
        exact wpIn_mono (ih c2 s' ρ1 a1 w1 D1 q4.rep (q4.hpf.dom hd) q1 q2 q3 (Nat.le_trans hb0 q4.size) hF) fun e a2 w2 q5 => q5.trans q4
      | ret s' =>
        rw [hr] at q
        obtain ⟨rfl, q⟩ := q
        exact ⟨rfl, q⟩
      | ext id s' =>
        rw [hr] at q
        obtain ⟨rfl, q⟩ := q
        exact ⟨rfl, q⟩
    cases c <;> simp only [runC] at hB ⊢
    case skip => exact wpIn_skip ⟨rfl, stay⟩
    case region id ops d =>
      cases hr : runReg P call ops.toList d s with
      | none => rw [hr] at hB; exact bad hB
      | some s' =>
        rw [hr] at hB
        obtain ⟨_, z1, z2⟩ := hB
        cases z1
        refine wpIn_mono (region_ok hm hc hcf hr x hd hs z2 r) fun e a' w' ⟨he, ρ', l', q1, q2, q3⟩ => ⟨he, ρ', l', D, q1, by rw [q2, hdf], DOk.go x hd q3 z2 hD, q3⟩
    case seq c1 c2 =>
      refine wpIn_seq (wpIn_mono (seq2 c1 c2 hB) fun e a1 w1 q => ?_)
      cases e <;> exact q
    case cond c c1 c2 =>
      cases hc1 : (aev s.fr c).bind AV.bool? with
      | none => rw [hc1] at hB; exact bad hB
      | some b =>
        rw [hc1] at hB
        simp only [Option.bind_eq_some_iff] at hc1
        obtain ⟨v, e1, e2⟩ := hc1
        have hcv := den_bool (aev_ok hs x.glob e1) e2
        simp only at hB
        refine wpIn_cond_split hcv (fun e => ?_) (fun e => ?_)
        · subst e
          rw [cond_true] at hB
          simp only [cond_true]
          exact ih c1 s ρ a w D x hd hs hdf hD hb0 hB
        · subst e
          rw [cond_false] at hB
          simp only [cond_false]
          exact ih c2 s ρ a w D x hd hs hdf hD hb0 hB
    case block id c1 =>
      have h1 := ih c1 s ρ a w D x hd hs hdf hD hb0
      cases hr : runC P call rf n c1 s with
      | bad => rw [hr] at hB; exact bad hB
      | nrm s' =>
        rw [hr] at hB h1
        refine wpIn_block (wpIn_mono (h1 hB) fun e a1 w1 q => ?_)
        obtain ⟨rfl, q⟩ := q
        exact ⟨rfl, q⟩
      | ret s' =>
        rw [hr] at hB h1
        refine wpIn_block (wpIn_mono (h1 hB) fun e a1 w1 q => ?_)
        obtain ⟨rfl, q⟩ := q
        exact ⟨rfl, q⟩
      | ext k s' =>
        rw [hr] at hB h1
        simp only at hB
        have hF : Fit B (Rs.ext k s') := by
          obtain ⟨n, z1, z2⟩ := hB
          cases hb : Nat.beq k id <;> rw [hb] at z1 <;> exact ⟨n, z1, z2⟩
        refine wpIn_block (wpIn_mono (h1 hF) fun e a1 w1 q => ?_)
        obtain ⟨rfl, q⟩ := q
        simp only [Exit.inBlock]
        by_cases hk : k = id
        · rw [if_pos hk, show Nat.beq k id = true from beqT.2 hk]
          exact ⟨rfl, q⟩
        · have : Nat.beq k id = false := by
            cases hb : Nat.beq k id with
            | false => rfl
            | true => exact absurd (beqT.1 hb) hk
          rw [if_neg hk, this]
          exact ⟨rfl, q⟩
    case loop c1 =>
      have hB : Fit B (runC P call rf (n + 1) (.loop c1) s) := hB
      show (Code.loop c1).wpIn (FW r) 0 P (RsQ B base b0 ρ s w (runC P call rf (n + 1) (.loop c1) s)) a w
      obtain ⟨R, hR⟩ : ∃ R, R = runC P call rf (n + 1) (.loop c1) s := ⟨_, rfl⟩
      rw [← hR] at hB ⊢
      obtain ⟨f, hf⟩ := leastFn fun (a1 : Act) (w1 : World) m => m ≤ n + 1 ∧ ∃ s1 ρ1 D1 l1, runC P call rf m (.loop c1) s1 = R ∧ Go B base l1 ρ s w ρ1 s1 w1 ∧ SlotsD ρ1 s1.fr s1.nt a1.tmps ∧ a1.defers = marks D1 ∧ DOk b0 ρ1 s1 w1 D1
      refine wpIn_loop (fun a1 w1 => ∃ m, m ≤ n + 1 ∧ ∃ s1 ρ1 D1 l1, runC P call rf m (.loop c1) s1 = R ∧ Go B base l1 ρ s w ρ1 s1 w1 ∧ SlotsD ρ1 s1.fr s1.nt a1.tmps ∧ a1.defers = marks D1 ∧ DOk b0 ρ1 s1 w1 D1) f ?_ ?_
      · exact ⟨n + 1, Nat.le_refl _, s, ρ, D, _, hR.symm, Go.refl x rfl rfl rfl rfl (Nat.le_refl _), hs, hdf, hD⟩
      · rintro a1 w1 ⟨m0, hI⟩
        obtain ⟨⟨hm1, s1, ρ1, D1, l1, e1, g1, hs1, hd1, hD1⟩, _⟩ := hf a1 w1 m0 hI
        obtain ⟨m', hm'⟩ : ∃ m', f a1 w1 = m' + 1 := by
          cases hfm : f a1 w1 with
          | zero => rw [hfm] at e1; rw [← e1] at hB; exact bad hB
          | succ m' => exact ⟨m', rfl⟩
        rw [hm'] at e1 hm1
        simp only [runC] at e1
        have hF1 : Fit B (runC P call rf m' c1 s1) := by
          cases hr : runC P call rf m' c1 s1 with
          | nrm s2 =>
            rw [hr] at e1
            simp only at e1
            have := runC_f (P := P) (rf := rf) hcf m' (.loop c1) s2
            rw [e1] at this
            exact ⟨_, rfl, Fit.of_F this hB⟩
          | _ => rw [hr] at e1; rw [← e1] at hB; exact hB
        refine wpIn_mono (ih0 m' (by omega) c1 s1 ρ1 a1 w1 D1 g1.rep (g1.hpf.dom hd) hs1 hd1 hD1 (Nat.le_trans hb0 g1.size) hF1) fun e a2 w2 q => ?_
        cases hr : runC P call rf m' c1 s1 with
        | bad => rw [hr] at hF1; exact bad hF1
        | nrm s2 =>
          rw [hr] at q e1
          simp only at e1
          obtain ⟨rfl, ρ2, l2, D2, q1, q2, q3, q4⟩ := q
          have hI2 : m' ≤ n + 1 ∧ ∃ s1 ρ1 D1 l1, runC P call rf m' (.loop c1) s1 = R ∧ Go B base l1 ρ s w ρ1 s1 w2 ∧ SlotsD ρ1 s1.fr s1.nt a2.tmps ∧ a2.defers = marks D1 ∧ DOk b0 ρ1 s1 w2 D1 :=
            ⟨by omega, s2, ρ2, D2, _, e1, g1.trans q4, q1, q2, q3⟩
          refine ⟨⟨m', hI2⟩, ?_⟩
          have := (hf a2 w2 m' hI2).2 m' hI2
          omega
        | ret s2 =>
          rw [hr] at q e1
          obtain ⟨rfl, q⟩ := q
          rw [← e1]; exact ⟨rfl, q.trans g1⟩
        | ext id s2 =>
          rw [hr] at q e1
          obtain ⟨rfl, q⟩ := q
          rw [← e1]; exact ⟨rfl, q.trans g1⟩
    case exit id => exact wpIn_exit ⟨rfl, stay⟩
    case ret => exact wpIn_ret ⟨rfl, stay⟩
    case rangeFunc f ps asg body =>
      cases rf with
      | false => exact bad hB
      | true =>
        have := hrf rfl
        subst this
        rw [cond_true] at hB
        simp only [cond_true]
        cases hf : aev s.fr f with
        | none => rw [hf] at hB; exact bad hB
        | some fv =>
          rw [hf] at hB
          simp only at hB ⊢
          cases hbod : bodied P fv with
          | false => rw [hbod] at hB; exact bad hB
          | true =>
            rw [hbod, cond_true] at hB
            simp only [cond_true]
            cases hcall : call fv [.yld (Nat.succ s.next)] ((s.new .defd).new (.loop s.fr s.nt ps.toList asg body s.next .ready none)) with
            | none => rw [hcall] at hB; exact bad hB
            | some q =>
              obtain ⟨v, s1⟩ := q
              rw [hcall] at hB
              exact rangeFunc_ok hm hN hc hcf x hd hs hdf hD hb0 hf hbod hcall hB
    all_goals exact bad hB
end
end Go.Mesh
/-
  A RUN THAT THE KERNEL RECKONS: functions that are called; the whole.
-/
set_option linter.all false
namespace Go.Mesh
open Go.RowKit
set_option linter.unusedSimpArgs false
set_option linter.unusedVariables false

section
variable {P : Program} {call : CallA} {B base b0 : Nat} {ρ ρ' : Nm} {s s' : St} {a : Act} {w w' : World} {D : List Nat} {l : Lg}

/-! ### A function's results -/
theorem resA_run (x : Rep B base ρ s w) {tmps : Array Value} (hs : SlotsD ρ s.fr s.nt tmps) : ∀ (rs : List ResultVar) (vs : List AV), resA P s rs = some vs → ∃ us, (rs.mapM (resSem tmps)).run P w = .ok us w ∧ DenL ρ vs us
  | [], vs, h => by simp only [resA, Option.some.injEq] at h; subst h; exact ⟨[], rfl, .nil⟩
  | .tmp t :: rs, vs, h => by
    simp only [resA, Option.bind_eq_some_iff, Option.some.injEq] at h
    obtain ⟨v, h1, vs', h2, rfl⟩ := h
    obtain ⟨us, e1, d1⟩ := resA_run x hs rs vs' h2
    obtain ⟨u, e2, d2⟩ := hs.2 t v h1
    refine ⟨u :: us, ?_, .cons d2 d1⟩
    have hv : tmps.getD t undef = u := by simp [e2]
    simp only [List.mapM_cons, resSem, Sem.run_bind, Sem.run_pure, Result.andThen_ok, hv, e1]
  | .cell c t :: rs, vs, h => by
    simp only [resA, Option.bind_eq_some_iff, Option.some.injEq] at h
    obtain ⟨p, h1, ⟨n, off⟩, h2, cs, h3, ⟨g, k⟩, h4, v, h5, vs', h6, rfl⟩ := h
    obtain ⟨us, e1, d1⟩ := resA_run x hs rs vs' h6
    obtain ⟨up, e2, d2⟩ := hs.2 c p h1
    obtain ⟨b, hr, rfl⟩ := den_ptr d2 h2
    obtain ⟨o1, q1, q2⟩ := objCells_get h3
    obtain ⟨ob, q3, q4⟩ := x.cont n o1 b q1 hr
    obtain ⟨ls, rest, bt, fz, rfl, dl⟩ := q4.cs q2
    have hrd : ∀ vs : List Value, (∀ (j : Nat) (v : Value), vs[j]? = some v → ls[off + j]? = some v) → Rd (hW w) [] b off vs := fun vs hv => ⟨_, bt, fz, .inl q3, fun j v ej => by
      have := hv j v ej
      have hlt := (List.getElem?_eq_some_iff.1 this).1
      simp [List.getElem?_append_left hlt, this]⟩
    have hload : ∃ u, (loadVar t ⟨b, off, none⟩).run P w = .ok u w ∧ DenV ρ v u := by
      rcases getPart_ok dl h5 with ⟨hg, hle, hd⟩ | ⟨hg, u, eu, hd⟩
      · subst hg
        exact ⟨_, run_loadVar_agg h4 (by simp; omega) (hrd _ fun j v ej => take_drop_get ej) sees_hW, hd⟩
      · subst hg
        refine ⟨u, run_loadVar_one h4 (hrd [u] fun j v ej => ?_) sees_hW, hd⟩
        cases j with
        | zero => simp at ej; subst ej; simpa using eu
        | succ j => simp at ej
    obtain ⟨u, hl, du⟩ := hload
    refine ⟨u :: us, ?_, .cons du d1⟩
    have hv : tmps.getD c undef = .pointer (some ⟨b, off, none⟩) := by simp [e2, ptr]
    simp only [List.mapM_cons, resSem, Sem.run_bind, Sem.run_pure, Result.andThen_ok, hv, run_asAddr_some, hl, e1]
theorem resOf_den : ∀ {vs : List AV} {us : List Value}, DenL ρ vs us → DenV ρ (resOfA vs) (resOf us)
  | _, _, .nil => .tup .nil
  | [_], _, .cons d .nil => d
  | _ :: _ :: _, _, .cons d (.cons d2 d3) => .tup (.cons d (.cons d2 d3))
theorem results_A (x : Rep B base ρ s w) {fn : Func} {tmps : Array Value} (hs : SlotsD ρ s.fr s.nt tmps) {v : AV} {s' : St} (h : endF P fn s = some (v, s')) : s' = s ∧ ∃ u, (results fn tmps).run P w = .ok u w ∧ DenV ρ v u := by
  simp only [endF, Option.bind_eq_some_iff, Option.some.injEq, Prod.mk.injEq] at h
  obtain ⟨vs, h1, rfl, rfl⟩ := h
  refine ⟨rfl, ?_⟩
  obtain ⟨us, e1, d1⟩ := resA_run x hs _ _ h1
  refine ⟨resOf us, ?_, resOf_den d1⟩
  rw [results_def]
  have : (fn.results.mapM (resSem tmps)).run P w = .ok us.toArray w := by
    rw [Array.mapM_eq_mapM_toList, Sem.run_map, e1]; rfl
  rw [Sem.run_bind, this]
  simp only [Result.andThen_ok, Sem.run_pure]
  cases us with
  | nil => simp [resOf]
  | cons v us => cases us <;> simp [resOf]

/-! ### A function's end: the blocks for deferred calls -/
theorem defd_set (x : Rep B base ρ s w) {n d : Nat} (h0 : n0 ≤ n) (hr : ρ n = some d) (hn : s.hp.get n = some .defd) : Rep B base ρ s { w with heap := w.heap.setIfInBounds d (.deferred none) } := by
  obtain ⟨ob, e, _⟩ := x.cont n _ d hn hr
  have hlt := (Array.getElem?_eq_some_iff.1 e).1
  refine ⟨x.glob, x.fresh, x.low0, by simpa using x.size, fun m o b h1 h2 => ?_, x.high, x.low, x.inj⟩
  by_cases hb : b = d
  · subst hb
    have hm : n0 ≤ m := Nat.le_of_not_lt fun hl => by have := x.low m b hl h2; have := x.high n b h0 hr; omega
    have := x.inj m n o .defd b hm h0 h1 hn h2 hr
    subst this
    rw [hn] at h1; cases h1
    exact ⟨_, set_at hlt, .defd _⟩
  · obtain ⟨ob', e', d'⟩ := x.cont m o b h1 h2
    exact ⟨ob', by rw [set_other b hb]; exact e', d'⟩
theorem leavesD {fn : Func} {tmps : Array Value} {R : Ending → World → Prop} : ∀ (D : List Nat) (w : World), Rep B base ρ s w → DOk b0 ρ s w D →
    (∀ w2, Rep B base ρ s w2 → w2.heap.size = w.heap.size → (∀ b, b < b0 → w2.heap[b]? = w.heap[b]?) → w2.os = w.os → w2.tape = w.tape → w2.output = w.output → w2.drawn = w.drawn → ∃ v, (results fn tmps).run P w2 = .ok v w2 ∧ R (.returned v) w2) →
    LeavesInM (FW none) 0 P fn tmps R (marks D) .returning w
  | [], w, x, _, k => k w x rfl (fun _ _ => rfl) rfl rfl rfl rfl
  | d :: D, w, x, hD, k => by
    obtain ⟨h1, h2, n, h3, h4, h5⟩ := hD.2 d (by simp)
    have hnd := List.nodup_cons.1 hD.1
    have x2 := defd_set x h3 h4 h5
    refine ⟨by simp, .inl ⟨d, { w with heap := w.heap.setIfInBounds d (.deferred none) }, rfl, ?_, ?_⟩⟩
    · simp [Instr.takeDeferred, getObj, setObj, Sem.run, h2]
    · refine leavesD D _ x2 ⟨hnd.2, fun d' hd' => ?_⟩ fun w2 q1 q2 q3 q4 q5 q6 q7 => k w2 q1 (by simpa using q2) (fun b hb => ?_) q4 q5 q6 q7
      · obtain ⟨z1, z2, z3⟩ := hD.2 d' (by simp [hd'])
        exact ⟨z1, (set_other (w := w) d' (fun e => hnd.1 (by rw [← e]; exact hd'))).trans z2, z3⟩
      · rw [q3 b hb, set_other b (by omega)]

/-! ### A function that is called -/
theorem argFrA_get : ∀ (vs : List AV) (i : Nat) (t : Tr AV) (j : Nat), (argFrA vs i t).get j = if i ≤ j ∧ j < i + vs.length then vs[j - i]? else t.get j
  | [], i, t, j => by simp only [argFrA, List.length_nil]; rw [if_neg (by omega)]
  | v :: vs, i, t, j => by
    simp only [argFrA, argFrA_get vs (Nat.succ i), Tr.get_set, List.length_cons]
    by_cases h1 : j = i
    · subst h1
      rw [if_neg (by omega), if_pos rfl, if_pos (by omega)]; simp
    · by_cases h2 : Nat.succ i ≤ j ∧ j < Nat.succ i + vs.length
      · rw [if_pos h2, if_pos (by omega)]
        rw [show j - i = (j - Nat.succ i) + 1 by omega]; simp
      · rw [if_neg h2, if_neg h1, if_neg (by omega)]
theorem args_slots {vs : List AV} {us : List Value} {N : Nat} (d : DenL ρ vs us) (hN : vs.length ≤ N) : SlotsD ρ (argFrA vs 0 .lf) N (us.toArray ++ Array.replicate (N - us.toArray.size) undef) := by
  have hl := d.length
  refine ⟨by simp; omega, fun i v h => ?_⟩
  rw [argFrA_get] at h
  split at h
  · rename_i hi
    simp only [Nat.sub_zero] at h
    obtain ⟨u, e, dv⟩ := d.get h
    have hlt := (List.getElem?_eq_some_iff.1 e).1
    exact ⟨u, by rw [Array.getElem?_append_left (by simpa using hlt)]; simpa using e, dv⟩
  · simp [Tr.get] at h
theorem parFrA_slots {nt : Nat} : ∀ (ps : List Tmp) (vs : List AV) (us : List Value) (fr fr' : Tr AV) (tmps : Array Value), parFrA nt ps vs fr = some fr' → DenL ρ vs us → SlotsD ρ fr nt tmps →
    ps.length = us.length ∧ SlotsD ρ fr' nt ((ps.zip us).foldl (fun tmps (p : Tmp × Value) => tmps.setIfInBounds p.1 p.2) tmps)
  | [], [], us, fr, fr', tmps, h, d, hs => by cases d; simp only [parFrA, Option.some.injEq] at h; subst h; exact ⟨rfl, hs⟩
  | p :: ps, v :: vs, us, fr, fr', tmps, h, d, hs => by
    cases d with
    | @cons _ u _ us d1 d2 =>
      simp only [parFrA, bsome, bltT] at h
      obtain ⟨hlt, h⟩ := h
      have hs' : SlotsD ρ (fr.set p (some v)) nt (tmps.setIfInBounds p u) := by
        refine ⟨by simpa using hs.1, fun i x e => ?_⟩
        rw [Tr.get_set] at e
        by_cases hi : i = p
        · subst hi
          rw [if_pos rfl, Option.some.injEq] at e; subst e
          exact ⟨u, by have := hs.1; simp [Array.getElem?_setIfInBounds]; omega, d1⟩
        · rw [if_neg hi] at e
          rw [Array.getElem?_setIfInBounds_ne (fun e => hi e.symm)]
          exact hs.2 i x e
      obtain ⟨h1, h2⟩ := parFrA_slots ps vs us _ fr' _ h d2 hs'
      exact ⟨by simp [h1], h2⟩
  | [], _ :: _, _, _, _, _, h, _, _ => by cases h
  | _ :: _, [], _, _, _, _, h, _, _ => by cases h

structure Env (P : Program) (ib cl : FuncId) : Prop where
  mixed : P.follows .mixedOrders = true
  name : ∀ (g : FuncId) (fn : Func), P.funcs[g]? = some fn → fn.name ≠ "runtime.NumGoroutine"
  ibx : ∀ (args : Array Value) (w : World), (callFunc ib args).run P w = ((Extern.BytealgIndexByte.indexByte args).run P w).andThen fun v w' => .ok (.value v) w'
  clx : ∀ (args : Array Value) (w : World), (callFunc cl args).run P w = ((Extern.MapsClone.clone args).run P w).andThen fun v w' => .ok (.value v) w'

variable {ib cl : FuncId} (hE : Env P ib cl)
include hE
theorem fn_ok (hc : CallOk P call) (hcf : ∀ f vs s v s', call f vs s = some (v, s') → HasF s s') {g : FuncId} {fn : Func} {c : Code} {vs : List AV} {us : List Value} {v : AV} (hfn : P.funcs[g]? = some fn) (hbody : fn.body = some c) (hle : vs.length ≤ fn.ntmps)
    (x : Rep B base ρ s w) (hd : DomS s) (hB : s'.next ≤ B) (d : DenL ρ vs us) (hrun : ∃ s1, endF P fn s1 = some (v, s') ∧ (runC P call true 3000 c { s with fr := argFrA vs 0 .lf, nt := fn.ntmps } = .nrm s1 ∨ runC P call true 3000 c { s with fr := argFrA vs 0 .lf, nt := fn.ntmps } = .ret s1)) :
    Calls P g us.toArray w (fun e w' => ∃ u, e = .returned u ∧ ∃ ρ' l, DenV ρ' v u ∧ Go B base l ρ s w ρ' s' w') := by
  obtain ⟨s1, hend, hr⟩ := hrun
  let s0 : St := { s with fr := argFrA vs 0 .lf, nt := fn.ntmps }
  have x0 : Rep B base ρ s0 w := x.of rfl rfl
  have he : s' = s1 := by
    simp only [endF, Option.bind_eq_some_iff, Option.some.injEq, Prod.mk.injEq] at hend
    obtain ⟨_, _, _, rfl⟩ := hend; rfl
  subst he
  have hfit : Fit B (runC P call true 3000 c s0) := by
    rcases hr with hr | hr
    · exact ⟨s'.next, by rw [show runC P call true 3000 c s0 = _ from hr]; rfl, hB⟩
    · exact ⟨s'.next, by rw [show runC P call true 3000 c s0 = _ from hr]; rfl, hB⟩
  have hwp := runC_ok (b0 := w.heap.size) (r := none) hE.mixed hE.name hc hcf (rf := true) (fun _ => rfl) 3000 c s0 ρ { tmps := us.toArray ++ Array.replicate (fn.ntmps - us.toArray.size) undef, defers := [] } w [] x0 hd (args_slots d hle) rfl ⟨List.nodup_nil, fun _ h => by cases h⟩ (Nat.le_refl _) hfit
  refine calls_of_FW (r := none) (n := 0) (callsIn_of_wp_marks hfn hbody trivial (wpIn_mono hwp fun e a' w' q => ?_) rfl)
  have key : EndC B base w.heap.size ρ s0 w true s' a' w' → LeavesInM (FW none) 0 P fn a'.tmps (fun e w' => ∃ u, e = .returned u ∧ ∃ ρ' l, DenV ρ' v u ∧ Go B base l ρ s w ρ' s' w') a'.defers .returning w' := by
    rintro ⟨ρ1, l1, D1, q1, q2, q3, q4⟩
    rw [q2]
    refine leavesD D1 w' q4.rep q3 fun w2 z1 z2 z3 z4 z5 z6 z7 => ?_
    obtain ⟨_, u, e1, d1⟩ := results_A z1 q1 hend
    refine ⟨u, e1, u, rfl, ρ1, l1, d1, ?_⟩
    have q4' : Go B base l1 ρ s w ρ1 s' w' := q4.of rfl rfl rfl rfl rfl rfl
    exact ⟨z1, q4'.ext, q4'.new, q4'.newκ, q4'.hpf, by rw [z2]; exact q4'.size, fun b hb hh => by rw [z3 b hb]; exact q4'.frame b hb hh, z4.trans q4'.os, z5.trans q4'.tape, z6.trans q4'.output, by rw [z7]; exact q4'.drawn, q4'.known⟩
  rcases hr with hr | hr
  · rw [show runC P call true 3000 c s0 = _ from hr] at q
    obtain ⟨rfl, q⟩ := q
    exact key q
  · rw [show runC P call true 3000 c s0 = _ from hr] at q
    obtain ⟨rfl, q⟩ := q
    exact key q

/-! ### A round of a range over a function -/
theorem yld_ok (hc : CallOk P call) (hcf : ∀ f vs s v s', call f vs s = some (v, s') → HasF s s') {n b : Nat} {fr fr' : Tr AV} {nt d : Nat} {ps : List Tmp} {asg body : Code} {st : LoopState} {pe : Option Code} {vs : List AV} {us : List Value} {v : AV} (x : Rep B base ρ s w) (hd : DomS s) (hB : s'.next ≤ B)
    (dus : DenL ρ vs us) (hr : ρ n = some b) (h1 : s.hp.get n = some (.loop fr nt ps asg body d st pe)) (h2 : parFrA nt ps vs fr = some fr')
    (h3 : (match runC P call false 3000 asg { s with fr := fr', nt := nt } with
          | .nrm s1 => (begY s1 n).bind fun s1' => match runC P call false 3000 body s1' with
              | .nrm s2 => endY s2 n .ready none true
              | .ret s2 => endY s2 n .done (some .ret) false
              | .ext id s2 => endY s2 n .done (some (.exit id)) false
              | _ => none
          | _ => none) = some (v, s')) :
    InvOk P (.fn (.yield b) #[]) us.toArray w (fun u w' => ∃ ρ' l, DenV ρ' v u ∧ Go B base l ρ s w ρ' s' w') := by
  obtain ⟨fid, tmps, da, e1, hsl, hda, _⟩ := loop_go x h1 hr
  obtain ⟨hlen, hsl2⟩ := parFrA_slots ps vs us fr fr' tmps h2 dus hsl
  refine .inr (.inr ⟨b, fid, (ps.toArray.zip us.toArray).foldl (fun tmps (t, v) => tmps.setIfInBounds t v) tmps, asg, body, ?_, ?_⟩)
  · simp only [invoke, Instr.yield, Sem.run_bind, run_getLoop e1, Result.andThen_ok]
    simp [hlen]
  refine roundIn_of_wpIn trivial ?_
  let s0 : St := { s with fr := fr', nt := nt }
  have x0 : Rep B base ρ s0 w := x.of rfl rfl
  have hsl3 : SlotsD ρ s0.fr s0.nt ((ps.toArray.zip us.toArray).foldl (fun tmps (t, v) => tmps.setIfInBounds t v) tmps) := by
    have : (ps.toArray.zip us.toArray).foldl (fun tmps (p : Tmp × Value) => tmps.setIfInBounds p.1 p.2) tmps = ((ps.zip us).foldl (fun tmps (p : Tmp × Value) => tmps.setIfInBounds p.1 p.2) tmps) := by
      rw [← Array.foldl_toList]; simp
    show SlotsD ρ fr' nt ((ps.toArray.zip us.toArray).foldl (fun tmps (p : Tmp × Value) => tmps.setIfInBounds p.1 p.2) tmps)
    rw [this]; exact hsl2
  cases hr1 : runC P call false 3000 asg s0 with
  | bad => rw [show runC P call false 3000 asg { s with fr := fr', nt := nt } = _ from hr1] at h3; cases h3
  | ret _ => rw [show runC P call false 3000 asg { s with fr := fr', nt := nt } = _ from hr1] at h3; cases h3
  | ext _ _ => rw [show runC P call false 3000 asg { s with fr := fr', nt := nt } = _ from hr1] at h3; cases h3
  | nrm s1 =>
    rw [show runC P call false 3000 asg { s with fr := fr', nt := nt } = _ from hr1] at h3
    simp only [Option.bind_eq_some_iff] at h3
    obtain ⟨s2, h4, h5⟩ := h3
    have hF2 := runC_f (P := P) (rf := false) hcf 3000 body s2
    -- what the body's run comes to
    obtain ⟨s3, st', pe', bb, hend, hbr⟩ : ∃ s3 st' pe' bb, endY s3 n st' pe' bb = some (v, s') ∧ ((runC P call false 3000 body s2 = .nrm s3 ∧ st' = .ready ∧ pe' = none ∧ bb = true) ∨ (runC P call false 3000 body s2 = .ret s3 ∧ st' = .done ∧ pe' = some .ret ∧ bb = false) ∨ ∃ id, runC P call false 3000 body s2 = .ext id s3 ∧ st' = .done ∧ pe' = some (.exit id) ∧ bb = false) := by
      split at h5
      · rename_i s3 e; exact ⟨s3, _, _, _, h5, .inl ⟨e, rfl, rfl, rfl⟩⟩
      · rename_i s3 e; exact ⟨s3, _, _, _, h5, .inr (.inl ⟨e, rfl, rfl, rfl⟩)⟩
      · rename_i id s3 e; exact ⟨s3, _, _, _, h5, .inr (.inr ⟨id, e, rfl, rfl, rfl⟩)⟩
      · cases h5
    have hs3 : s3.next ≤ s'.next := by
      obtain ⟨_, f⟩ := endY_f hend
      exact f.next
    have hfit2 : Fit B (runC P call false 3000 body s2) := by
      rcases hbr with ⟨e, _⟩ | ⟨e, _⟩ | ⟨id, e, _⟩
      · exact ⟨s3.next, by rw [e]; rfl, by omega⟩
      · exact ⟨s3.next, by rw [e]; rfl, by omega⟩
      · exact ⟨s3.next, by rw [e]; rfl, by omega⟩
    have hs2B : s2.next ≤ B := hfit2.of_F hF2
    have hs1 : s1.next ≤ s2.next := by
      obtain ⟨_, f⟩ := begY_f h4
      exact f.next
    have hnil : DOk w.heap.size ρ s0 w [] := ⟨List.nodup_nil, fun _ h => by cases h⟩
    have hwp := runC_ok (b0 := w.heap.size) (r := some b) hE.mixed hE.name hc hcf (rf := false) (fun h => by cases h) 3000 asg s0 ρ { tmps := (ps.toArray.zip us.toArray).foldl (fun tmps (t, v) => tmps.setIfInBounds t v) tmps, defers := [] } w [] x0 hd hsl3 rfl hnil (Nat.le_refl _) ⟨s1.next, by rw [hr1]; rfl, by omega⟩
    rw [hr1] at hwp
    refine wpIn_mono hwp fun e a1 w1 q => ?_
    obtain ⟨rfl, ρ1, l1, D1, q1, q2, q3, q4⟩ := q
    -- the round begins
    unfold begY at h4
    split at h4
    · rename_i fr1 nt1 ps1 as1 bo1 d1 eg
      have hb1 : ρ1 n = some b := q4.ext.1 _ _ hr
      obtain ⟨fid1, tm1, da1, e2, _, _, hgo⟩ := loop_go q4.rep eg hb1
      have g2 := hgo .busy none _ s2 h4 (.inr rfl)
      refine ⟨{ w1 with heap := w1.heap.setIfInBounds b (recO fid1 tm1 ps1.toArray as1 bo1 da1 .busy none) }, ?_, ?_⟩
      · show (Instr.beginRound b).run P w1 = .ok () { w1 with heap := w1.heap.setIfInBounds b (recO fid1 tm1 ps1.toArray as1 bo1 da1 .busy none) }
        simp only [Instr.beginRound, Sem.run_bind, run_getLoop e2, Result.andThen_ok]
        simp [run_setObj_loop e2, recO]
      · have hd1 := q4.hpf.dom hd
        have hsl4 : SlotsD ρ1 s2.fr s2.nt a1.tmps := by
          obtain ⟨e1, e2⟩ := upd_fr h4
          rw [e1, e2]; exact q1
        have q3' := DOk.go q4.rep hd1 g2 hs2B q3
        have hwp2 := runC_ok (b0 := w.heap.size) (r := some b) hE.mixed hE.name hc hcf (rf := false) (fun h => by cases h) 3000 body s2 ρ1 a1 _ D1 g2.rep (g2.hpf.dom hd1) hsl4 q2 q3' (Nat.le_trans q4.size g2.size) hfit2
        refine wpIn_mono hwp2 fun e a2 w3 q => ?_
        have fin : EndC B base w.heap.size ρ1 s2 { w1 with heap := w1.heap.setIfInBounds b (recO fid1 tm1 ps1.toArray as1 bo1 da1 .busy none) } true s3 a2 w3 → ∃ w4, (∀ j, pe' = j → st' = (if j.isNone then .ready else .done) → bb = j.isNone → (Instr.endRound b j).run P w3 = .ok (.bool bb) w4) ∧ ∃ ρ' l, DenV ρ' v (.bool bb) ∧ Go B base l ρ s w ρ' s' w4 := by
          rintro ⟨ρ3, l3, D3, z1, z2, z3, z4⟩
          unfold endY at hend
          split at hend
          · rename_i fr3 nt3 ps3 as3 bo3 d3 eg3
            simp only [Option.bind_eq_some_iff, Option.some.injEq, Prod.mk.injEq] at hend
            obtain ⟨s4, h6, rfl, rfl⟩ := hend
            have hb3 : ρ3 n = some b := z4.ext.1 _ _ (g2.ext.1 _ _ hb1)
            obtain ⟨fid3, tm3, da3, e3, _, _, hgo3⟩ := loop_go z4.rep eg3 hb3
            have g5 := hgo3 st' pe' _ s4 h6 (.inr rfl)
            have gg := ((q4.trans g2).trans z4).trans g5
            refine ⟨{ w3 with heap := w3.heap.setIfInBounds b (recO fid3 tm3 ps3.toArray as3 bo3 da3 st' pe') }, fun j hj hst hbb => ?_, ρ3, _, .bool bb, gg.of rfl rfl rfl rfl rfl rfl⟩
            subst hj
            simp only [Instr.endRound, Sem.run_bind, run_getLoop e3, Result.andThen_ok]
            have hif : (if pe'.isNone = true then LoopState.ready else LoopState.done) = st' := hst.symm
            simp only [hif]
            simp only [recO] at e3 ⊢
            rw [run_setObj_loop (by simpa [recO] using e3)]
            simp [hbb]
          · cases hend
        rcases hbr with ⟨e', h7, h8, h9⟩ | ⟨e', h7, h8, h9⟩ | ⟨id, e', h7, h8, h9⟩
        · rw [e'] at q
          obtain ⟨rfl, q⟩ := q
          obtain ⟨w4, k1, k2⟩ := fin q
          exact ⟨.bool bb, w4, k1 none h8 (by simp [h7]) (by simp [h9]), _, rfl, k2⟩
        · rw [e'] at q
          obtain ⟨rfl, q⟩ := q
          obtain ⟨w4, k1, k2⟩ := fin q
          exact ⟨.bool bb, w4, k1 (some .ret) h8 (by simp [h7]) (by simp [h9]), _, rfl, k2⟩
        · rw [e'] at q
          obtain ⟨rfl, q⟩ := q
          obtain ⟨w4, k1, k2⟩ := fin q
          exact ⟨.bool bb, w4, k1 (some (.exit id)) h8 (by simp [h7]) (by simp [h9]), _, rfl, k2⟩
    · cases h4
end
end Go.Mesh
/-
  A RUN THAT THE KERNEL RECKONS: what a run tells of a call.
-/
set_option linter.all false
namespace Go.Mesh
open Go.RowKit
set_option linter.unusedSimpArgs false
set_option linter.unusedVariables false

theorem find_idx {c8 : UInt8} {c : Nat} (hc : c8.toNat = c) : ∀ (L : List UInt8) (k : Nat) (f : Nat → UInt8), (∀ j x, L[j]? = some x → f (k + j) = x) →
    (match (List.range' k L.length).find? (fun i => f i == c8) with | some i => (i : Int) | none => -1) = idxB c (L.map UInt8.toNat) k
  | [], k, f, _ => by simp [idxB]
  | x :: L, k, f, hf => by
    have h0 : f k = x := by simpa using hf 0 x (by simp)
    simp only [List.length_cons, List.range'_succ, List.find?_cons, h0, List.map_cons, idxB, bq]
    by_cases h : x = c8
    · subst h; simp [hc]
    · have h1 : ¬ x.toNat = c := fun e => h (UInt8.toNat_inj.1 (by rw [hc]; exact e))
      have h2 : (x == c8) = false := by simpa using h
      simp only [h2, h1, if_false]
      exact find_idx hc L (k + 1) f fun j y e => by
        have := hf (j + 1) y (by simpa using e)
        rw [show k + 1 + j = k + (j + 1) by omega]; exact this

section
variable {P : Program} {ib cl : FuncId} {B base : Nat} {ρ : Nm} {s s' : St} {w : World}
theorem inv_of {g : FuncId} {us1 us us2 : List Value} {R : Value → World → Prop} (h : InvOk P (.fn (.func g) #[]) (us1 ++ (us ++ us2)).toArray w R) : InvOk P (.fn (.func g) us2.toArray) (us1.toArray ++ us.toArray) w R := by
  have : ∀ w, (invoke (.fn (.func g) us2.toArray) (us1.toArray ++ us.toArray)).run P w = (invoke (.fn (.func g) #[]) (us1 ++ (us ++ us2)).toArray).run P w := fun w => by
    simp [invoke]
  unfold InvOk at h ⊢
  rw [this]; exact h
/-- functions whose runs are known otherwise -/
def MOk (P : Program) (M : FuncId → List AV → St → Option (AV × St)) : Prop :=
  ∀ g vs s v s', M g vs s = some (v, s') → HasF s s' ∧ ∀ (B base : Nat) (ρ : Nm) (w : World) (us : List Value), Rep B base ρ s w → DomS s → s'.next ≤ B → DenL ρ vs us → InvOk P (.fn (.func g) #[]) us.toArray w (fun u w' => ∃ ρ' l, DenV ρ' v u ∧ Go B base l ρ s w ρ' s' w')
theorem ext_ok (hE : Env P ib cl) {g : FuncId} {vs : List AV} {us : List Value} {v : AV} (x : Rep B base ρ s w) (hB : s'.next ≤ B) (d : DenL ρ vs us) (h : extA ib cl g vs s = some (v, s')) : InvOk P (.fn (.func g) #[]) us.toArray w (fun u w' => ∃ ρ' l, DenV ρ' v u ∧ Go B base l ρ s w ρ' s' w') := by
  have hinv : ∀ w, (invoke (.fn (.func g) #[]) us.toArray).run P w = (callFunc g us.toArray).run P w := fun w => by simp [invoke]
  unfold extA at h
  cases hb : Nat.beq g ib with
  | true =>
    have := beqT.1 hb; subst this
    rw [hb, cond_true] at h
    split at h
    · rename_i l c
      rw [bsome, bltT] at h
      obtain ⟨hc, h⟩ := h
      cases h
      cases d with
      | cons d1 d2 =>
        cases d2 with
        | cons d2 d3 =>
          cases d3
          cases d1 with
          | str ba =>
            cases d2
            refine .inl ⟨.int .i64 (idxB c (ba.data.toList.map UInt8.toNat) 0), w, ?_, ρ, _, .int _ _, Go.refl x rfl rfl rfl rfl (Nat.le_refl _)⟩
            rw [hinv, hE.ibx]
            have h8 : (c.toUInt8).toNat = c := by simp [Nat.mod_eq_of_lt hc]
            have hf := find_idx h8 ba.data.toList 0 (fun i => ba[i]!) (fun j y e => by
              have hlt := (List.getElem?_eq_some_iff.1 e).1
              have hlt' : j < ba.size := by simpa using hlt
              simp only [Nat.zero_add]
              rw [getElem!_pos ba j hlt']
              have := (List.getElem?_eq_some_iff.1 e).2
              rw [← this]; rfl)
            have hsz : ba.data.toList.length = ba.size := by rw [Array.length_toList]; rfl
            rw [hsz, ← List.range_eq_range'] at hf
            have hrun : (Extern.BytealgIndexByte.indexByte #[.string ba, .int .u8 (Int.ofNat c)]).run P w = .ok (.int .i64 (idxB c (ba.data.toList.map UInt8.toNat) 0)) w := by
              rw [← hf]
              have hdef : Extern.BytealgIndexByte.indexByte #[.string ba, .int .u8 (Int.ofNat c)] = (do
                let b ← Extern.Bytes.bytesOf (.string ba)
                let c ← Extern.Bytes.asByte (.int .u8 (Int.ofNat c))
                match (List.range b.size).find? fun i => b[i]! == c with
                | some i => pure (goInt i)
                | none => pure (goInt (-1))) := rfl
              rw [hdef]
              simp only [Extern.Bytes.bytesOf, Extern.Bytes.asByte, Sem.run_bind, Sem.run_pure, Result.andThen_ok]
              have : (Int.ofNat c).toNat.toUInt8 = c.toUInt8 := rfl
              rw [this]
              cases (List.range ba.size).find? fun i => ba[i]! == c.toUInt8 <;> rfl
            rw [show ([Value.string ba, Value.int .u8 (Int.ofNat c)] : List Value).toArray = #[.string ba, .int .u8 (Int.ofNat c)] from rfl, hrun]
            rfl
    · cases h
  | false =>
    rw [hb, cond_false, bsome, beqT] at h
    obtain ⟨hg, h⟩ := h
    subst hg
    split at h
    · rename_i t n
      simp only [Option.bind_eq_some_iff, Option.some.injEq, Prod.mk.injEq] at h
      obtain ⟨es, h1, rfl, rfl⟩ := h
      cases d with
      | cons d1 d2 =>
        cases d2
        cases d1 with
        | ifc _ d3 =>
          cases d3 with
          | @mp _ b hr =>
            obtain ⟨fs, hmap, dE⟩ := map_at x h1 hr
            have hBB : s.next < B := hB
            obtain ⟨hf, hf'⟩ := x.fresh s.next (Nat.le_refl _) hBB
            refine .inl ⟨.iface t (.map (some w.heap.size)), { w with heap := w.heap.push (.map fs.toArray es.length) }, ?_, ρ.up s.next w.heap.size none, _, .ifc t (.mp Nm.up_at), Go.alloc (c := none) x hBB rfl rfl rfl rfl (Nat.le_refl _) (.map (dE.mono (Nm.up_le hf hf')))⟩
            rw [hinv, hE.clx]
            have hget : (getObj b).run P w = .ok (.map fs.toArray es.length) w := by simp [getObj, Sem.run, hmap]
            have hrun : (Extern.MapsClone.clone #[.iface t (.map (some b))]).run P w = .ok (.iface t (.map (some w.heap.size))) { w with heap := w.heap.push (.map fs.toArray es.length) } := by
              have hdef : Extern.MapsClone.clone #[.iface t (.map (some b))] = (do
                let .map entries clock ← getObj b | stuck "maps.clone: a map expected"
                pure (.iface t (.map (some (← newObj (.map entries clock)))))) := rfl
              rw [hdef]
              simp [hget]
            rw [show ([Value.iface t (.map (some b))] : List Value).toArray = #[.iface t (.map (some b))] from rfl, hrun]
            rfl
    · cases h
/-- WHAT A RUN TELLS. -/
theorem runF_ok (hE : Env P ib cl) {M : FuncId → List AV → St → Option (AV × St)} (hM : MOk P M) : ∀ n, CallOk P (runF P ib cl M n) := by
  intro n
  induction n with
  | zero => intro f vs s v s' h; cases h
  | succ n ih =>
    have hMf : ∀ f vs s v s', M f vs s = some (v, s') → HasF s s' := fun f vs s v s' h => (hM f vs s v s' h).1
    have hcf := runF_f (P := P) (ib := ib) (cl := cl) hMf n
    intro f vs s v s' h B base ρ w uf us x hd hB df dvs
    unfold runF at h
    split at h
    · rename_i g first cap
      cases df with
      | @fn _ _ _ us1 us2 d1 d2 =>
        refine ⟨.func g, us1.toArray, us2.toArray, rfl, inv_of ?_⟩
        have dall := d1.append (dvs.append d2)
        split at h
        · rename_i r e
          cases h
          exact (hM _ _ _ _ _ e).2 B base ρ w _ x hd hB dall
        · simp only [Option.bind_eq_some_iff] at h
          obtain ⟨fn, hfn, h⟩ := h
          split at h
          · rename_i c hbody
            simp only [bsome, bleT, lenL_eq] at h
            obtain ⟨hle, h⟩ := h
            have hb : fn.body.isNone = false := by rw [hbody]; rfl
            refine .inr (.inl ⟨g, (us1 ++ (us ++ us2)).toArray, ?_, fn_ok hE ih hcf hfn hbody hle x hd hB dall ?_⟩)
            · simp only [invoke, callFunc, Sem.run_bind, run_program, Result.andThen_ok, hfn]
              simp [hE.name g fn hfn, hb]
            · split at h
              · rename_i s1 e; exact ⟨s1, h, .inl e⟩
              · rename_i s1 e; exact ⟨s1, h, .inr e⟩
              · cases h
          · exact ext_ok hE x hB dall h
    · rename_i l
      cases df with
      | @yld _ b hr =>
        refine ⟨.yield b, #[], #[], rfl, ?_⟩
        split at h
        · rename_i fr nt ps asg body d st pe e0
          simp only [Option.bind_eq_some_iff] at h
          obtain ⟨fr', h2, h3⟩ := h
          have := yld_ok hE ih hcf x hd hB dvs hr e0 h2 h3
          have he : (#[] : Array Value) ++ us.toArray = us.toArray := by simp
          rw [he]; exact this
        · cases h
    · cases h
end
end Go.Mesh
