/-
  Part MAI of the proof's ground: X7, X8, X9, X10.
-/
import Derived.Lib.AppendZeros
import Derived.Test.YtcfedojmmfbbeaaGreatDoorMAH
/-
  A RUN THAT THE KERNEL RECKONS: parts of slices, maps that are looked up, lengths; all operations that give a value.
-/
set_option linter.all false
namespace Go.Mesh
open Go.RowKit
set_option linter.unusedSimpArgs false
set_option linter.unusedVariables false

section
variable {P : Program} {ρ : Nm} {fr : Tr AV} {nt : Nat} {hp : Tr AO} {a : Act} {w : World} {o : Oper}

theorem bound_some (hs : SlotsD ρ fr nt a.tmps) (hg : Glob ρ) {o : Option Operand} {d n : Nat} (h : bound fr o d = some n) : (match o with | some x => ∃ q, a.eval x = .int q (n : Int) | none => n = d) := by
  cases o with
  | none => simp only [bound, Option.some.injEq] at h; exact h.symm
  | some x =>
    simp only [bound, Option.bind_eq_some_iff] at h
    obtain ⟨v, h1, h2⟩ := h
    exact den_nat (aev_ok hs hg h1) h2
theorem run_sliceBound {k : IntKind} {n y : Nat} {c : BoundsCode} (h : n ≤ y) : (Instr.sliceBound (.int k (n : Int)) y c).run P w = .ok n w := by
  have h1 : (0 : Int) ≤ (n : Int) ∧ (n : Int) ≤ (y : Int) := by omega
  simp [Instr.sliceBound, asIntOf, h1, h]
/-- the bounds of s[l:h] -/
theorem run_bounds {isS : Bool} {len cap l h : Nat} {lo hi : Option Value} (hlo : match lo with | some v => ∃ q, v = .int q (l : Int) | none => l = 0) (hhi : match hi with | some v => ∃ q, v = .int q (h : Int) | none => h = len) (h1 : l ≤ h) (h2 : h ≤ cap) :
    (Instr.sliceBounds isS len cap lo hi none).run P w = .ok (l, h, cap) w := by
  unfold Instr.sliceBounds
  simp only [Sem.run_bind, Sem.run_pure, Result.andThen_ok, Option.isSome_none, Bool.false_eq_true, if_false]
  cases hi with
  | none =>
    subst hhi
    cases lo with
    | none => subst hlo; simp
    | some v => obtain ⟨q, rfl⟩ := hlo; simp [run_sliceBound h1]
  | some u =>
    obtain ⟨q, rfl⟩ := hhi
    cases lo with
    | none => subst hlo; simp [run_sliceBound h2]
    | some v => obtain ⟨q, rfl⟩ := hlo; simp [run_sliceBound h2, run_sliceBound h1]
theorem bound_val (hs : SlotsD ρ fr nt a.tmps) (hg : Glob ρ) {o : Option Operand} {d n : Nat} (h : bound fr o d = some n) : (match o.map a.eval with | some v => ∃ q, v = .int q (n : Int) | none => n = d) := by
  have := bound_some hs hg h
  cases o <;> simpa using this
theorem q_slice (hs : SlotsD ρ fr nt a.tmps) (hg : Glob ρ) {t : TypeId} {x : Operand} {lo hi : Option Operand} {v : AV} (hop : o.op = .slice t x lo hi none) (h : qSlice P fr t x lo hi = some v) : QR P ρ a w o v := by
  simp only [qSlice, Option.bind_eq_some_iff] at h
  obtain ⟨l, h1, vx, h2, h3⟩ := h
  have hl := bound_val hs hg h1
  have dx := aev_ok hs hg h2
  obtain ⟨ux, hux⟩ : ∃ ux, a.eval x = ux := ⟨_, rfl⟩
  rw [hux] at dx
  split at h3
  · split at h3
    · rename_i hu
      simp only [Option.bind_eq_some_iff, bsome, bleT, lenL_eq, Option.some.injEq, takeL_eq, dropL_eq] at h3
      obtain ⟨h, h4, h5, h6, rfl⟩ := h3
      have hh := bound_val hs hg h4
      cases dx with
      | str ba =>
        have hsz : (ba.data.toList.map UInt8.toNat).length = ba.size := by rw [List.length_map, Array.length_toList]; rfl
        rw [hsz] at h6 hh
        refine ⟨.string (ba.extract l h), ?_, ?_⟩
        · have e : (ba.extract l h).data.toList.map UInt8.toNat = ((ba.data.toList.map UInt8.toNat).drop l).take (h - l) := by
            rw [ByteArray.data_extract]
            simp [List.extract_eq_take_drop, List.map_take, List.map_drop]
          show DenV ρ (.str (((ba.data.toList.map UInt8.toNat).drop l).take (h - l))) _
          rw [← e]; exact .str _
        · unfold execOp; rw [hop]
          have hb := run_bounds (P := P) (w := w) (isS := false) (len := ba.size) (cap := ba.size) hl hh h5 h6
          simp only [hux, Instr.sliceAt, Instr.slice, Sem.run_bind, run_underlying' hu, Result.andThen_ok]
          simp [hb]
    · cases h3
  · rename_i n off len cap ex
    simp only [Option.bind_eq_some_iff, bsome, bleT] at h3
    obtain ⟨⟨e, k, by_⟩, h4, h, h5, h6, h7, h8⟩ := h3
    have hh := bound_val hs hg h5
    obtain ⟨hu, i0, hi0, hk, _⟩ := elemOf?_spec h4
    cases dx with
    | @sl _ b off len cap c ex hr hcc hex hwh =>
      have h7' : h ≤ c := Nat.le_trans h7 hcc
      have hb := run_bounds (P := P) (w := w) (isS := true) (len := len) (cap := c) hl hh h6 h7'
      have hrun : (execOp a.eval o).run P w = .ok (.value (.slice (if c = l then some ⟨b, off, none⟩ else some ⟨b, off + l * k, none⟩) (h - l) (c - l))) w := by
        unfold execOp; rw [hop]
        simp only [hux, Instr.sliceAt, Instr.slice, Sem.run_bind, run_underlying' hu, Result.andThen_ok, sizeOf, typeInfo, run_program, hi0, Sem.run_pure, hk, Option.map_some, Option.map_none, addr_add]
        rw [hb]
        by_cases hcl : c = l <;> simp [hcl]
      refine ⟨_, ?_, hrun⟩
      rw [bq] at h8
      split at h8
      · rename_i h0
        subst h0
        cases h8
        by_cases hc0 : c = 0
        · rw [if_pos hc0]; simpa using DenV.sl (ρ := ρ) off h cap c ex hr hcc hex hwh
        · rw [if_neg hc0]; simpa using DenV.sl (ρ := ρ) off h cap c ex hr hcc hex hwh
      · rename_i h0
        cases hlt : Nat.blt l cap with
        | true =>
          rw [hlt] at h8
          have hlt' := bltT.1 hlt
          cases h8
          rw [if_neg (by omega)]
          exact DenV.sl (ρ := ρ) (off + l * k) (h - l) (cap - l) (c - l) ex.cut hr (by omega) (fun e => by cases ex <;> first | rw [hex rfl] | cases e) (fun e => by cases ex <;> cases e)
        | false =>
          rw [hlt] at h8
          have hlt' : ¬ l < cap := fun e => by rw [bltT.2 e] at hlt; cases hlt
          cases h8
          have : h - l = 0 := by omega
          rw [this]; exact .em _ _
  · cases h3
theorem q_slice3 (hs : SlotsD ρ fr nt a.tmps) (hg : Glob ρ) {t : TypeId} {x lo hi mx : Operand} {v : AV} (hop : o.op = .slice t x (some lo) (some hi) (some mx)) (h : qSlice3 P fr t x lo hi mx = some v) : QR P ρ a w o v := by
  simp only [qSlice3, Option.bind_eq_some_iff] at h
  obtain ⟨l, h1, h, h2, m, h3, vx, h4, h5⟩ := h
  obtain ⟨q1, e1⟩ := bound_some hs hg h1
  obtain ⟨q2, e2⟩ := bound_some hs hg h2
  obtain ⟨q3, e3⟩ := bound_some hs hg h3
  have dx := aev_ok hs hg h4
  obtain ⟨ux, hux⟩ : ∃ ux, a.eval x = ux := ⟨_, rfl⟩
  rw [hux] at dx
  split at h5
  · rename_i n off len cap ex
    simp only [Option.bind_eq_some_iff, bsome, bleT, Option.some.injEq] at h5
    obtain ⟨⟨e, k, by_⟩, h6, h7, h8, h9, rfl⟩ := h5
    obtain ⟨hu, i0, hi0, hk, _⟩ := elemOf?_spec h6
    cases dx with
    | @sl _ b off len cap c ex hr hcc hex hwh =>
      have hmc : m ≤ c := Nat.le_trans h9 hcc
      refine ⟨.slice (some (if m = l then ⟨b, off, none⟩ else ⟨b, off + l * k, none⟩)) (h - l) (m - l), ?_, ?_⟩
      · rw [bq]
        split
        · exact .sl _ _ _ _ _ hr (Nat.le_refl _) (fun _ => rfl) (fun e => by cases e)
        · exact .sl _ _ _ _ _ hr (Nat.le_refl _) (fun _ => rfl) (fun e => by cases e)
      · unfold execOp; rw [hop]
        simp only [hux, Instr.sliceAt, Instr.slice, Sem.run_bind, run_underlying' hu, Result.andThen_ok, Instr.sliceBounds, Option.map_some, e1, e2, e3, run_sliceBound hmc, run_sliceBound h8, run_sliceBound h7, sizeOf, typeInfo, run_program, hi0, Sem.run_pure, hk, addr_add]
        split <;> simp
  · cases h5
theorem q_len (hs : SlotsD ρ fr nt a.tmps) (hg : Glob ρ) {c : Call} {v : AV} (hop : o.op = .call c) (hc : c.callee = .builtin .len) (h : qLen P fr hp c = some v)
    (hl : ∀ n off k, readsOf P fr o.op = some (n, off, k) → Loc ρ hp w n off k) : QR P ρ a w o v := by
  unfold qLen at h
  split at h
  · rename_i x t hx ht
    have ha : c.args = #[x] := Array.toList_inj.1 (by simpa using hx)
    have hat : c.argTypes = #[t] := Array.toList_inj.1 (by simpa using ht)
    simp only [Option.bind_eq_some_iff] at h
    obtain ⟨vx, h1, h2⟩ := h
    have dx := aev_ok hs hg h1
    obtain ⟨ux, hux⟩ : ∃ ux, a.eval x = ux := ⟨_, rfl⟩
    rw [hux] at dx
    have ex : ∀ z, (Builtin.len_ #[t] o.type #[ux]).run P w = .ok z w → (execOp a.eval o).run P w = .ok (.value z) w := fun z hz => by
      unfold execOp; rw [hop]
      simp [resolve, hc, ha, hat, invoke, builtin, hux, hz]
    split at h2
    · rename_i hu
      cases h2
      cases dx with
      | str ba =>
        refine ⟨_, .int _ _, ex _ ?_⟩
        have : lenL (ba.data.toList.map UInt8.toNat) = ba.size := by rw [lenL_eq, List.length_map, Array.length_toList]; rfl
        simp [Builtin.len_, run_underlying' hu, goInt, this]
    · rename_i hu
      cases h2
      cases dx with
      | sl => exact ⟨_, .int _ _, ex _ (by simp [Builtin.len_, run_underlying' hu, goInt])⟩
    · rename_i hu
      cases h2
      cases dx with
      | em => exact ⟨_, .int _ _, ex _ (by simp [Builtin.len_, run_underlying' hu, goInt])⟩
    · rename_i hu
      cases h2
      cases dx with
      | slS => exact ⟨_, .int _ _, ex _ (by simp [Builtin.len_, run_underlying' hu, goInt])⟩
    · rename_i hu
      cases h2
      cases dx with
      | lit => exact ⟨_, .int _ _, ex _ (by simp [Builtin.len_, run_underlying' hu, goInt])⟩
    · rename_i n kt et hu
      simp only [Option.bind_eq_some_iff, Option.some.injEq] at h2
      obtain ⟨es, h3, rfl⟩ := h2
      cases dx with
      | @mp _ b hr =>
        obtain ⟨o', ob, e3, d', ag⟩ := hl n 0 big (by rw [hop]; simp [readsOf, hx, h1, AV.mp?]) b _ hr (mapOf_get h3)
        have : o' = .map es := by
          rcases ag with rfl | ⟨c1, c2, q1, _⟩
          · rfl
          · simp [AO.cs?] at q1
        subst this
        cases d' with
        | @map _ fs d =>
          refine ⟨_, .int _ _, ex _ ?_⟩
          have hget : (getObj b).run P w = .ok (.map fs.toArray es.length) w := by simp [getObj, Sem.run, e3]
          simp only [Builtin.len_, List.getElem?_toArray, List.getElem?_cons_zero, Sem.run_bind, run_underlying' hu, Result.andThen_ok, hget, Sem.run_pure]
          simp [goInt, d.length, lenL_eq]
    · cases h2
  · cases h
theorem max2_ok {v v' r : AV} {u u' : Value} (h : max2 v v' = some r) (d : DenV ρ v u) (d' : DenV ρ v' u') : ∃ z, DenV ρ r z ∧ (Builtin.max2 u u').run P w = .ok z w := by
  unfold max2 at h
  split at h
  · cases h; cases d; cases d'
    refine ⟨_, .int _ _, ?_⟩
    rename_i k m q n
    by_cases hlt : n > m <;> simp [Builtin.max2, hlt]
  · cases h
theorem q_max (hs : SlotsD ρ fr nt a.tmps) (hg : Glob ρ) {c : Call} {v : AV} (hop : o.op = .call c) (hc : c.callee = .builtin .max) (h : qMax fr c = some v) : QR P ρ a w o v := by
  have ex : ∀ (us : List Value) z, c.args.toList.map a.eval = us → (Builtin.max_ c.argTypes o.type us.toArray).run P w = .ok z w → (execOp a.eval o).run P w = .ok (.value z) w := fun us z he hz => by
    unfold execOp; rw [hop]
    have ha : c.args.map a.eval = us.toArray := by rw [← he]; exact Array.toList_inj.1 (by simp)
    simp [resolve, hc, ha, invoke, builtin, hz]
  unfold qMax at h
  split at h
  · rename_i x y hx
    simp only [Option.bind_eq_some_iff] at h
    obtain ⟨v1, h1, v2, h2, h3⟩ := h
    obtain ⟨z, dz, hz⟩ := max2_ok (P := P) (w := w) h3 (aev_ok hs hg h1) (aev_ok hs hg h2)
    exact ⟨z, dz, ex [a.eval x, a.eval y] z (by rw [hx]; rfl) (by simp [Builtin.max_, hz])⟩
  · rename_i x y q hx
    simp only [Option.bind_eq_some_iff] at h
    obtain ⟨v1, h1, v2, h2, v3, h3, v4, h4, h5⟩ := h
    obtain ⟨z, dz, hz⟩ := max2_ok (P := P) (w := w) h4 (aev_ok hs hg h1) (aev_ok hs hg h2)
    obtain ⟨z', dz', hz'⟩ := max2_ok (P := P) (w := w) h5 dz (aev_ok hs hg h3)
    exact ⟨z', dz', ex [a.eval x, a.eval y, a.eval q] z' (by rw [hx]; rfl) (by simp [Builtin.max_, hz, hz'])⟩
  · cases h
end
end Go.Mesh
/-
  A RUN THAT THE KERNEL RECKONS: maps.
-/
set_option linter.all false
namespace Go.Mesh
open Go.RowKit
set_option linter.unusedSimpArgs false
set_option linter.unusedVariables false

section
variable {P : Program} {ρ : Nm} {fr : Tr AV} {nt : Nat} {hp : Tr AO} {a : Act} {w : World} {o : Oper}

theorem checkLeafs : ∀ (d : Nat) (t : TypeId) (ks : List Nat), leafs P d t = some ks → ∀ (us : List Value) (e : Bool) (w : World), us.length = ks.length → ∀ n, d ≤ n → (Instr.checkKey e n t (valOf P t us)).run P w = .ok () w
  | 0, _, _, h, _, _, _, _, _, _ => by cases h
  | d + 1, t, ks, h, us, em, w, hl, n, hn => by
    obtain ⟨n, rfl⟩ : ∃ n', n = n' + 1 := ⟨n - 1, by omega⟩
    simp only [leafs] at h
    split at h
    · rename_i k e; simp only [valOf, e, Instr.checkKey, Sem.run_bind, run_underlying' e, Result.andThen_ok]; rfl
    · rename_i e; simp only [valOf, e, Instr.checkKey, Sem.run_bind, run_underlying' e, Result.andThen_ok]; rfl
    · rename_i e; simp only [valOf, e, Instr.checkKey, Sem.run_bind, run_underlying' e, Result.andThen_ok]; rfl
    · rename_i fs e
      cases hs : P.stoodInHeld t with
      | true => rw [hs] at h; cases h
      | false =>
        rw [hs] at h
        simp only [cond_false] at h
        simp only [valOf, e, Instr.checkKey, Sem.run_bind, run_underlying' e, Result.andThen_ok]
        have key : ∀ (l : List Field) (o : Nat) (ks : List Nat) (pre us : List Value), leafsF P (leafs P d) (P.cellsOf t) o l = some ks → pre.length = o → us.length = ks.length →
            (forIn l PUnit.unit (fun f _ => do
              if f.name ≠ "_" then do
                let x ← part f.type (pre ++ us).toArray f.offset
                Instr.checkKey em n f.type x
                pure (ForInStep.yield PUnit.unit)
              else pure (ForInStep.yield PUnit.unit)) : Sem PUnit).run P w = .ok PUnit.unit w := by
          intro l
          induction l with
          | nil => intro o ks pre us _ _ _; rfl
          | cons f l ih =>
            intro o ks pre us hl2 hp hus
            simp only [leafsF, bsome, Option.bind_eq_some_iff, Option.some.injEq, Bool.and_eq_true, bne_iff_ne, ne_eq, beq_iff_eq] at hl2
            obtain ⟨⟨⟨hn2, hoff⟩, hinf⟩, k1, h1, k2, h2, rfl⟩ := hl2
            have hl1 := leafs_len d _ _ h1
            obtain ⟨hk1, hk2⟩ := leafs_kind d _ _ h1
            have hu : us = us.take k1.length ++ us.drop k1.length := (List.take_append_drop _ _).symm
            have ex : (pre ++ us) = pre ++ us.take k1.length ++ us.drop k1.length := by rw [List.append_assoc, ← hu]
            have hlen1 : (us.take k1.length).length = P.cellsOf f.type := by simp at hus; simp [hus, hl1]
            have p1 := run_part (P := P) (w := w) (t := f.type) (pre := pre) (xs := us.take k1.length) (post := us.drop k1.length) hinf hk1 hlen1 (fun _ => .inr trivial) hk2
            have e3 := checkLeafs d f.type k1 h1 (us.take k1.length) em w (by simp at hus; simp [hus]) n (by omega)
            have hrec := ih (o + P.cellsOf f.type) k2 (pre ++ us.take k1.length) (us.drop k1.length) h2 (by simp [hlen1, hp]) (by simp at hus; simp [hus])
            rw [← ex] at hrec
            simp only [List.forIn_cons, hn2, ne_eq, not_false_eq_true, if_true, Sem.run_bind]
            rw [show f.offset = pre.length by omega]
            rw [← ex] at p1
            simp only [p1, Result.andThen_ok, e3, Sem.run_pure]
            exact hrec
        have := key fs.toList 0 ks [] us h rfl hl
        rw [← Array.forIn_toList]
        simp only [List.nil_append] at this
        simp only [ne_eq, ite_not] at this ⊢
        rw [this]; rfl
    · cases h

/-- the law of keys: a key as it is met in a map -/
theorem keyOk_check {kt : TypeId} {k : AV} {u : Value} (h : keyOk P kt k = true) (d : DenV ρ k u) (e : Bool) : (Instr.checkKey e 10000 kt u).run P w = .ok () w := by
  unfold keyOk at h
  split at h
  · split at h
    · rename_i hu
      cases d
      have hN : ∀ N (q : IntKind) v, (Instr.checkKey e (N + 1) kt (.int q v)).run P w = .ok () w := fun N q v => by
        simp only [Instr.checkKey, Sem.run_bind, run_underlying' hu, Result.andThen_ok]; rfl
      exact hN 9999 _ _
    · cases h
  · split at h
    · rename_i hu
      cases d
      have hN : ∀ N v, (Instr.checkKey e (N + 1) kt (.string v)).run P w = .ok () w := fun N v => by
        simp only [Instr.checkKey, Sem.run_bind, run_underlying' hu, Result.andThen_ok]; rfl
      exact hN 9999 _
    · cases h
  · split at h
    · rename_i b hb
      simp only [Option.bind_eq_some_iff] at hb
      obtain ⟨ks, h1, h2⟩ := hb
      cases d with
      | @agg as us d =>
        have hl := (eqVs_len _ _ _ _ h2).1
        unfold structLeafs at h1
        split at h1
        · rename_i fs hu
          have := checkLeafs 6 kt ks h1 us e w (by rw [d.length, hl]) 10000 (by decide)
          simpa [valOf, hu] using this
        · cases h1
    · cases h
  · cases h

theorem bytes_ext {x y : ByteArray} (h : x.toList = y.toList) : x = y := by
  rw [ByteArray.toList_eq, ByteArray.toList_eq] at h
  cases x; cases y
  simp only at h
  rw [Array.toList_inj.1 h]
theorem eqVs_same {ks : List Nat} : ∀ {vs vs' : List AV} {us us' : List Value}, eqVs ks vs vs' = some true → DenL ρ vs us → DenL ρ vs' us' → us = us' := by
  induction ks with
  | nil =>
    intro vs vs' us us' h d d'
    obtain ⟨l1, l2⟩ := eqVs_len _ _ _ _ h
    have := List.eq_nil_of_length_eq_zero l1
    have := List.eq_nil_of_length_eq_zero l2
    subst_vars
    cases d; cases d'; rfl
  | cons c ks ih =>
    intro vs vs' us us' h d d'
    cases d with
    | nil => cases d' <;> simp [eqVs] at h
    | cons x d =>
      cases d' with
      | nil => simp [eqVs] at h
      | cons y d' =>
        simp only [eqVs, Option.bind_eq_some_iff, Option.some.injEq] at h
        obtain ⟨p, h1, q, h2, h3⟩ := h
        rw [Bool.and_eq_true] at h3
        obtain ⟨rfl, rfl⟩ := h3
        rw [ih h2 d d']
        rcases eqV_leaf h1 x y with ⟨k, a, b, _, rfl, rfl, e⟩ | ⟨a, b, _, rfl, rfl, e⟩ | ⟨a, b, _, rfl, rfl, e⟩
        · have : a = b := by simpa using e.symm
          rw [this]
        · have : a = b := bytes_ext (by simpa using e.symm)
          rw [this]
        · have : a = b := by simpa using e.symm
          rw [this]
theorem eqK_same {kt : TypeId} {k k' : AV} {u u' : Value} (h : eqK P kt k k' = some true) (d : DenV ρ k u) (d' : DenV ρ k' u') : u = u' := by
  unfold eqK at h
  split at h
  · split at h
    · simp only [bsome, decide_eq_true_eq, Option.some.injEq, beq_iff_eq] at h
      obtain ⟨rfl, rfl⟩ := h
      cases d; cases d'; rfl
    · cases h
  · split at h
    · simp only [Option.some.injEq] at h
      cases d; cases d'
      rw [str_eq] at h
      have := bytes_ext (eq_of_beq h)
      rw [this]
    · cases h
  · simp only [Option.bind_eq_some_iff] at h
    obtain ⟨ks, h1, h2⟩ := h
    cases d with
    | agg d => cases d' with
      | agg d' => rw [eqVs_same h2 d d']
  · cases h
theorem sameBits_refl {ks : List Nat} : ∀ {vs : List AV} {us : List Value} {b : Bool}, eqVs ks vs vs = some b → DenL ρ vs us → ∀ n, (us.zip us).all (fun (x, y) => Instr.sameBits n x y) = true := by
  induction ks with
  | nil =>
    intro vs us b h d n
    obtain ⟨l1, l2⟩ := eqVs_len _ _ _ _ h
    have := List.eq_nil_of_length_eq_zero l1
    subst_vars
    cases d; rfl
  | cons c ks ih =>
    intro vs us b h d n
    cases d with
    | nil => rfl
    | cons x d =>
      simp only [eqVs, Option.bind_eq_some_iff, Option.some.injEq] at h
      obtain ⟨p, h1, q, h2, h3⟩ := h
      simp only [List.zip_cons_cons, List.all_cons, ih h2 d n, Bool.and_true]
      rcases eqV_leaf h1 x x with ⟨k, a, b, _, rfl, _, e⟩ | ⟨a, b, _, rfl, _, e⟩ | ⟨a, b, _, rfl, _, e⟩ <;> cases n <;> simp [Instr.sameBits, beq_toListBytes]
theorem keyOk_bits {kt : TypeId} {k : AV} {u : Value} (h : keyOk P kt k = true) (d : DenV ρ k u) : Instr.sameBits 10000 u u = true := by
  unfold keyOk at h
  split at h
  · cases d; show Instr.sameBits (9999 + 1) _ _ = true; simp [Instr.sameBits, beq_toListBytes]
  · cases d; show Instr.sameBits (9999 + 1) _ _ = true; simp [Instr.sameBits, beq_toListBytes]
  · split at h
    · rename_i b hb
      simp only [Option.bind_eq_some_iff] at hb
      obtain ⟨ks, h1, h2⟩ := hb
      cases d with
      | @agg as us d =>
        show Instr.sameBits (9999 + 1) _ _ = true
        simp only [Instr.sameBits, beq_self_eq_true, Bool.true_and]
        exact sameBits_refl h2 d 9999
    · cases h
  · cases h

/-- what is found: the place and the value -/
def idxE (P : Program) (kt : TypeId) (k : AV) : List (AV × AV) → Nat
  | [] => 0
  | (k', _) :: es => match eqK P kt k k' with
    | some true => 0
    | _ => idxE P kt k es + 1
def Found (P : Program) (kt : TypeId) (k : AV) (es : List (AV × AV)) (ρ : Nm) (u : Value) (j : Nat) (fs : List MapEntry) (r : Option AV) (res : Option (Nat × Value)) : Prop :=
  (r = none ∧ res = none) ∨ ∃ v x, r = some v ∧ res = some (j + idxE P kt k es, x) ∧ DenV ρ v x ∧ ∃ e, fs[idxE P kt k es]? = some e ∧ e.key = u ∧ e.val = x
theorem findNow_ok {kt : TypeId} {k : AV} {u : Value} {kind : TypeDesc} (hk : ∀ k' u' b, eqK P kt k k' = some b → DenV ρ k' u' → Instr.sameNow kind u u' = some b) (dk : DenV ρ k u) :
    ∀ (es : List (AV × AV)) (fs : List MapEntry) (j : Nat) (r : Option AV), findE P kt k es = some r → DenE ρ j es fs → ∀ i, ∃ res, Instr.findNow kind u fs i = some res ∧ Found P kt k es ρ u i fs r res
  | [], _, j, r, h, .nil _, i => by simp only [findE, Option.some.injEq] at h; subst h; exact ⟨none, rfl, .inl ⟨rfl, rfl⟩⟩
  | (k', v) :: es, _, j, r, h, .cons (u := u') (w := x) (fs := fs) d1 d2 d3, i => by
    simp only [findE, Option.bind_eq_some_iff] at h
    obtain ⟨b, h1, h2⟩ := h
    have hs := hk k' u' b h1 d1
    cases b with
    | true =>
      simp only [cond_true, Option.some.injEq] at h2
      subst h2
      exact ⟨some (i, x), by simp [Instr.findNow, hs], .inr ⟨v, x, rfl, by simp [idxE, h1], d2, _, by simp [idxE, h1]; rfl, (eqK_same h1 dk d1).symm, rfl⟩⟩
    | false =>
      simp only [cond_false] at h2
      obtain ⟨res, h3, h4⟩ := findNow_ok hk dk es fs (j + 1) r h2 d3 (i + 1)
      refine ⟨res, by simp [Instr.findNow, hs, h3], ?_⟩
      rcases h4 with h4 | ⟨v', x', e1, e2, e3, e, e4, e5, e6⟩
      · exact .inl h4
      · exact .inr ⟨v', x', e1, by rw [e2]; simp only [idxE, h1]; congr 2; omega, e3, e, by simpa [idxE, h1] using e4, e5, e6⟩
theorem findAsk_ok {kt : TypeId} {k : AV} {u : Value} (hk : ∀ k' u' b, eqK P kt k k' = some b → DenV ρ k' u' → (Op.equal kt u u').run P w = .ok b w) (dk : DenV ρ k u) :
    ∀ (es : List (AV × AV)) (fs : List MapEntry) (j : Nat) (r : Option AV), findE P kt k es = some r → DenE ρ j es fs → ∀ i, ∃ res, (Instr.findAsking kt u fs i).run P w = .ok res w ∧ Found P kt k es ρ u i fs r res
  | [], _, j, r, h, .nil _, i => by simp only [findE, Option.some.injEq] at h; subst h; exact ⟨none, rfl, .inl ⟨rfl, rfl⟩⟩
  | (k', v) :: es, _, j, r, h, .cons (u := u') (w := x) (fs := fs) d1 d2 d3, i => by
    simp only [findE, Option.bind_eq_some_iff] at h
    obtain ⟨b, h1, h2⟩ := h
    have hs := hk k' u' b h1 d1
    cases b with
    | true =>
      simp only [cond_true, Option.some.injEq] at h2
      subst h2
      exact ⟨some (i, x), by simp [Instr.findAsking, hs], .inr ⟨v, x, rfl, by simp [idxE, h1], d2, _, by simp [idxE, h1]; rfl, (eqK_same h1 dk d1).symm, rfl⟩⟩
    | false =>
      simp only [cond_false] at h2
      obtain ⟨res, h3, h4⟩ := findAsk_ok hk dk es fs (j + 1) r h2 d3 (i + 1)
      refine ⟨res, by simp [Instr.findAsking, hs, h3], ?_⟩
      rcases h4 with h4 | ⟨v', x', e1, e2, e3, e, e4, e5, e6⟩
      · exact .inl h4
      · exact .inr ⟨v', x', e1, by rw [e2]; simp only [idxE, h1]; congr 2; omega, e3, e, by simpa [idxE, h1] using e4, e5, e6⟩
theorem findKey_ok {kt : TypeId} {k : AV} {u : Value} {es : List (AV × AV)} {fs : List MapEntry} {r : Option AV} (hko : keyOk P kt k = true) (dk : DenV ρ k u) (h : findE P kt k es = some r) (d : DenE ρ 0 es fs) :
    ∃ res, (Instr.findKey kt u fs).run P w = .ok res w ∧ Found P kt k es ρ u 0 fs r res := by
  unfold keyOk at hko
  split at hko
  · rename_i q n
    split at hko
    · rename_i k0 hu
      have hk : ∀ k' u' b, eqK P kt (.int q n) k' = some b → DenV ρ k' u' → Instr.sameNow (.int k0) u u' = some b := by
        intro k' u' b h1 d1
        cases dk
        cases k' <;> simp only [eqK, reduceCtorEq] at h1
        simp only [hu, bsome, decide_eq_true_eq, Option.some.injEq] at h1
        obtain ⟨rfl, rfl⟩ := h1
        cases d1
        simp [Instr.sameNow]
      obtain ⟨res, h3, h4⟩ := findNow_ok hk dk es fs 0 r h d 0
      exact ⟨res, by simp only [Instr.findKey, Sem.run_bind, run_underlying' hu, Result.andThen_ok, h3]; rfl, h4⟩
    · cases hko
  · rename_i s
    split at hko
    · rename_i hu
      have hk : ∀ k' u' b, eqK P kt (.str s) k' = some b → DenV ρ k' u' → Instr.sameNow .string u u' = some b := by
        intro k' u' b h1 d1
        cases k' <;> simp only [eqK, reduceCtorEq] at h1
        simp only [hu, Option.some.injEq] at h1
        subst h1
        cases dk; cases d1
        simp only [Instr.sameNow, Option.some.injEq]
        rw [str_eq, beq_toListBytes]
      obtain ⟨res, h3, h4⟩ := findNow_ok hk dk es fs 0 r h d 0
      exact ⟨res, by simp only [Instr.findKey, Sem.run_bind, run_underlying' hu, Result.andThen_ok, h3]; rfl, h4⟩
    · cases hko
  · rename_i as
    split at hko
    · rename_i b0 hb0
      simp only [Option.bind_eq_some_iff] at hb0
      obtain ⟨ks, g1, g2⟩ := hb0
      have hk : ∀ k' u' b, eqK P kt (.agg as) k' = some b → DenV ρ k' u' → (Op.equal kt u u').run P w = .ok b w := by
        intro k' u' b h1 d1
        cases k' <;> simp only [eqK, reduceCtorEq, Option.bind_eq_some_iff] at h1
        obtain ⟨ks', h2, h3⟩ := h1
        cases dk with
        | agg dk => cases d1 with
          | agg d1 => exact structLeafs_eq h2 h3 dk d1 (by decide)
      obtain ⟨res, h3, h4⟩ := findAsk_ok hk dk es fs 0 r h d 0
      have hus : ∃ fs', P.underlying kt = some (.struct fs') := by
        unfold structLeafs at g1
        split at g1
        · exact ⟨_, by assumption⟩
        · cases g1
      obtain ⟨fs', hu⟩ := hus
      cases d with
      | nil =>
        refine ⟨none, by simp only [Instr.findKey, Sem.run_bind, run_underlying' hu, Result.andThen_ok, Instr.findNow]; rfl, ?_⟩
        simp only [findE, Option.some.injEq] at h
        exact .inl ⟨h.symm, rfl⟩
      | @cons _ _ _ u' x es' fs2 d1 d2 d3 =>
        refine ⟨res, ?_, h4⟩
        simp only [Instr.findKey, Sem.run_bind, run_underlying' hu, Result.andThen_ok]
        have : Instr.findNow (.struct fs') u (⟨u', x, 0⟩ :: fs2) 0 = none := by simp [Instr.findNow, Instr.sameNow]
        rw [this]
        exact h3
    · cases hko
  · cases hko
theorem mapTy_spec {t kt et : TypeId} (h : mapTy P t = some (kt, et)) : P.underlying t = some (.map kt et) := by
  unfold mapTy at h
  split at h
  · rename_i hu; cases h; exact hu
  · cases h
theorem loc_map {n b : Nat} {es : List (AV × AV)} (hl : Loc ρ hp w n 0 big) (hr : ρ n = some b) (hm : mapOf hp n = some es) : ∃ fs, w.heap[b]? = some (.map fs.toArray es.length) ∧ DenE ρ 0 es fs := by
  obtain ⟨o', ob, e3, d', ag⟩ := hl b _ hr (mapOf_get hm)
  have : o' = .map es := by
    rcases ag with rfl | ⟨c1, c2, q1, _⟩
    · rfl
    · simp [AO.cs?] at q1
  subst this
  cases d' with
  | map d => exact ⟨_, e3, d⟩
theorem zeroV1_spec {t : TypeId} {z : AV} (h : zeroV1 P t = some z) : ∃ u, zvOf P t = some u ∧ DenV ρ z u := by
  simp only [zeroV1, Option.bind_eq_some_iff, Option.some.injEq] at h
  obtain ⟨u, h1, rfl⟩ := h
  exact ⟨u, h1, .ofC u⟩
theorem q_lookup (hs : SlotsD ρ fr nt a.tmps) (hg : Glob ρ) {t : TypeId} {x k : Operand} {ok : Bool} {v : AV} (hop : o.op = .lookup t x k ok) (h : qLookup P fr hp t x k ok = some v)
    (hl : ∀ n off k, readsOf P fr o.op = some (n, off, k) → Loc ρ hp w n off k) : QR P ρ a w o v := by
  simp only [qLookup, Option.bind_eq_some_iff, bsome, Option.some.injEq] at h
  obtain ⟨vx, h1, n, h2, es, h3, vk, h4, ⟨kt, et⟩, h5, h6, r, h7, z, h8, rfl⟩ := h
  obtain ⟨b, hr, hx⟩ := den_mp (aev_ok hs hg h1) h2
  have dk := aev_ok hs hg h4
  obtain ⟨fs, e3, d⟩ := loc_map (hl n 0 big (by rw [hop]; simp [readsOf, h1, h2])) hr h3
  have ht := mapTy_spec h5
  obtain ⟨zv, hz, dz⟩ := zeroV1_spec (ρ := ρ) h8
  obtain ⟨res, f1, f2⟩ := findKey_ok (w := w) h6 dk h7 d
  have hget : (getObj b).run P w = .ok (.map fs.toArray es.length) w := by simp [getObj, Sem.run, e3]
  have hrun : ∀ (val : Value) (bb : Bool), (res.map (·.2)).getD zv = val → res.isSome = bb → (execOp a.eval o).run P w = .ok (.value (if ok then .tuple #[val, .bool bb] else val)) w := by
    intro val bb hv hb
    unfold execOp; rw [hop]
    simp only [hx, Instr.lookup, Sem.run_bind, run_underlying' ht, Result.andThen_ok, hget, Sem.run_pure, keyOk_check h6 dk, f1]
    cases res with
    | none =>
      simp only [Option.map_none, Option.getD_none, Option.isSome_none] at hv hb
      subst hv hb
      simp only [Sem.run_bind, run_zeroValue hz, Result.andThen_ok, Sem.run_pure]
    | some q =>
      obtain ⟨i, x⟩ := q
      simp only [Option.map_some, Option.getD_some, Option.isSome_some] at hv hb
      subst hv hb
      simp only [Sem.run_bind, Sem.run_pure, Result.andThen_ok]
  rcases f2 with ⟨rfl, rfl⟩ | ⟨v', x', rfl, rfl, e5, _⟩
  · refine ⟨_, ?_, hrun zv false rfl rfl⟩
    cases ok
    · exact dz
    · exact .tup (.cons dz (.cons (.bool _) .nil))
  · refine ⟨_, ?_, hrun x' true rfl rfl⟩
    cases ok
    · exact e5
    · exact .tup (.cons e5 (.cons (.bool _) .nil))

/-- THE OPERATIONS THAT GIVE A VALUE. -/
theorem opQ_ok (hs : SlotsD ρ fr nt a.tmps) (hg : Glob ρ) {v : AV} (h : opQ P fr hp o.op = some v) (hl : ∀ n off k, readsOf P fr o.op = some (n, off, k) → Loc ρ hp w n off k) : QR P ρ a w o v := by
  obtain ⟨dst, op, type, pos, after, guard⟩ := o
  simp only at h hl
  unfold opQ at h
  split at h
  · exact q_move hs hg rfl h
  · exact q_assign hs hg rfl h
  · exact q_pick hs hg rfl h
  · exact q_bin hs hg rfl h
  · exact q_not hs hg rfl h
  · exact q_conv hs hg rfl h
  · exact q_nil hs hg rfl h
  · exact q_fieldAddr hs hg rfl h
  · exact q_field hs hg rfl h
  · exact q_indexAddr hs hg rfl h
  · exact q_index hs hg rfl h
  · exact q_extract hs hg rfl h
  · exact q_load hs hg rfl h hl
  · exact q_build hs hg rfl h
  · exact q_func hs hg rfl h
  · exact q_iface hs hg rfl h
  · exact q_assert hs hg rfl h
  · exact q_slice hs hg rfl h
  · exact q_slice3 hs hg rfl h
  · exact q_lookup hs hg rfl h hl
  · split at h
    · exact q_len hs hg rfl (by assumption) h hl
    · exact q_max hs hg rfl (by assumption) h
    · cases h
  · cases h
end
end Go.Mesh
/-
  A RUN THAT THE KERNEL RECKONS: operations that make a block; what a step keeps.
-/
set_option linter.all false
namespace Go.Mesh
open Go.RowKit
set_option linter.unusedSimpArgs false
set_option linter.unusedVariables false

def Nm.up (ρ : Nm) (n a : Nat) (c : Option Nat) : Nm := ⟨fun m => if m = n then some a else ρ m, fun m => if m = n then c else ρ.κ m⟩
theorem Nm.up_le {ρ : Nm} {n a : Nat} {c : Option Nat} (h : ρ n = none) (h' : ρ.κ n = none) : leN ρ (ρ.up n a c) := by
  refine ⟨fun m b e => ?_, fun m b e => ?_⟩
  · by_cases hm : m = n
    · subst hm; rw [h] at e; cases e
    · simp [Nm.up, hm]; exact e
  · by_cases hm : m = n
    · subst hm; rw [h'] at e; cases e
    · simp [Nm.up, hm]; exact e
theorem Nm.up_at {ρ : Nm} {n a : Nat} {c : Option Nat} : (ρ.up n a c) n = some a := by simp [Nm.up]
theorem Nm.up_κ {ρ : Nm} {n a : Nat} {c : Option Nat} : (ρ.up n a c).κ n = c := by simp [Nm.up]
theorem Nm.up_ne {ρ : Nm} {n a m : Nat} {c : Option Nat} (h : m ≠ n) : (ρ.up n a c) m = ρ m := by simp [Nm.up, h]

/-- A new block, and a value. -/
def NewR (P : Program) (ρ : Nm) (a : Act) (w : World) (o : Oper) (next : Nat) (v : AV) (ao : AO) : Prop :=
  ∃ u ob w' c, (execOp a.eval o).run P w = .ok (.value u) w' ∧ w'.heap = w.heap.push ob ∧ w'.os = w.os ∧ w'.tape = w.tape ∧ w'.output = w.output ∧ w.drawn ≤ w'.drawn ∧
    DenV (ρ.up next w.heap.size c) v u ∧ DenO (ρ.up next w.heap.size c) ao ob

section
variable {P : Program} {ρ : Nm} {fr : Tr AV} {nt : Nat} {hp : Tr AO} {a : Act} {w : World} {o : Oper}

theorem sizesOk_row (hs : SlotsD ρ fr nt a.tmps) (hg : Glob ρ) {k : Nat} : ∀ (xs : List (Nat × Operand)) (j : Nat) (cs : List AV), sizesOk fr k j xs = true → rowOf fr xs = some cs → ∃ us, rowParts (frOf a) k j xs us ∧ DenL ρ cs us
  | [], j, cs, _, h => by simp only [rowOf, Option.some.injEq] at h; subst h; exact ⟨[], rfl, .nil⟩
  | (i, x) :: xs, j, cs, h1, h2 => by
    simp only [rowOf, Option.bind_eq_some_iff, Option.some.injEq] at h2
    obtain ⟨v, e1, vs, e2, rfl⟩ := h2
    simp only [sizesOk, e1] at h1
    have hij : Nat.beq i j = true := by
      cases hb : Nat.beq i j with
      | true => rfl
      | false => rw [hb] at h1; cases h1
    rw [hij, cond_true] at h1
    have hk : Nat.beq (lenL v.cells) k = true := by
      cases hb : Nat.beq (lenL v.cells) k with
      | true => rfl
      | false => rw [hb] at h1; cases h1
    rw [hk, cond_true] at h1
    obtain ⟨us, p1, p2⟩ := sizesOk_row hs hg xs (Nat.succ j) vs h1 e2
    obtain ⟨ws, q1, q2⟩ := (aev_ok hs hg e1).cells'
    exact ⟨ws ++ us, ⟨a.eval x, ws, us, beqT.1 hij, ev_frOf hs e1, q1, by rw [q2.length, ← lenL_eq]; exact beqT.1 hk, p1, rfl⟩, q2.append p2⟩
theorem run_newRow {t : TypeId} {cs : Array Value} : (newRow t cs).run P w = .ok ⟨w.heap.size, 0, none⟩ { w with heap := w.heap.push (.cells cs t) } := by
  simp [newRow]
theorem repL_zero {z : List Value} {k n : Nat} (hz : z.length = k) : (Array.range (n * k)).map (fun x => z.toArray[x % z.toArray.size]!) = (repL n z).toArray := by
  induction n with
  | zero => simp [repL]
  | succ n ih =>
    apply Array.ext
    · have hrep : ∀ m, (repL m z).length = m * k := by
        intro m
        induction m with
        | zero => simp [repL]
        | succ m ih => simp [repL, ih, hz, Nat.add_mul]; omega
      simp [hrep]
    · intro i h1 h2
      have hk : 0 < k := by
        rcases Nat.eq_zero_or_pos k with e | e
        · subst e; simp at h1
        · exact e
      simp only [Array.getElem_map, Array.getElem_range, List.size_toArray, hz, List.getElem_toArray]
      have hget : ∀ m i (h : i < (repL m z).length), (repL m z)[i] = z[i % k]'(by rw [hz]; exact Nat.mod_lt _ hk) := by
        intro m
        induction m with
        | zero => intro i h; simp [repL] at h
        | succ m ihm =>
          intro i h
          simp only [repL]
          rw [List.getElem_append]
          split
          · rename_i hlt
            rw [hz] at hlt
            simp [Nat.mod_eq_of_lt hlt]
          · rename_i hge
            rw [ihm]
            congr 1
            rw [hz] at hge ⊢
            rw [← Nat.mod_eq_sub_mod (Nat.le_of_not_lt hge)]
      rw [hget]
      have : i % k < z.toArray.size := by simp [hz, Nat.mod_lt _ hk]
      rw [getElem!_pos z.toArray (i % k) this]
      simp
theorem push_modify (h : Array Obj) (x : Obj) (f : Obj → Obj) : (h.push x).modify h.size f = h.push (f x) := by
  apply Array.ext_getElem?
  intro i
  rw [Array.getElem?_modify, Array.getElem?_push, Array.getElem?_push]
  by_cases hi : i = h.size
  · subst hi; simp
  · have : ¬ h.size = i := fun e => hi e.symm
    simp [hi, this]
theorem opA_ok (hs : SlotsD ρ fr nt a.tmps) (hg : Glob ρ) {next : Nat} (hf : ρ next = none) (hf' : ρ.κ next = none) {v : AV} {ao : AO} (h : opA P fr next o.op = some (v, ao)) : NewR P ρ a w o next v ao := by
  obtain ⟨dst, op, type, pos, after, guard⟩ := o
  simp only at h
  have le := fun (c : Option Nat) => Nm.up_le (a := w.heap.size) (c := c) hf hf'
  unfold opA at h
  split at h
  · -- alloc
    simp only [Option.bind_eq_some_iff, Option.some.injEq, Prod.mk.injEq] at h
    obtain ⟨z, h1, rfl, rfl⟩ := h
    obtain ⟨l, hl, dl⟩ := zeroA_spec (ρ := ρ) h1
    obtain ⟨i, zv, hi, hz0, hc⟩ := zeroOf_spec hl
    refine ⟨ptr w.heap.size 0, .cells l.toArray _, { w with heap := w.heap.push (.cells l.toArray _) }, none, ?_, rfl, rfl, rfl, rfl, Nat.le_refl _, .ptr 0 Nm.up_at, .cells _ (dl.mono (le none))⟩
    unfold execOp
    simp [Instr.alloc, zeroValue, typeInfo, hi, hz0, newVar, newRow, hc]
  · -- box
    simp only [Option.bind_eq_some_iff, Option.some.injEq, Prod.mk.injEq] at h
    obtain ⟨vx, h1, rfl, rfl⟩ := h
    obtain ⟨us, e1, d1⟩ := (aev_ok hs hg h1).cells'
    refine ⟨ptr w.heap.size 0, .cells us.toArray _, { w with heap := w.heap.push (.cells us.toArray _) }, none, ?_, rfl, rfl, rfl, rfl, Nat.le_refl _, .ptr 0 Nm.up_at, .cells _ (d1.mono (le none))⟩
    unfold execOp
    simp [Instr.box, newVar, newRow, e1]
  · -- buildSlice
    rename_i t n ps
    simp only [Option.bind_eq_some_iff, bsome, bleT, beqT, lenL_eq, Option.some.injEq, Prod.mk.injEq] at h
    obtain ⟨⟨e, k, by_⟩, h1, h2, h3, h4, cs, h5, z, h6, h7, rfl, rfl⟩ := h
    obtain ⟨us, p1, p2⟩ := sizesOk_row hs hg ps.toList 0 cs h2 h5
    obtain ⟨l, hl, dl⟩ := zeroA_spec (ρ := ρ) h6
    have hlen : l.length = k := by rw [dl.length]; exact h7
    -- the run itself
    obtain ⟨hu, i0, hi, hk, _⟩ := elemOf?_spec h1
    obtain ⟨i, zv, hi', hz0, hc⟩ := zeroOf_spec hl
    rw [hi] at hi'; cases hi'
    have hfill := fill_row (a := a) (frOf_ok) ps.toList 0 us [] (repL n l) p1 (by simp) (by
      have : ∀ m, (repL m l).length = m * k := by
        intro m
        induction m with
        | zero => simp [repL]
        | succ m ih => simp [repL, ih, hlen, Nat.add_mul]; omega
      rw [this, h3])
    simp only [List.nil_append] at hfill
    refine ⟨.slice (some ⟨w.heap.size, 0, none⟩) n n, .cells us.toArray e, { w with heap := w.heap.push (.cells us.toArray e) }, none, ?_, rfl, rfl, rfl, rfl, Nat.le_refl _, .sl 0 n n n .exact Nm.up_at (Nat.le_refl _) (fun _ => rfl) (fun e => by cases e), .cells _ (p2.mono (le none))⟩
    unfold execOp
    have hparts : (ps.map fun (i, x) => (i, a.eval x)).toList = ps.toList.map fun (i, x) => (i, a.eval x) := by simp
    have hnot : ¬ (n * k > 2 ^ 24) := by
      have : (2 : Nat) ^ 24 = 16777216 := rfl
      have h4' : n * k ≤ 16777216 := h4
      omega
    simp only [Instr.buildSlice, Sem.run_bind, run_underlying' hu, Result.andThen_ok, sizeOf, typeInfo, run_program, hi, Sem.run_pure, hk, Sem.run_ite, hnot, if_false]
    by_cases h0 : n * k = 0
    · have hrep : repL n l = [] := by
        apply List.eq_nil_of_length_eq_zero
        have : ∀ m, (repL m l).length = m * k := by
          intro m
          induction m with
          | zero => simp [repL]
          | succ m ih => simp [repL, ih, hlen, Nat.add_mul]; omega
        rw [this, h0]
      rw [hrep] at hfill
      simp only [h0, if_true, Sem.run_pure, Result.andThen_ok, hparts]
      have h00 : (Array.range 0).map (fun x => (#[] : Array Value)[x % (#[] : Array Value).size]!) = #[] := by apply Array.ext <;> simp
      rw [h00, hfill]
      rfl
    · simp only [h0, if_false, zeroValue, typeInfo, Sem.run_bind, run_program, hi, Result.andThen_ok, Sem.run_pure, hz0, hc, hparts]
      rw [repL_zero hlen, hfill]
      rfl
  · -- convert
    rename_i src dt x
    simp only [Option.bind_eq_some_iff] at h
    obtain ⟨vx, h1, h2⟩ := h
    have dx := aev_ok hs hg h1
    obtain ⟨ux, hux⟩ : ∃ ux, a.eval x = ux := ⟨_, rfl⟩
    rw [hux] at dx
    split at h2
    · split at h2
      · rename_i hsrc
        simp only [Option.bind_eq_some_iff] at h2
        obtain ⟨⟨e, k, by_⟩, h3, h4⟩ := h2
        obtain ⟨hu, i0, hi, hk, _⟩ := elemOf?_spec h3
        split at h4
        · rename_i he
          simp only [Option.some.injEq, Prod.mk.injEq] at h4
          obtain ⟨rfl, rfl⟩ := h4
          cases dx with
          | str ba =>
            obtain ⟨cap, hcap⟩ : ∃ cap, cap = (Question.appendCap ba.size 0 e).cut (w.tape w.drawn (.appendCap ba.size 0 e)) := ⟨_, rfl⟩
            have hge : ba.size ≤ cap := by rw [hcap]; simp [Question.cut]
            let elems : List Value := ba.data.toList.map fun b => .int .u8 b.toNat
            let rest : List Value := List.replicate (cap - ba.size) (.int .u8 0)
            refine ⟨.slice (some ⟨w.heap.size, 0, none⟩) ba.size cap, .cells (elems ++ rest).toArray e (ba.size + (cap - ba.size), ba.size + (cap - ba.size) + 1), { w with drawn := w.drawn + 1, heap := w.heap.push (.cells (elems ++ rest).toArray e (ba.size + (cap - ba.size), ba.size + (cap - ba.size) + 1)) }, none, ?_, rfl, rfl, rfl, rfl, Nat.le_succ _, ?_, ?_⟩
            · unfold execOp
              have harr : (ba.data.map fun b => (Value.int .u8 b.toNat)) ++ Array.replicate (cap - ba.size) (Value.int .u8 0) = (elems ++ rest).toArray := by
                apply Array.toList_inj.1; simp [elems, rest]
              have hsz : (elems ++ rest).toArray.size = ba.size + (cap - ba.size) := by
                have : ba.data.toList.length = ba.size := by rw [Array.length_toList]; rfl
                simp [elems, rest]
              have hfz : ∀ (k : Nat → Sem Value), True := fun _ => trivial
              simp only [hux, convert, Sem.run_bind, run_underlying' hsrc, run_underlying' hu, run_underlying' he, Result.andThen_ok, Conv.stringToBytes, choose, Sem.run, Question.forced, Bool.false_eq_true, if_false, Result.andThen_ok, newRow, newObj]
              rw [← hcap, harr]
              simp only [markStringish, shape, freeze, Sem.run_bind, Sem.run, Result.andThen_ok, World.shape?, Array.getElem?_push_size, World.freeze, Nat.one_ne_zero, if_false, hsz, Sem.run_pure]
              simp [push_modify]
            · have hl : lenL (ba.data.toList.map UInt8.toNat) = ba.size := by rw [lenL_eq, List.length_map, Array.length_toList]; rfl
              rw [hl]
              exact .sl 0 ba.size ba.size cap .part Nm.up_at hge (fun e => by cases e) (fun e => by cases e)
            · refine .ro e e rest _ ?_
              have : ∀ l : List UInt8, DenL (ρ.up next w.heap.size none) ((l.map UInt8.toNat).map fun b => AV.int .u8 (.ofNat b)) (l.map fun b => .int .u8 b.toNat) := by
                intro l
                induction l with
                | nil => exact .nil
                | cons b l ih => exact .cons (.int _ _) ih
              exact this _
        · cases h4
      · cases h2
    · cases h2
  · -- makeMap
    rename_i t
    simp only [Option.some.injEq, Prod.mk.injEq] at h
    obtain ⟨rfl, rfl⟩ := h
    refine ⟨.map (some w.heap.size), .map #[] 0, { w with heap := w.heap.push (.map #[] 0) }, none, ?_, rfl, rfl, rfl, rfl, Nat.le_refl _, .mp Nm.up_at, ?_⟩
    · unfold execOp; simp [Instr.makeMap]
    · have := DenO.map (ρ := ρ.up next w.heap.size none) (.nil 0)
      exact this
  · -- makeSlice
    rename_i t lo co
    simp only [Option.bind_eq_some_iff, bsome, bleT, beqT, lenL_eq, Option.some.injEq, Prod.mk.injEq] at h
    obtain ⟨lv, h1, l, h2, cv, h3, c, h4, ⟨e, k, by_⟩, h5, z, h6, h7, h8, h9, h10, rfl, rfl⟩ := h
    obtain ⟨q1, e1⟩ := den_nat (aev_ok hs hg h1) h2
    obtain ⟨q2, e2⟩ := den_nat (aev_ok hs hg h3) h4
    obtain ⟨hu, i0, hi, hk, hby⟩ := elemOf?_spec h5
    obtain ⟨zl, hl, dl⟩ := zeroA_spec (ρ := ρ) h6
    obtain ⟨i, zv, hi', hz0, hc⟩ := zeroOf_spec hl
    rw [hi] at hi'; cases hi'
    have hzl : zl.length = k := by rw [dl.length]; exact h10
    simp only at h9
    refine ⟨.slice (some ⟨w.heap.size, 0, none⟩) l c, .cells (repL c zl).toArray e, { w with heap := w.heap.push (.cells (repL c zl).toArray e) }, none, ?_, rfl, rfl, rfl, rfl, Nat.le_refl _, .sl 0 l c c .exact Nm.up_at (Nat.le_refl _) (fun _ => rfl) (fun e => by cases e), .cells _ ((dl.rep c).mono (le none))⟩
    unfold execOp
    have hwl : IntKind.i64.wrap (l : Int) = (l : Int) := IntWalk.i64_in _ (by omega)
    have hwc : IntKind.i64.wrap (c : Int) = (c : Int) := IntWalk.i64_in _ (by omega)
    have hprod : by_ * c ≤ 1000000 * 1000000 := Nat.mul_le_mul h9 h8
    have htl : ¬ ((c : Int) < 0 ∨ (i0.bytes : Int) * (c : Int) > 2 ^ 48) := by
      rw [hby]
      have h1 : ((by_ : Int) * (c : Int)) = ((by_ * c : Nat) : Int) := by simp
      rw [h1]
      have h2 : (2 : Int) ^ 48 = 281474976710656 := by decide
      rw [h2]; omega
    have hcond : ((decide ((c : Int) < 0) || decide ((i0.bytes : Int) * (c : Int) > 2 ^ 48)) || decide ((l : Int) < 0) || decide ((l : Int) > (c : Int))) = false := by
      simp only [Bool.or_eq_false_iff, decide_eq_false_iff_not]
      exact ⟨⟨⟨fun h => htl (.inl h), fun h => htl (.inr h)⟩, by omega⟩, by omega⟩
    have hmk : (Instr.makeSlice t (.int q1 (l : Int)) (.int q2 (c : Int))).run P w = .ok (.slice (some ⟨w.heap.size, 0, none⟩) l c) { w with heap := w.heap.push (.cells (repL c zl).toArray e) } := by
      unfold Instr.makeSlice
      simp only [Sem.run_bind, run_underlying' hu, Result.andThen_ok, asInt, asIntOf, Sem.run_pure, typeInfo, run_program, hi, hwl, hwc]
      simp only [hcond, Bool.false_eq_true, if_false, Sem.run_bind, run_askRoom, Result.andThen_ok, sizeOf, typeInfo, run_program, hi, Sem.run_pure, Int.toNat_natCast, hk]
      by_cases h0 : c * k = 0
      · have hrep : repL c zl = [] := by
          apply List.eq_nil_of_length_eq_zero
          have : ∀ m, (repL m zl).length = m * k := by
            intro m
            induction m with
            | zero => simp [repL]
            | succ m ih => simp [repL, ih, hzl, Nat.add_mul]; omega
          rw [this, h0]
        have h00 : (Array.range 0).map (fun x => (#[] : Array Value)[x % (#[] : Array Value).size]!) = #[] := by apply Array.ext <;> simp
        simp only [h0, if_true, Sem.run_bind, Sem.run_pure, Result.andThen_ok, h00, run_newRow, hrep]
      · simp only [h0, if_false, Sem.run_bind, zeroValue, typeInfo, run_program, hi, Result.andThen_ok, Sem.run_pure, hz0, hc]
        rw [repL_zero hzl]
        simp only [run_newRow, Result.andThen_ok]
    simp only [e1, e2, Sem.run_bind, hmk, Result.andThen_ok, Sem.run_pure]
  · cases h
end
end Go.Mesh
/-
  A RUN THAT THE KERNEL RECKONS: what a run leaves of the memory that was there (no model in sight).
-/
set_option linter.all false
namespace Go.Mesh
open Go.RowKit
set_option linter.unusedSimpArgs false
set_option linter.unusedVariables false

abbrev Lg := List (Nat × Nat × Nat)
/-- a block that may be written -/
def wrt (o : Option AO) : Prop := o ≠ none ∧ o ≠ some .defd
structure HpF (l : Lg) (s s' : St) : Prop where
  next : s.next ≤ s'.next
  log : s'.log = l ++ s.log
  low : ∀ e, e ∈ l → n0 ≤ e.1
  same : ∀ n, n < s.next → (∀ e, e ∈ l → e.1 ≠ n) → s'.hp.get n = s.hp.get n
  part : ∀ n off k, n < s.next → (∀ e, e ∈ l → hit (n, off, k) e = false) → s'.hp.get n = s.hp.get n ∨ ∃ o o', s.hp.get n = some o ∧ s'.hp.get n = some o' ∧ agree off k o o'
  dom : (∀ n, s.next ≤ n → s.hp.get n = none) → ∀ n, s'.next ≤ n → s'.hp.get n = none
  live : ∀ e, e ∈ l → e.1 < s.next → wrt (s.hp.get e.1)
  hi : ∀ e, e ∈ l → e.1 < s'.next

theorem agree.trans {off k : Nat} {a b c : AO} (x : agree off k a b) (y : agree off k b c) : agree off k a c := by
  rcases x with rfl | ⟨c1, c2, e1, e2, l1, h1⟩
  · exact y
  · rcases y with rfl | ⟨d1, d2, f1, f2, l2, h2⟩
    · exact .inr ⟨c1, c2, e1, e2, l1, h1⟩
    · rw [e2] at f1; cases f1
      exact .inr ⟨c1, d2, e1, f2, l1.trans l2, fun i a b => (h1 i a b).trans (h2 i a b)⟩
theorem HpF.refl (s : St) : HpF [] s s := ⟨Nat.le_refl _, rfl, fun _ h => (by cases h), fun _ _ _ => rfl, fun _ _ _ _ _ => .inl rfl, fun h => h, fun _ h => (by cases h), fun _ h => (by cases h)⟩
/-- the frame's slots do not matter -/
theorem HpF.of {l : Lg} {s s' t t' : St} (x : HpF l s s') (h1 : t.next = s.next) (h2 : t.hp = s.hp) (h3 : t.log = s.log) (h1' : t'.next = s'.next) (h2' : t'.hp = s'.hp) (h3' : t'.log = s'.log) : HpF l t t' := by
  obtain ⟨a, b, c, d, e, f, g, i⟩ := x
  exact ⟨by rw [h1, h1']; exact a, by rw [h3, h3']; exact b, c, by rw [h1, h2, h2']; exact d, by rw [h1, h2, h2']; exact e, by rw [h1, h2, h1', h2']; exact f, by rw [h1, h2]; exact g, by rw [h1']; exact i⟩
theorem HpF.trans {l m : Lg} {s s1 s2 : St} (x : HpF l s s1) (y : HpF m s1 s2) : HpF (m ++ l) s s2 where
  next := Nat.le_trans x.next y.next
  log := by rw [y.log, x.log, List.append_assoc]
  low := fun e he => (List.mem_append.1 he).elim (y.low e) (x.low e)
  same := fun n hn h => by
    rw [y.same n (Nat.lt_of_lt_of_le hn x.next) fun e he => h e (List.mem_append_left _ he), x.same n hn fun e he => h e (List.mem_append_right _ he)]
  part := fun n off k hn h => by
    have h1 := x.part n off k hn fun e he => h e (List.mem_append_right _ he)
    have h2 := y.part n off k (Nat.lt_of_lt_of_le hn x.next) fun e he => h e (List.mem_append_left _ he)
    rcases h1 with e1 | ⟨o, o1, e1, e2, ag⟩
    · rcases h2 with e3 | ⟨o2, o3, e3, e4, ag2⟩
      · exact .inl (e3.trans e1)
      · exact .inr ⟨o2, o3, by rw [← e1]; exact e3, e4, ag2⟩
    · rcases h2 with e3 | ⟨o2, o3, e3, e4, ag2⟩
      · exact .inr ⟨o, o1, e1, by rw [e3]; exact e2, ag⟩
      · rw [e2] at e3; cases e3
        exact .inr ⟨o, o3, e1, e4, ag.trans ag2⟩
  dom := fun h => y.dom (x.dom h)
  live := fun e he hn => by
    rcases List.mem_append.1 he with he | he
    · have h1 := y.live e he (Nat.lt_of_lt_of_le hn x.next)
      by_cases hx : ∃ e', e' ∈ l ∧ e'.1 = e.1
      · obtain ⟨e', he', e1⟩ := hx
        have := x.live e' he' (by rw [e1]; exact hn)
        rw [e1] at this; exact this
      · rw [x.same e.1 hn fun e' he' e1 => hx ⟨e', he', e1⟩] at h1; exact h1
    · exact x.live e he hn
  hi := fun e he => (List.mem_append.1 he).elim (y.hi e) fun h => Nat.lt_of_lt_of_le (x.hi e h) y.next
theorem HpF.new (s : St) (o : AO) : HpF [] s (s.new o) where
  next := Nat.le_succ _
  log := rfl
  low := fun _ h => by cases h
  same := fun n hn _ => by simp only [St.new, Tr.get_set]; rw [if_neg (by omega)]
  part := fun n off k hn _ => .inl (by simp only [St.new, Tr.get_set]; rw [if_neg (by omega)])
  dom := fun h n hn => by
    have hn : Nat.succ s.next ≤ n := hn
    simp only [St.new, Tr.get_set]; rw [if_neg (by omega)]; exact h n (by omega)
  live := fun _ h => by cases h
  hi := fun _ h => by cases h
theorem upd_spec {s s' : St} {n off k : Nat} {o : Option AO} (h : s.upd n off k o = some s') : n0 ≤ n ∧ n < s.next ∧ s' = { s with hp := s.hp.set n o, log := (n, off, k) :: s.log } := by
  simp only [St.upd, bsome, bleT, bltT, Bool.and_eq_true, Option.some.injEq] at h
  exact ⟨h.1.1, h.1.2, h.2.symm⟩
/-- a block is given a new content, of which some cells are as they were -/
theorem HpF.upd {s s' : St} {n off k : Nat} {o : Option AO} (h : s.upd n off k o = some s') (hl : wrt (s.hp.get n))
    (hp : ∀ off' k', hit (n, off', k') (n, off, k) = false → ∃ o1 o2, s.hp.get n = some o1 ∧ o = some o2 ∧ agree off' k' o1 o2) : HpF [(n, off, k)] s s' := by
  obtain ⟨h1, h0, rfl⟩ := upd_spec h
  refine ⟨Nat.le_refl _, rfl, ?_, ?_, ?_, ?_, fun e he _ => (by simp at he; subst he; exact hl), fun e he => (by simp at he; subst he; exact h0)⟩
  · intro e he; simp at he; subst he; exact h1
  · intro m hm hne
    simp only [Tr.get_set]
    rw [if_neg fun e => hne (n, off, k) (by simp) e.symm]
  · intro m off' k' hm hh
    by_cases e : m = n
    · subst e
      obtain ⟨o1, o2, e1, e2, ag⟩ := hp off' k' (hh _ (by simp))
      exact .inr ⟨o1, o2, e1, by simp [Tr.get_set, e2], ag⟩
    · exact .inl (by simp only [Tr.get_set]; rw [if_neg e])
  · intro hall m hm
    simp only [Tr.get_set]
    rw [if_neg (by show ¬ m = n; have : s.next ≤ m := hm; omega)]
    exact hall m hm
theorem hit_whole {n off k : Nat} : hit (n, off, k) (n, 0, big) = true := by unfold hit; simp

section
variable {P : Program}
theorem St.put_spec {s s' : St} {d : Option Tmp} {v : AV} (h : s.put d v = some s') : s'.nt = s.nt ∧ s'.next = s.next ∧ s'.hp = s.hp ∧ s'.log = s.log ∧ (∀ i, d = some i → i < s.nt ∧ s'.fr = s.fr.set i (some v)) ∧ (d = none → s'.fr = s.fr) := by
  unfold St.put at h
  cases d with
  | none => simp only [Option.some.injEq] at h; subst h; simp
  | some d =>
    simp only [bsome, bltT, Option.some.injEq] at h
    obtain ⟨h1, rfl⟩ := h
    simp [h1]
theorem HpF.put {s s' : St} {d : Option Tmp} {v : AV} (h : s.put d v = some s') : HpF [] s s' := by
  obtain ⟨_, h1, h2, h3, _⟩ := St.put_spec h
  exact (HpF.refl s).of rfl rfl rfl h1 h2 h3
theorem setCells_spec {s s' : St} {n off : Nat} {vs : List AV} (h : setCells s n off vs = some s') : onesA vs = true ∧ 0 < vs.length ∧ ∃ cs o', (∃ o, s.hp.get n = some o ∧ o.cs? = some cs ∧ off + vs.length ≤ cs.length ∧ o'.cs? = some (putL cs off vs) ∧ ((∃ t, o = .cells cs t ∧ o' = .cells (putL cs off vs) t) ∨ (∃ t k me, o = .row cs t k me ∧ o' = .row (putL cs off vs) t k me))) ∧ s.upd n off vs.length (some o') = some s' := by
  unfold setCells at h
  simp only [bsome, Bool.and_eq_true, bltT, lenL_eq] at h
  obtain ⟨⟨h1, h2⟩, h3⟩ := h
  refine ⟨h1, h2, ?_⟩
  split at h3
  · rename_i cs t e
    simp only [bsome, bleT] at h3
    exact ⟨cs, _, ⟨_, e, rfl, h3.1, rfl, .inl ⟨t, rfl, rfl⟩⟩, h3.2⟩
  · rename_i cs t k me e
    simp only [bsome, bleT] at h3
    exact ⟨cs, _, ⟨_, e, rfl, h3.1, rfl, .inr ⟨t, k, me, rfl, rfl⟩⟩, h3.2⟩
  · cases h3
theorem putL_get {α : Type} {cs vs : List α} {off i : Nat} (h : off + vs.length ≤ cs.length) (hi : i < off ∨ off + vs.length ≤ i) : (putL cs off vs)[i]? = cs[i]? := by
  rw [putL_eq _ _ _ h]
  rcases hi with hi | hi
  · rw [List.append_assoc, List.getElem?_append_left (by simp; omega), List.getElem?_take, if_pos hi]
  · rw [List.getElem?_append_right (by simp; omega)]
    simp only [List.length_append, List.length_take, List.getElem?_drop]
    congr 1; omega
theorem putL_length {α : Type} {cs vs : List α} {off : Nat} (h : off + vs.length ≤ cs.length) : (putL cs off vs).length = cs.length := by
  rw [putL_eq _ _ _ h]; simp; omega
theorem HpF.cells {s s' : St} {n off : Nat} {vs : List AV} (h : setCells s n off vs = some s') : HpF [(n, off, vs.length)] s s' := by
  obtain ⟨h1, h2, cs, o', ⟨o, e1, e2, e3, e4, _⟩, h3⟩ := setCells_spec h
  refine HpF.upd h3 (by rw [e1]; exact ⟨by simp, fun h => by cases h; cases e2⟩) fun off' k' hh => ?_
  · refine ⟨o, o', e1, rfl, .inr ⟨cs, putL cs off vs, e2, e4, (putL_length e3).symm, fun c h5 h6 => ?_⟩⟩
    refine (putL_get e3 ?_).symm
    unfold hit at hh
    simp only [bq, if_true] at hh
    split at hh
    · cases hh
    split at hh
    · cases hh
    cases hb : Nat.blt off' (Nat.add off vs.length) with
    | false =>
      have : ¬ off' < off + vs.length := fun hl => by rw [show Nat.blt off' (Nat.add off vs.length) = true from bltT.2 hl] at hb; cases hb
      omega
    | true =>
      rw [hb, cond_true] at hh
      have : ¬ off < off' + k' := fun hl => by rw [show Nat.blt off (Nat.add off' k') = true from bltT.2 hl] at hh; cases hh
      omega
/-- the whole of a block -/
theorem HpF.whole {s s' : St} {n : Nat} {o : Option AO} (h : s.upd n 0 big o = some s') (hl : wrt (s.hp.get n)) : HpF [(n, 0, big)] s s' :=
  HpF.upd h hl fun _ _ e => by rw [hit_whole] at e; cases e

/-! ### All that is run -/
def HasF (s s' : St) : Prop := ∃ l, HpF l s s'
theorem HasF.refl (s : St) : HasF s s := ⟨_, .refl s⟩
theorem HasF.trans {s s1 s2 : St} (x : HasF s s1) (y : HasF s1 s2) : HasF s s2 := let ⟨_, a⟩ := x; let ⟨_, b⟩ := y; ⟨_, a.trans b⟩
theorem HasF.put {s s' : St} {d : Option Tmp} {v : AV} (h : s.put d v = some s') : HasF s s' := ⟨_, .put h⟩
theorem HasF.of {s s' t t' : St} (x : HasF s s') (h1 : t.next = s.next) (h2 : t.hp = s.hp) (h3 : t.log = s.log) (h1' : t'.next = s'.next) (h2' : t'.hp = s'.hp) (h3' : t'.log = s'.log) : HasF t t' := let ⟨l, a⟩ := x; ⟨l, a.of h1 h2 h3 h1' h2' h3'⟩
theorem appendA_f {s s' : St} {t : TypeId} {x y v : AV} (h : appendA P s t x y = some (v, s')) : HasF s s' := by
  unfold appendA at h
  simp only [Option.bind_eq_some_iff, bsome] at h
  obtain ⟨e, _, z, _, _, q, _, _, _, h⟩ := h
  split at h
  · cases hb : Nat.beq q.1 0 with
    | true => rw [hb] at h; cases h; exact .refl _
    | false => rw [hb] at h; cases h; exact ⟨_, .new _ _⟩
  · rename_i n off len cap ex
    cases hb : Nat.ble (Nat.add len q.1) cap with
    | true =>
      rw [hb, cond_true] at h
      cases hb2 : Nat.beq q.1 0 with
      | true => rw [hb2] at h; cases h; exact .refl _
      | false =>
        rw [hb2, cond_false, Option.bind_eq_some_iff] at h
        obtain ⟨s1, h1, h2⟩ := h
        cases h2
        exact ⟨_, .cells h1⟩
    | false =>
      rw [hb, cond_false, bsome] at h
      obtain ⟨_, h⟩ := h
      cases hx : ex.isExact with
      | true =>
        rw [hx, cond_true, Option.bind_eq_some_iff] at h
        obtain ⟨p, _, h2⟩ := h
        cases h2; exact ⟨_, .new _ _⟩
      | false =>
        rw [hx, cond_false] at h
        split at h
        · rename_i cs bt k me e1
          simp only [bsome, Option.bind_eq_some_iff] at h
          obtain ⟨_, _, _, s1, h1, h2⟩ := h
          cases h2
          exact .trans ⟨_, .whole h1 (by rw [e1]; exact ⟨by simp, by simp⟩)⟩ ⟨_, .new _ _⟩
        · cases h
  · cases h
theorem mapOf_some {hp : Tr AO} {n : Nat} {es : List (AV × AV)} (h : mapOf hp n = some es) : hp.get n = some (.map es) := mapOf_get h
theorem opW_f {s s' : St} {op : Op} {v : AV} (h : opW P s op = some (v, s')) : HasF s s' := by
  unfold opW at h
  split at h
  · simp only [wStore, Option.bind_eq_some_iff, bsome, Option.some.injEq, Prod.mk.injEq] at h
    obtain ⟨_, _, q, _, u, _, g, _, _, s1, h1, _, rfl⟩ := h
    exact ⟨_, .cells h1⟩
  · simp only [wMapUpdate, Option.bind_eq_some_iff, bsome, Option.some.injEq, Prod.mk.injEq] at h
    obtain ⟨_, _, n, _, es, h1, _, _, _, _, _, _, _, es', _, s1, h2, _, rfl⟩ := h
    exact ⟨_, .whole h2 (by rw [mapOf_some h1]; exact ⟨by simp, by simp⟩)⟩
  · simp only [wRange, Option.bind_eq_some_iff, Option.some.injEq, Prod.mk.injEq] at h
    obtain ⟨_, _, _, _, _, _, _, _, _, rfl⟩ := h
    exact ⟨_, .new _ _⟩
  · simp only [wNext, Option.bind_eq_some_iff, bsome] at h
    obtain ⟨_, _, p, _, _, h⟩ := h
    split at h
    · rename_i m n seen e1
      simp only [Option.bind_eq_some_iff] at h
      obtain ⟨es, _, h⟩ := h
      split at h
      · simp only [Option.bind_eq_some_iff, Option.some.injEq, Prod.mk.injEq] at h
        obtain ⟨s1, h1, _, rfl⟩ := h
        exact ⟨_, .whole h1 (by rw [e1]; exact ⟨by simp, by simp⟩)⟩
      · cases h; exact .refl _
      · cases h; exact .refl _
      · cases h
    · cases h
  · simp only [wEntry, Option.bind_eq_some_iff, bsome] at h
    obtain ⟨_, _, p, _, _, h⟩ := h
    split at h
    · simp only [Option.bind_eq_some_iff] at h
      obtain ⟨es, _, h⟩ := h
      split at h
      · cases h; exact .refl _
      · cases h
    · cases h
  · split at h
    · unfold wAppend at h
      split at h
      · simp only [bsome, Option.bind_eq_some_iff] at h
        obtain ⟨_, _, _, _, _, h⟩ := h
        exact appendA_f h
      · cases h
    · unfold wClear at h
      split at h
      · simp only [Option.bind_eq_some_iff] at h
        obtain ⟨_, _, h⟩ := h
        split at h
        · rename_i n off len cap ex _
          simp only [Option.bind_eq_some_iff, bsome] at h
          obtain ⟨e, _, z, _, _, h⟩ := h
          cases hb : Nat.beq len 0 with
          | true => rw [hb] at h; cases h
          | false =>
            rw [hb, cond_false, Option.bind_eq_some_iff] at h
            obtain ⟨s1, h1, h2⟩ := h
            cases h2
            exact ⟨_, .cells h1⟩
        · cases h
      · cases h
    · unfold wCopy at h
      split at h
      · simp only [Option.bind_eq_some_iff] at h
        obtain ⟨_, _, _, _, h⟩ := h
        split at h
        · simp only [Option.bind_eq_some_iff] at h
          obtain ⟨_, _, h⟩ := h
          cases h; exact .refl _
        · cases h
      · cases h
    · cases h
  · cases h

variable {call : CallA} (hc : ∀ f vs s v s', call f vs s = some (v, s') → HasF s s')
include hc
theorem stepO_f {s s' : St} {o : Oper} (h : stepO P call s o = some s') : HasF s s' := by
  unfold stepO at h
  split at h
  · exact .put h
  · split at h
    · exact .trans ⟨_, .new _ _⟩ (.put h)
    · unfold stepW at h
      split at h
      · simp only [stepC, Option.bind_eq_some_iff] at h
        obtain ⟨q, h1, ⟨v, s1⟩, h2, h3⟩ := h
        exact .trans (hc _ _ _ _ _ h2) ((HasF.put h3).of rfl rfl rfl rfl rfl rfl)
      · simp only [Option.bind_eq_some_iff] at h
        obtain ⟨⟨v, s1⟩, h1, h2⟩ := h
        exact .trans (opW_f h1) (.put h2)
theorem stepG_f {s s' : St} {ops : List Oper} {o : Oper} (h : stepG P call ops s o = some s') : HasF s s' := by
  simp only [stepG, Option.bind_eq_some_iff] at h
  obtain ⟨b, _, h⟩ := h
  cases b with
  | true => exact stepO_f hc h
  | false => exact .put h
theorem runOps_f {ops : List Oper} : ∀ {rest : List Oper} {s s' : St}, runOps P call ops rest s = some s' → HasF s s'
  | [], s, s', h => by simp only [runOps, Option.some.injEq] at h; subst h; exact .refl _
  | o :: rest, s, s', h => by
    simp only [runOps, Option.bind_eq_some_iff] at h
    obtain ⟨s1, h1, h2⟩ := h
    exact .trans (stepG_f hc h1) (runOps_f h2)
theorem stepR_f {s s' : St} {ops : List Oper} {o : Oper} (h : stepR P call ops s o = some s') : HpF s'.log s { s' with log := s'.log ++ s.log } := by
  simp only [stepR, Option.bind_eq_some_iff, Option.some.injEq] at h
  obtain ⟨s1, h1, rfl⟩ := h
  obtain ⟨l, a, b, c, d, e, f, g, i⟩ := stepG_f hc h1
  have hl : l = s1.log := by simpa using b.symm
  subst hl
  exact ⟨a, rfl, c, d, e, f, g, i⟩
theorem runD_f {ops : List Oper} (rest : List Oper) : ∀ (s s' : St) (ws : List RW), runD P call ops rest s = some (s', ws) → HasF s s' := by
  induction rest with
  | nil => intro s s' ws h; simp only [runD, Option.some.injEq, Prod.mk.injEq] at h; obtain ⟨rfl, _⟩ := h; exact .refl _
  | cons o rest ih =>
    intro s s' ws h
    simp only [runD, Option.bind_eq_some_iff, Option.some.injEq, Prod.mk.injEq] at h
    obtain ⟨s1, h1, ⟨s2, ws2⟩, h2, rfl, _⟩ := h
    exact .trans ⟨_, stepR_f hc h1⟩ (ih _ _ _ h2)
theorem runReg_f {ops : List Oper} {d : Bool} {s s' : St} (h : runReg P call ops d s = some s') : HasF s s' := by
  unfold runReg at h
  cases d with
  | true =>
    simp only [cond_true, bsome, Option.bind_eq_some_iff, Option.some.injEq] at h
    obtain ⟨_, ⟨s1, ws⟩, h1, _, rfl⟩ := h
    exact runD_f hc _ _ _ _ h1
  | false => exact runOps_f hc h
def Rs.F (s : St) : Rs → Prop
  | .bad => True
  | .nrm s' => HasF s s'
  | .ret s' => HasF s s'
  | .ext _ s' => HasF s s'
omit hc in
theorem Rs.F.trans {s s1 : St} (x : HasF s s1) : ∀ {r : Rs}, Rs.F s1 r → Rs.F s r
  | .bad, _ => trivial
  | .nrm _, y => HasF.trans x y
  | .ret _, y => HasF.trans x y
  | .ext _ _, y => HasF.trans x y
omit hc in
theorem endY_f {s s' : St} {l : Nat} {st : LoopState} {pe : Option Code} {b : Bool} {v : AV} (h : endY s l st pe b = some (v, s')) : HasF s s' := by
  unfold endY at h
  split at h
  · rename_i e1
    simp only [Option.bind_eq_some_iff, Option.some.injEq, Prod.mk.injEq] at h
    obtain ⟨s4, h4, _, rfl⟩ := h
    exact ⟨_, .whole h4 (by rw [e1]; exact ⟨by simp, by simp⟩)⟩
  · cases h
omit hc in
theorem begY_f {s s' : St} {l : Nat} (h : begY s l = some s') : HasF s s' := by
  unfold begY at h
  split at h
  · rename_i e1
    exact ⟨_, .whole h (by rw [e1]; exact ⟨by simp, by simp⟩)⟩
  · cases h
omit hc in
theorem endL_f {s0 s : St} {l : Nat} : Rs.F s (endL s0 s l) := by
  have key : ∀ {o : AO}, s.hp.get l = some o → o ≠ .defd → ∀ s', s.upd l 0 big none = some s' → HasF s { s' with fr := s0.fr, nt := s0.nt } := fun e hne s' h =>
    HasF.of ⟨_, .whole h (by rw [e]; exact ⟨by simp, fun h => hne (by simpa using h)⟩)⟩ rfl rfl rfl rfl rfl rfl
  unfold endL
  split
  · rename_i e
    split
    · exact key e (by simp) _ (by assumption)
    · trivial
  · rename_i e
    split
    · exact key e (by simp) _ (by assumption)
    · trivial
  · rename_i e
    split
    · exact key e (by simp) _ (by assumption)
    · trivial
  · trivial
theorem runC_f {rf : Bool} : ∀ (n : Nat) (c : Code) (s : St), Rs.F s (runC P call rf n c s) := by
  intro n
  induction n with
  | zero => intro c s; exact trivial
  | succ n ih =>
    intro c s
    cases c <;> simp only [runC]
    case skip => exact HasF.refl s
    case region id ops d =>
      split
      · exact runReg_f hc ‹_›
      · trivial
    case seq a b =>
      have h := ih a s
      split
      · rename_i s' e; rw [e] at h; exact .trans h (ih b s')
      · exact h
    case cond c x y =>
      split
      · rename_i b _; cases b <;> exact ih _ s
      · trivial
    case block id c =>
      have h := ih c s
      split
      · rename_i k s' e
        rw [e] at h
        cases hb : Nat.beq k id <;> exact h
      · exact h
    case loop c =>
      have h := ih c s
      split
      · rename_i s' e; rw [e] at h; exact .trans h (ih _ s')
      · exact h
    case exit id => exact HasF.refl s
    case ret => exact HasF.refl s
    case rangeFunc f ps asg body =>
      cases rf with
      | false => trivial
      | true =>
        rw [cond_true]
        split
        · rename_i fv _
          cases bodied P fv with
          | false => trivial
          | true =>
            rw [cond_true]
            split
            · rename_i v s' e
              exact .trans (.trans (.trans ⟨_, .new s _⟩ ⟨_, .new _ _⟩) (hc _ _ _ _ _ e)) endL_f
            · trivial
        · trivial
    all_goals trivial
omit hc in
theorem runF_f {ib cl : FuncId} {M : FuncId → List AV → St → Option (AV × St)} (hM : ∀ f vs s v s', M f vs s = some (v, s') → HasF s s') : ∀ (n : Nat) (f : AV) (vs : List AV) (s : St) (v : AV) (s' : St), runF P ib cl M n f vs s = some (v, s') → HasF s s' := by
  intro n
  induction n with
  | zero => intro f vs s v s' h; cases h
  | succ n ih =>
    intro f vs s v s' h
    have hend : ∀ {fn : Func} {s1 : St}, endF P fn s1 = some (v, s') → s' = s1 := by
      intro fn s1 h
      simp only [endF, Option.bind_eq_some_iff, Option.some.injEq, Prod.mk.injEq] at h
      obtain ⟨_, _, _, rfl⟩ := h; rfl
    unfold runF at h
    split at h
    · rename_i g first cap
      split at h
      · rename_i r e; cases h; exact hM _ _ _ _ _ e
      · simp only [Option.bind_eq_some_iff] at h
        obtain ⟨fn, _, h⟩ := h
        split at h
        · rename_i c _
          simp only [bsome] at h
          obtain ⟨_, h⟩ := h
          have hr := runC_f (P := P) (rf := true) ih 3000 c { s with fr := argFrA (first ++ (vs ++ cap)) 0 .lf, nt := fn.ntmps }
          split at h
          · rename_i s1 e; rw [e] at hr; rw [hend h]; exact HasF.of hr rfl rfl rfl rfl rfl rfl
          · rename_i s1 e; rw [e] at hr; rw [hend h]; exact HasF.of hr rfl rfl rfl rfl rfl rfl
          · cases h
        · unfold extA at h
          cases h1 : Nat.beq g ib with
          | true =>
            rw [h1, cond_true] at h
            split at h
            · rw [bsome] at h; cases h.2; exact .refl _
            · cases h
          | false =>
            rw [h1, cond_false, bsome] at h
            obtain ⟨_, h⟩ := h
            split at h
            · simp only [Option.bind_eq_some_iff, Option.some.injEq, Prod.mk.injEq] at h
              obtain ⟨_, _, _, rfl⟩ := h
              exact ⟨_, .new _ _⟩
            · cases h
    · rename_i l
      split at h
      · rename_i fr nt ps asg body d _ _ e0
        simp only [Option.bind_eq_some_iff] at h
        obtain ⟨fr', _, h⟩ := h
        have hr := runC_f (P := P) (rf := false) ih 3000 asg { s with fr := fr', nt := nt }
        split at h
        · rename_i s1 e1
          rw [e1] at hr
          have hr' : HasF s s1 := HasF.of hr rfl rfl rfl rfl rfl rfl
          simp only [Option.bind_eq_some_iff] at h
          obtain ⟨s2, h2, h⟩ := h
          have hu : HasF s1 s2 := begY_f h2
          have hb := runC_f (P := P) (rf := false) ih 3000 body s2
          split at h
          · rename_i s3 e3
            rw [e3] at hb
            exact .trans hr' (.trans hu (.trans hb (endY_f h)))
          · rename_i s3 e3
            rw [e3] at hb
            exact .trans hr' (.trans hu (.trans hb (endY_f h)))
          · rename_i id s3 e3
            rw [e3] at hb
            exact .trans hr' (.trans hu (.trans hb (endY_f h)))
          · cases h
        · cases h
      · cases h
    · cases h
end
end Go.Mesh
