/-
  PLAIN: what a graph reaches.
-/
import Derived.Test.YtfhoecgiahpddaaGreatRules6
set_option linter.all false
namespace Go.Proofs.YtfhoecgiahpddaaGreat
open Go.Mesh Go.RowKit
set_option maxRecDepth 100000
set_option linter.unusedVariables false
set_option maxHeartbeats 4000000
attribute [local irreducible] WP OPS ANY ANYo LG LV FSpec PSpec QOP OPc OPw thenQ blockQ roundQ roundF retQ retM Rd At SLB OS cmpI orI cmpID namedB valB nodeB kindB validG valAux idxI findG zeroV viewOf vwAt idxOf recv flyB scionOf moveOf numberedOf idOf valueOf mget mput localB carriedB stubOf followF followOf flOf flightsOf flPre setL minusL compactL putI mergeN insN insAll unionR NMap Coll retN bodyS
/-- the references of fields -/
def refsV (fs : List Val) : List ID := (fs.filter fun x => decide (x.1 = 2)).map fun x => x.2.2
/-- the references that are followed -/
def refsOf (n : Nd) : List ID := if n.kind = 2 then [] else refsV n.fields
theorem refsOf_weak {n : Nd} (h : n.kind = 2) : refsOf n = [] := by rw [refsOf, if_pos h]
theorem refsOf_plain {n : Nd} (h : ¬ n.kind = 2) : refsOf n = refsV n.fields := by rw [refsOf, if_neg h]
theorem refsV_nil : refsV [] = [] := rfl
theorem refsV_length (fs : List Val) : (refsV fs).length ≤ fs.length := by simp only [refsV, List.length_map]; exact List.length_filter_le _ _
theorem refsV_take {fs : List Val} {k : Nat} {x : Val} (hx : fs[k]? = some x) : refsV (fs.take (k + 1)) = refsV (fs.take k) ++ (if x.1 = 2 then [x.2.2] else []) := by
  simp only [refsV, List.take_add_one, hx, List.filter_append, List.map_append]
  by_cases h : x.1 = 2 <;> simp [h]
inductive Reach (g : List Nd) (roots : List ID) : ID → Prop
  | root {id : ID} {n : Nd} (h1 : id ∈ roots) (h2 : findG g id = some n) : Reach g roots id
  | step {m id : ID} {n k : Nd} (h1 : Reach g roots m) (h2 : findG g m = some n) (h3 : id ∈ refsOf n) (h4 : findG g id = some k) : Reach g roots id
theorem Reach.has {g : List Nd} {roots : List ID} {id : ID} (h : Reach g roots id) : ∃ n, findG g id = some n := by
  cases h with
  | root _ h2 => exact ⟨_, h2⟩
  | step _ _ _ h4 => exact ⟨_, h4⟩
open Classical in
/-- what is reached, in order -/
noncomputable def reachL (g : List Nd) (roots : List ID) : List ID := setL ((g.map (·.id)).filter fun x => decide (Reach g roots x))
theorem SI_reachL (g : List Nd) (roots : List ID) : SI (reachL g roots) := SI_setL _
theorem mem_reachL {g : List Nd} {roots : List ID} {x : ID} : x ∈ reachL g roots ↔ Reach g roots x := by
  rw [reachL, mem_setL, List.mem_filter]
  constructor
  · rintro ⟨_, h⟩; simpa using h
  · intro h
    obtain ⟨n, hn⟩ := h.has
    obtain ⟨h1, h2⟩ := findG_some hn
    exact ⟨List.mem_map.2 ⟨n, h1, h2⟩, by simpa using h⟩
theorem reachL_length (g : List Nd) (roots : List ID) : (reachL g roots).length ≤ g.length := by
  refine Nat.le_trans (setL_length _) (Nat.le_trans (List.length_filter_le _ _) ?_)
  simp
/-- what the search keeps true -/
def Dfs (g : List Nd) (roots w out : List ID) : Prop := out.Nodup ∧ (∀ x, x ∈ out → Reach g roots x) ∧ (∀ x, x ∈ w → ∀ n, findG g x = some n → Reach g roots x) ∧ (∀ x, x ∈ roots → x ∈ out ∨ x ∈ w ∨ findG g x = none) ∧
  ∀ m, m ∈ out → ∀ n, findG g m = some n → ∀ x, x ∈ refsOf n → x ∈ out ∨ x ∈ w ∨ findG g x = none
theorem Dfs_start (g : List Nd) (roots : List ID) : Dfs g roots roots [] :=
  ⟨List.nodup_nil, by simp, fun x hx n hn => .root hx hn, fun x hx => .inr (.inl hx), by simp⟩
theorem Dfs_skip {g : List Nd} {roots w w' out : List ID} {x : ID} (d : Dfs g roots w out) (hw : ∀ y, y ∈ w ↔ y = x ∨ y ∈ w') (hx : findG g x = none ∨ x ∈ out) : Dfs g roots w' out := by
  obtain ⟨d1, d2, d3, d4, d5⟩ := d
  refine ⟨d1, d2, fun y hy => d3 y ((hw y).2 (.inr hy)), fun y hy => ?_, fun m hm n hn y hy => ?_⟩
  · rcases d4 y hy with h | h | h
    · exact .inl h
    · rcases (hw y).1 h with rfl | h
      · rcases hx with h | h
        · exact .inr (.inr h)
        · exact .inl h
      · exact .inr (.inl h)
    · exact .inr (.inr h)
  · rcases d5 m hm n hn y hy with h | h | h
    · exact .inl h
    · rcases (hw y).1 h with rfl | h
      · rcases hx with h | h
        · exact .inr (.inr h)
        · exact .inl h
      · exact .inr (.inl h)
    · exact .inr (.inr h)
theorem Dfs_new {g : List Nd} {roots w w' out out' : List ID} {x : ID} {n : Nd} (d : Dfs g roots w out) (hw : ∀ y, y ∈ w → y = x ∨ y ∈ w') (hw' : ∀ y, y ∈ w' → y ∈ w ∨ y ∈ refsOf n) (hwn : ∀ y, y ∈ refsOf n → y ∈ w') (hxw : x ∈ w) (hn : findG g x = some n) (ho : ∀ y, y ∈ out' ↔ y = x ∨ y ∈ out) (hnd : out'.Nodup) : Dfs g roots w' out' := by
  obtain ⟨d1, d2, d3, d4, d5⟩ := d
  have hrx : Reach g roots x := d3 x hxw n hn
  refine ⟨hnd, fun y hy => ?_, fun y hy k hk => ?_, fun y hy => ?_, fun m hm k hk y hy => ?_⟩
  · rcases (ho y).1 hy with rfl | h
    · exact hrx
    · exact d2 y h
  · rcases hw' y hy with h | h
    · exact d3 y h k hk
    · exact .step hrx hn h hk
  · rcases d4 y hy with h | h | h
    · exact .inl ((ho y).2 (.inr h))
    · rcases hw y h with rfl | h
      · exact .inl ((ho _).2 (.inl rfl))
      · exact .inr (.inl h)
    · exact .inr (.inr h)
  · rcases (ho m).1 hm with rfl | hm
    · rw [hn] at hk; cases hk
      exact .inr (.inl (hwn y hy))
    · rcases d5 m hm k hk y hy with h | h | h
      · exact .inl ((ho y).2 (.inr h))
      · rcases hw y h with rfl | h
        · exact .inl ((ho _).2 (.inl rfl))
        · exact .inr (.inl h)
      · exact .inr (.inr h)
theorem Dfs_end {g : List Nd} {roots w out : List ID} (d : Dfs g roots w out) (hw : w = []) (x : ID) : x ∈ out ↔ Reach g roots x := by
  subst hw
  obtain ⟨d1, d2, d3, d4, d5⟩ := d
  refine ⟨d2 x, fun h => ?_⟩
  induction h with
  | root h1 h2 =>
    rcases d4 _ h1 with h | h | h
    · exact h
    · simp at h
    · rw [h2] at h; cases h
  | step h1 h2 h3 h4 ih =>
    rcases d5 _ ih _ h2 _ h3 with h | h | h
    · exact h
    · simp at h
    · rw [h4] at h; cases h
theorem nodup_subI : ∀ (l r : List ID), l.Nodup → (∀ x, x ∈ l → x ∈ r) → l.length ≤ r.length
  | [], _, _, _ => by simp
  | x :: l, r, hn, hs => by
    rw [List.nodup_cons] at hn
    have hx := hs x (by simp)
    have := nodup_subI l (r.erase x) hn.2 (fun y hy => (List.mem_erase_of_ne (fun e : y = x => hn.1 (by rw [← e]; exact hy))).2 (hs y (by simp [hy])))
    have hl := List.length_erase_of_mem hx
    have : 0 < r.length := List.length_pos_of_mem hx
    simp; omega
theorem Dfs_len {g : List Nd} {roots w out : List ID} (d : Dfs g roots w out) : out.length ≤ g.length := by
  have := nodup_subI out (g.map (·.id)) d.1 (fun x hx => by
    obtain ⟨n, hn⟩ := (d.2.1 x hx).has
    obtain ⟨h1, h2⟩ := findG_some hn
    exact List.mem_map.2 ⟨n, h1, h2⟩)
  simpa using this
theorem Dfs_nodup {g : List Nd} {roots w out : List ID} (d : Dfs g roots w out) : out.Nodup := d.1
theorem nodup_snoc {out : List ID} {x : ID} (h : out.Nodup) (hx : x ∉ out) : (out ++ [x]).Nodup := by
  rw [List.nodup_append]; exact ⟨h, by simp, fun a ha b hb e => by simp at hb; subst hb; subst e; exact hx ha⟩
theorem Dfs_push {g : List Nd} {roots w out : List ID} {x : ID} {n : Nd} (d : Dfs g roots (w ++ [x]) out) (hn : findG g x = some n) (hx : x ∉ out) : Dfs g roots (w ++ refsOf n) (out ++ [x]) := by
  refine Dfs_new (x := x) (n := n) d (fun y hy => ?_) (fun y hy => ?_) (fun y hy => List.mem_append_right _ hy) (by simp) hn (by simp [or_comm]) (nodup_snoc d.1 hx)
  · rcases List.mem_append.1 hy with h | h
    · exact .inr (List.mem_append_left _ h)
    · exact .inl (by simpa using h)
  · rcases List.mem_append.1 hy with h | h
    · exact .inl (List.mem_append_left _ h)
    · exact .inr h
/-- sorted, what was found is what is reached -/
theorem reach_end {g : List Nd} {roots w out ys : List ID} (d : Dfs g roots w out) (hw : w = []) (hp : ys.Perm out) (hs : ys.Pairwise fun x y => ¬ cmpID y x < 0) : ys = reachL g roots := by
  have hnd : ys.Pairwise (· ≠ ·) := List.nodup_iff_pairwise_ne.1 (hp.nodup_iff.2 d.1)
  have hsi : SI ys := (hs.and hnd).imp fun ⟨a, b⟩ => Decidable.byContradiction fun hc => b (cmp_eq.1 ⟨hc, a⟩)
  refine SI_unique hsi (SI_reachL g roots) fun x => ?_
  rw [hp.mem_iff, Dfs_end d hw, mem_reachL]
/-- a map that stands for a list of nodes -/
def GMap (h : Frag) (ps : List (ID × Value)) (ns : List Nd) : Prop := ∀ id, match mget id ps with
  | none => findG ns id = none
  | some v => ∃ p c n, v = ndv n p c ∧ SLB 4398046511104 h 4 ValC (.slice p n.fields.length c) n.fields ∧ findG ns id = some n
theorem GMap_nil (h : Frag) : GMap h [] [] := fun id => by simp only [mget]; unfold findG; rfl
theorem GMap_cons {h : Frag} {ps : List (ID × Value)} {ns : List Nd} {n : Nd} {p : Option Addr} {c : Nat} (x : GMap h ps ns) (hf : SLB 4398046511104 h 4 ValC (.slice p n.fields.length c) n.fields) : GMap h (mput n.id (ndv n p c) ps) (n :: ns) := by
  intro id
  rw [mget_mput, findG_cons]
  by_cases hid : n.id = id
  · rw [if_pos hid, if_pos hid]; exact ⟨p, c, n, rfl, hf, rfl⟩
  · rw [if_neg hid, if_neg hid]; exact x id
theorem GMap_some {h : Frag} {ps : List (ID × Value)} {ns : List Nd} {id : ID} {v : Value} (x : GMap h ps ns) (hq : mget id ps = some v) : ∃ p c n, v = ndv n p c ∧ SLB 4398046511104 h 4 ValC (.slice p n.fields.length c) n.fields ∧ findG ns id = some n := by
  have := x id
  rw [hq] at this
  exact this
theorem GMap_none {h : Frag} {ps : List (ID × Value)} {ns : List Nd} {id : ID} (x : GMap h ps ns) (hq : mget id ps = none) : findG ns id = none := by
  have := x id
  rw [hq] at this
  exact this
theorem GMap.up {h h' : Frag} {ps : List (ID × Value)} {ns : List Nd} (x : GMap h ps ns) (hl : le h h') : GMap h' ps ns := by
  intro id
  have := x id
  cases hq : mget id ps with
  | none => rw [hq] at this; exact this
  | some v =>
    rw [hq] at this
    obtain ⟨p, c, n, e1, e2, e3⟩ := this
    exact ⟨p, c, n, e1, e2.up hl, e3⟩
attribute [local irreducible] GMap Dfs refsV refsOf reachL
theorem OS.cut {h : Frag} {b cap : Nat} {w : List ID} {x : ID} {rest : List Value} (hc : (w ++ [x]).length ≤ cap) (hl : (flatI (w ++ [x])).length + rest.length = cap * 2) : OS h 35 2 IDC (.slice (some ⟨b, 0, none⟩) w.length cap) w [(b, cells (flatI (w ++ [x]) ++ rest) 35)] := by
  have h1 : flatI (w ++ [x]) ++ rest = flatI w ++ (flatI [x] ++ rest) := by rw [flatI_append, List.append_assoc]
  rw [h1]
  refine Go.Mesh.OS.make rfl (by simp at hc; omega) ?_
  rw [flatI_append] at hl
  simp only [List.length_append] at hl ⊢
  omega
end Go.Proofs.YtfhoecgiahpddaaGreat
