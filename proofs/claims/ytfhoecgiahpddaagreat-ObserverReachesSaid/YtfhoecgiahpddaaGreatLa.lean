/-
  WHAT THE LAWS SHARE: small views are few and small; maps of identities to true.
-/
import Derived.Test.YtfhoecgiahpddaaGreatPc
set_option linter.all false
namespace Go.Proofs.YtfhoecgiahpddaaGreat
open Go.Mesh Go.RowKit
set_option maxRecDepth 100000
set_option linter.unusedVariables false
set_option maxHeartbeats 4000000
attribute [local irreducible] WP OPS ANY ANYo LG LV FSpec PSpec QOP OPc OPw thenQ blockQ roundQ roundF retQ retM Rd At SLB OS cmpI orI cmpID namedB valB nodeB kindB validG valAux idxI findG zeroV viewOf vwAt idxOf recv flyB scionOf moveOf numberedOf idOf valueOf mget mput localB carriedB stubOf followF followOf flOf flightsOf flPre setL minusL compactL putI mergeN insN insAll unionR NMap Coll retN bodyS GMap Dfs refsV refsOf reachL movedOf movedG graphParts graphR isMove flightIDs mailIDs viewIDs rawRoots rootsR reachR deadN viewObjs garbageOf garbageR objsL thereB oddB badNode lostF badStub safe1 safe2 safe3 safe4 safeR msgB sizesB smallV fewB
theorem SLB.cast {α : Type} {B B' : Nat} {h : Frag} {k : Nat} {C C' : CR α} {v : Value} {xs : List α} (x : SLB B h k C v xs) (hl : xs.length ≤ B') (hc : ∀ y, y ∈ xs → ∀ cs, C h y cs → C' h y cs) : SLB B' h k C' v xs := by
  unfold SLB at x ⊢
  obtain ⟨_, ⟨p, cap, e, rfl⟩ | ⟨b, off, cap, e, g⟩⟩ := x
  · exact ⟨hl, .inl ⟨p, cap, e, rfl⟩⟩
  · refine ⟨hl, .inr ⟨b, off, cap, e, fun i y hy => ?_⟩⟩
    obtain ⟨vs, h1, h2, h3, h4⟩ := g i y hy
    exact ⟨vs, h1, h2, hc y (List.mem_of_getElem? hy) vs h3, h4⟩
theorem few_small {vs : List View} (h : fewB vs = true) : Small vs := by
  rw [fewB, Bool.and_eq_true, decide_eq_true_eq] at h
  obtain ⟨h, hl⟩ := h
  rw [List.all_eq_true] at h
  have hv : ∀ v, v ∈ vs → (v.objects.length ≤ 12 ∧ v.stubs.length ≤ 12 ∧ v.scions.length ≤ 12 ∧ v.names.length ≤ 6 ∧ v.mail.length ≤ 6 ∧ v.flights.length ≤ 6 ∧ v.received.length ≤ 10) ∧ (∀ n, n ∈ v.objects → n.fields.length ≤ 6) ∧ (∀ m, m ∈ v.mail → m.args.length ≤ 6) ∧
      ∀ x, x ∈ v.flights → x.msg.args.length ≤ 6 ∧ x.msg.parcel.fields.length ≤ 6 ∧ x.msg.parcel.mail.length ≤ 4 ∧ ∀ l, l ∈ x.msg.parcel.mail → l.length ≤ 6 := by
    intro v hv
    have := h v hv
    simp only [smallV, sizesB, Bool.and_eq_true, List.all_eq_true, decide_eq_true_eq, msgB] at this
    obtain ⟨h1, h2, h3, h4⟩ := this
    exact ⟨h1, h2, h3, h4⟩
  exact ⟨hl, fun v m => (hv v m).1.1, fun v m => (hv v m).1.2.1, fun v m => (hv v m).1.2.2.1, fun v m => (hv v m).1.2.2.2.1, fun v m => (hv v m).1.2.2.2.2.1, fun v m => (hv v m).1.2.2.2.2.2.1, fun v m => (hv v m).1.2.2.2.2.2.2,
    fun v m => (hv v m).2.1, fun v m => (hv v m).2.2.1, fun v m x hx => ((hv v m).2.2.2 x hx).1, fun v m x hx => ((hv v m).2.2.2 x hx).2.1, fun v m x hx => ((hv v m).2.2.2 x hx).2.2.1, fun v m x hx => ((hv v m).2.2.2 x hx).2.2.2⟩
theorem NodeC.cast {B B' : Nat} {h : Frag} {n : Nd} {cs : List Value} (x : NodeC B h n cs) (hl : n.fields.length ≤ B') : NodeC B' h n cs := by
  obtain ⟨p, c, e, s⟩ := x
  exact ⟨p, c, e, SLB.cast s hl fun _ _ _ y => y⟩
theorem slb_small {h : Frag} {a : Value} {vs : List View} (hs : SLB 9223372036854775807 h 13 (ViewC 9223372036854775807) a vs) (sm : Small vs) : SL h 13 (ViewC 4398046511104) a vs := by
  refine SLB.cast hs (Nat.le_trans sm.len (by decide)) fun v hv cs hc => ?_
  obtain ⟨hi, xa, po, qo, qs, qt, pc, qc, pn, qn, pm, qm, xw, xv, pf, qf, pr, qr, xe, xf, rfl, s1, s2, s3, s4, s5, s6, s7⟩ := hc
  have l1 := sm.objs v hv
  have l2 := sm.stubs v hv
  have l3 := sm.scions v hv
  have l4 := sm.names v hv
  have l5 := sm.mail v hv
  have l6 := sm.flights v hv
  have l7 := sm.received v hv
  refine ⟨hi, xa, po, qo, qs, qt, pc, qc, pn, qn, pm, qm, xw, xv, pf, qf, pr, qr, xe, xf, rfl, ?_, ?_, ?_, ?_, ?_, ?_, ?_⟩
  · exact SLB.cast s1 (by omega) fun n hn cs hc => NodeC.cast hc (Nat.le_trans (sm.fields v hv n hn) (by decide))
  · exact SLB.cast s2 (by omega) fun _ _ _ y => y
  · exact SLB.cast s3 (by omega) fun _ _ _ y => y
  · exact SLB.cast s4 (by omega) fun _ _ _ y => y
  · refine SLB.cast s5 (by omega) fun m hm cs hc => ?_
    obtain ⟨a, b, m', p, c, e, s⟩ := hc
    exact ⟨a, b, m', p, c, e, SLB.cast s (Nat.le_trans (sm.args v hv m hm) (by decide)) fun _ _ _ y => y⟩
  · refine SLB.cast s6 (by omega) fun x hx cs hc => ?_
    obtain ⟨a1, a2, b1, b2, b3, pa, qa, pf, qf, pm, qm, wv, y1, y2, y3, y4, y5, y6, y7, y8, y9, y10, y11, y12, y13, y14, y15, e, t1, t2, t3⟩ := hc
    refine ⟨a1, a2, b1, b2, b3, pa, qa, pf, qf, pm, qm, wv, y1, y2, y3, y4, y5, y6, y7, y8, y9, y10, y11, y12, y13, y14, y15, e, ?_, ?_, ?_⟩
    · exact SLB.cast t1 (Nat.le_trans (sm.letter v hv x hx) (by decide)) fun _ _ _ y => y
    · exact SLB.cast t2 (Nat.le_trans (sm.moved v hv x hx) (by decide)) fun _ _ _ y => y
    · refine SLB.cast t3 (Nat.le_trans (sm.pmail v hv x hx) (by decide)) fun l hl cs hc => ?_
      obtain ⟨a, b, m, p, c, e, s⟩ := hc
      exact ⟨a, b, m, p, c, e, SLB.cast s (Nat.le_trans (sm.pargs v hv x hx l hl) (by decide)) fun _ _ _ y => y⟩
  · exact SLB.cast s7 (by omega) fun _ _ _ y => y
/-- a map in which what is in s is true -/
def BMap (ps : List (ID × Value)) (s : List ID) : Prop := ∀ id, mget id ps = if id ∈ s then some (.bool true) else none
theorem BMap_nil : BMap [] [] := fun id => by simp [mget]
theorem BMap_put {ps : List (ID × Value)} {s : List ID} (x : BMap ps s) (id : ID) : BMap (mput id (.bool true) ps) (s ++ [id]) := fun k => by
  rw [mget_mput, x k]
  by_cases h1 : id = k
  · subst h1; simp
  · by_cases h2 : k ∈ s
    · simp [h1, h2]
    · simp [h1, h2, Ne.symm h1]
theorem BMap_at {ps : List (ID × Value)} {s : List ID} (x : BMap ps s) {i : Nat} {k : ID} {v : Value} (h : ps[i]? = some (k, v)) : k ∈ s := by
  have := x k
  by_cases hk : k ∈ s
  · exact hk
  · rw [if_neg hk] at this
    exact absurd (List.mem_map.2 ⟨_, List.mem_of_getElem? h, rfl⟩) (mget_none_keys this)
theorem BMap_get {ps : List (ID × Value)} {s : List ID} (x : BMap ps s) {id : ID} (h : id ∈ s) : mget id ps = some (.bool true) := by rw [x id, if_pos h]
/-- the places of a map that a range has come by -/
def Seen (n : Nat) (seen : List Nat) : Prop := seen.Nodup ∧ ∀ i, i ∈ seen → i < n
theorem Seen_nil (n : Nat) : Seen n [] := ⟨List.nodup_nil, by simp⟩
theorem Seen_snoc {n i : Nat} {seen : List Nat} (x : Seen n seen) (hi : i ∉ seen) (hn : i < n) : Seen n (seen ++ [i]) := by
  refine ⟨?_, fun j hj => ?_⟩
  · rw [List.nodup_append]
    exact ⟨x.1, by simp, fun a ha b hb e => hi (by simp at hb; subst hb; subst e; exact ha)⟩
  · rcases List.mem_append.1 hj with h | h
    · exact x.2 j h
    · simp at h; omega
theorem Seen_le {n : Nat} {seen : List Nat} (x : Seen n seen) : seen.length ≤ n := by
  have := nodup_subN seen (List.range n) x.1 fun i hi => List.mem_range.2 (x.2 i hi)
  simpa using this
attribute [local irreducible] BMap Seen
end Go.Proofs.YtfhoecgiahpddaaGreat
