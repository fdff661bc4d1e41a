/-
  CONTRACTS: slices.Grow and slices.Concat at identities.
-/
import Derived.Test.YtfhoecgiahpddaaGreatOc
set_option linter.all false
namespace Go.Proofs.YtfhoecgiahpddaaGreat
open Go.Mesh Go.RowKit
set_option maxRecDepth 100000
set_option linter.unusedVariables false
set_option maxHeartbeats 4000000
attribute [local irreducible] WP OPS ANY ANYo LG LV FSpec PSpec QOP OPc OPw thenQ blockQ roundQ roundF retQ retM Rd At SLB OS cmpI orI cmpID namedB valB nodeB kindB validG valAux idxI findG zeroV viewOf vwAt idxOf recv flyB scionOf moveOf numberedOf idOf valueOf mget mput localB carriedB stubOf followF followOf flOf flightsOf flPre setL minusL compactL putI mergeN insN insAll unionR NMap Coll retN bodyS GMap Dfs refsV refsOf reachL movedOf movedG graphParts graphR isMove flightIDs mailIDs viewIDs rawRoots rootsR reachR deadN viewObjs garbageOf garbageR objsL
def IDsC (B : Nat) : CR (List ID) := fun h l vs => ∃ p c, vs = [.slice p l.length c] ∧ SLB B h 2 IDC (.slice p l.length c) l
instance (B : Nat) : CM (IDsC B) := ⟨fun _ _ _ _ hl ⟨p, c, e, s⟩ => ⟨p, c, e, s.mono hl IDC_mono⟩⟩
theorem flat_take {α : Type} {ls : List (List α)} {k : Nat} {l : List α} (hl : ls[k]? = some l) : (ls.take (k + 1)).flatten = (ls.take k).flatten ++ l := by
  rw [List.take_add_one, hl]; simp
theorem flat_take_le {α : Type} (ls : List (List α)) (k : Nat) : (ls.take k).flatten.length ≤ ls.flatten.length := by
  conv => rhs; rw [← List.take_append_drop k ls, List.flatten_append, List.length_append]
  omega
theorem grow_s {h : Frag} {n : Nat} (hn : n ≤ 4398046511104) : FSpec Tryz.prog 107 #[.slice none 0 0, .int .i64 (n : Int)] h [] (fun h' L' v => h' = h ∧ ∃ p c, v = .slice p ([] : List ID).length c ∧ OS h 35 2 IDC (.slice p ([] : List ID).length c) [] L') := by
  refine spec_of (vs := [.slice none 0 0, .int .i64 (n : Int)]) Tryz.func107 Tryz.ntmps107 rfl rfl rfl ?_
  (focus (refine WP_seq ?_; refine R_region ?_; refine S_q rfl rfl rfl (Q_assign rfl rfl) ?_; refine OPS_nil ?_; refine then_n ?_; refine WP_seq ?_; refine WP_seq ?_; refine R_region ?_; refine S_q rfl rfl rfl (Q_move rfl rfl) ?_; refine S_q rfl rfl rfl (Q_cmp rfl rfl rfl rfl) ?_; refine OPS_nil ?_; refine then_n ?_; refine cond_f rfl ?_; refine WP_skip ?_; refine then_n ?_; refine WP_seq ?_; refine WP_seq ?_; refine R_region ?_; refine S_q rfl rfl rfl (Q_move rfl rfl) ?_; refine S_q rfl rfl rfl (Q_move rfl rfl) ?_; refine S_q rfl rfl rfl (Q_cap rfl rfl rfl rfl rfl rfl) ?_; refine S_q rfl rfl rfl (Q_move rfl rfl) ?_; refine S_q rfl rfl rfl (Q_len rfl rfl rfl rfl rfl rfl) ?_; refine S_q rfl rfl rfl (Q_sub rfl rfl rfl (by omega)) ?_; refine S_q rfl rfl rfl (Q_sub rfl rfl rfl (by omega)) ?_; refine S_q rfl rfl rfl (Q_assign rfl rfl) ?_; refine OPS_nil ?_; refine then_n ?_; refine WP_seq ?_; refine R_region ?_; refine S_q rfl rfl rfl (Q_move rfl rfl) ?_; refine S_q rfl rfl rfl (Q_cmp rfl rfl rfl rfl) ?_; refine OPS_nil ?_; refine then_n ?_; refine WP_cond rfl (fun c0_1 => ?_) (fun c0_1 => ?_) <;> (first | (simp [*] at c0_1; done) | (try simp at c0_1)); (focus (refine R_region ?_; refine S_q rfl rfl rfl (Q_move rfl rfl) ?_; refine S_q rfl rfl rfl (Q_move rfl rfl) ?_; refine S_q rfl rfl rfl (Q_cap rfl rfl rfl rfl rfl rfl) ?_; refine S_q rfl rfl rfl (Q_slice0 rfl rfl (elm rfl) rfl rfl) ?_; refine S_q rfl rfl rfl (Q_move rfl rfl) ?_)); rotate_left 1; (focus (refine WP_skip ?_; refine then_n ?_; refine WP_seq ?_; refine R_region ?_; refine S_q rfl rfl rfl (Q_move rfl rfl) ?_; refine S_q rfl rfl rfl (Q_assign rfl rfl) ?_; refine OPS_nil ?_; refine then_n ?_; refine WP_ret ?_)); rotate_left 1))
  · refine S_c rfl rfl rfl (C_appZ n rfl rfl rfl rfl rfl rfl (by simp) (elm rfl) (zer rfl) rfl (by rfl) (by omega) (by decide) (by omega) (by omega) ?_)
    rintro b cap rest hc hl
    (focus (refine S_q rfl rfl rfl (Q_move rfl rfl) ?_; refine S_q rfl rfl rfl (Q_len rfl rfl rfl rfl rfl rfl) ?_; refine S_q rfl rfl rfl (Q_slice rfl rfl (elm rfl) rfl ⟨_, rfl⟩ (by omega) (by omega) (by omega)) ?_; refine S_q rfl rfl rfl (Q_assign rfl rfl) ?_; refine OPS_nil ?_; refine then_n ?_; refine WP_seq ?_; refine R_region ?_; refine S_q rfl rfl rfl (Q_move rfl rfl) ?_; refine S_q rfl rfl rfl (Q_assign rfl rfl) ?_; refine OPS_nil ?_; refine then_n ?_; refine WP_ret ?_))
    exact ret_q [(b, cells rest 35)] (.inl rfl) rfl ⟨_, _, rfl, rfl, rfl⟩ (by repeat' (first | exact List.Sublist.refl _ | exact List.sublist_append_left _ _ | exact List.nil_sublist _ | apply List.Sublist.cons₂ | apply List.Sublist.cons)) ⟨rfl, some ⟨b, 0, none⟩, cap, rfl, OS.make (xs := []) (rest := rest) rfl (Nat.zero_le _) (by simpa [flatI] using hl)⟩
  · subst c0_1
    exact ret_q [] (.inl rfl) rfl ⟨_, _, rfl, rfl, rfl⟩ (by repeat' (first | exact List.Sublist.refl _ | exact List.sublist_append_left _ _ | exact List.nil_sublist _ | apply List.Sublist.cons₂ | apply List.Sublist.cons)) ⟨rfl, _, _, rfl, OS.nil _ _ _ _⟩
theorem concat_s {h : Frag} {a : Value} {ls : List (List ID)} (hs : SL h 1 (IDsC 4398046511104) a ls) (hb : ls.flatten.length ≤ 4000000) : FSpec Tryz.prog 64 #[a] h [] (fun h' L' v => h' = h ∧ ∃ p c, v = .slice p ls.flatten.length c ∧ OS h 35 2 IDC (.slice p ls.flatten.length c) ls.flatten L') := by
  have hl := hs.le
  obtain ⟨pv, cv, rfl⟩ := hs.slice
  refine spec_of (vs := [.slice pv ls.length cv]) Tryz.func64 Tryz.ntmps64 rfl rfl rfl ?_
  (focus (refine WP_seq ?_; refine R_region ?_; refine S_q rfl rfl rfl (Q_assign rfl rfl) ?_; refine OPS_nil ?_; refine then_n ?_; refine WP_seq ?_; refine R_region ?_; refine S_q rfl rfl rfl (Q_assign rfl rfl) ?_; refine OPS_nil ?_; refine then_n ?_; refine WP_seq ?_; refine WP_seq ?_; refine R_region ?_; refine S_q rfl rfl rfl (Q_move rfl rfl) ?_; refine S_q rfl rfl rfl (Q_len rfl rfl rfl rfl rfl rfl) ?_; refine S_q rfl rfl rfl (Q_move rfl rfl) ?_; refine OPS_nil ?_; refine then_n ?_; refine WP_block ?_))
  (refine WP_loopC (α := Nat) [10, 9, 0] (fun (k : Nat) => ls.length - k) (fun (k : Nat) => [(11, .int .i64 (k : Int)), (3, .int .i64 (((ls.take k).flatten.length : Nat) : Int))]) (fun hh (k : Nat) => hh = h ∧ k ≤ ls.length) 0 ⟨_, _, rfl, ⟨_, _, rfl, ⟨_, _, rfl, rfl, rfl⟩, rfl⟩, rfl⟩ (by repeat' (first | exact trivial | refine ⟨rfl, ?_⟩)) ?_ ?_)
  · exact ⟨rfl, Nat.zero_le _⟩
  rintro h1 k _ ⟨rfl, hk⟩
  have hle := flat_take_le ls k
  by_cases hlt : k < ls.length
  · obtain ⟨l, el⟩ := get_of hlt
    have htk := flat_take el
    have hle2 := flat_take_le ls (k + 1)
    rw [htk, List.length_append] at hle2
    (focus (refine WP_seq ?_; refine R_region ?_; refine S_q rfl rfl rfl (Q_cmp rfl rfl rfl rfl) ?_; refine OPS_nil ?_; refine then_n ?_; refine WP_seq ?_; refine WP_cond rfl (fun c2_1 => ?_) (fun c2_1 => ?_) <;> (first | (simp [*] at c2_1; done) | (try simp at c2_1)); refine WP_skip ?_; refine then_n ?_; refine WP_seq ?_; refine WP_block ?_; refine WP_seq ?_; refine R_region ?_; refine S_q rfl rfl rfl (Q_indexS (by assumption) (by assumption) rfl rfl rfl (elm rfl) rfl) ?_; refine S_load rfl rfl rfl rfl rfl ?_; refine L_el1 (by assumption) (by assumption) (ty rfl) ?_; rintro _ ⟨pi2_2, qi2_2, ⟨⟩, fi2_2⟩; refine S_q rfl rfl rfl (Q_assign rfl rfl) ?_; refine OPS_nil ?_; refine then_n ?_; refine WP_seq ?_; refine R_region ?_; refine S_q rfl rfl rfl (Q_move rfl rfl) ?_; refine S_q rfl rfl rfl (Q_move rfl rfl) ?_; refine S_q rfl rfl rfl (Q_len rfl rfl rfl rfl rfl rfl) ?_; refine S_q rfl rfl rfl (Q_add rfl rfl rfl (by omega)) ?_; refine S_q rfl rfl rfl (Q_assign rfl rfl) ?_; refine OPS_nil ?_; refine then_n ?_; refine WP_seq ?_; refine R_region ?_; refine S_q rfl rfl rfl (Q_move rfl rfl) ?_; refine S_q rfl rfl rfl (Q_cmp rfl rfl rfl rfl) ?_; refine OPS_nil ?_; refine then_n ?_; refine cond_f rfl ?_; refine WP_skip ?_; refine block_n ?_; refine then_n ?_; refine R_region ?_; refine S_q rfl rfl rfl (Q_add rfl rfl rfl (by omega)) ?_; refine S_q rfl rfl rfl (Q_move rfl rfl) ?_; refine OPS_nil ?_))
    refine roundF_n (k + 1) (by omega) ⟨rfl, by omega⟩ (by repeat' (first | exact List.Sublist.refl _ | exact List.sublist_append_left _ _ | exact List.nil_sublist _ | apply List.Sublist.cons₂ | apply List.Sublist.cons)) ?_
    rw [htk, List.length_append, Int.natCast_add]
    exact (by repeat' (first | exact trivial | refine ⟨rfl, ?_⟩))
  have hge : k = ls.length := by omega
  subst hge
  rw [List.take_length]
  (focus (refine WP_seq ?_; refine R_region ?_; refine S_q rfl rfl rfl (Q_cmp rfl rfl rfl rfl) ?_; refine OPS_nil ?_; refine then_n ?_; refine WP_seq ?_; refine WP_cond rfl (fun c3_1 => ?_) (fun c3_1 => ?_) <;> (first | (simp [*] at c3_1; done) | (try simp at c3_1)); refine WP_exit ?_; refine then_e ?_; refine roundF_e ?_; refine block_e ?_; refine then_n ?_; refine WP_seq ?_; refine R_region ?_; refine S_q rfl rfl rfl (Q_move rfl rfl) ?_; refine S_c rfl rfl rfl (C_callF (grow_s (by omega)) rfl rfl ⟨_, _, rfl, ⟨_, _, rfl, rfl, rfl⟩, rfl⟩ (cal rfl) ?_); rintro h3_2 m3_2 _ l3_2 ⟨e3_2, p3_2, q3_2, rfl, o3_2⟩; replace hs := hs.up l3_2; replace o3_2 := o3_2.up l3_2; refine S_q rfl rfl rfl (Q_assign rfl rfl) ?_; refine OPS_nil ?_; refine then_n ?_; refine WP_seq ?_; refine WP_seq ?_; refine R_region ?_; refine S_q rfl rfl rfl (Q_move rfl rfl) ?_; refine S_q rfl rfl rfl (Q_len rfl rfl rfl rfl rfl rfl) ?_; refine S_q rfl rfl rfl (Q_move rfl rfl) ?_; refine OPS_nil ?_; refine then_n ?_; refine WP_block ?_))
  subst e3_2
  clear hle
  (refine WP_loopF (α := Nat × List ID × Option Addr × Nat × Hp) [26, 25] (fun (s : Nat × List ID × Option Addr × Nat × Hp) => ls.length - s.1) (fun (s : Nat × List ID × Option Addr × Nat × Hp) => s.2.2.2.2 ++ []) (fun (s : Nat × List ID × Option Addr × Nat × Hp) => [(27, .int .i64 (s.1 : Int)), (6, .slice s.2.2.1 s.2.1.length s.2.2.2.1)]) (fun hh (s : Nat × List ID × Option Addr × Nat × Hp) => hh = h3_2 ∧ s.1 ≤ ls.length ∧ s.2.1 = (ls.take s.1).flatten ∧ OS h3_2 35 2 IDC (.slice s.2.2.1 s.2.1.length s.2.2.2.1) s.2.1 s.2.2.2.2) (0, [], p3_2, q3_2, m3_2) ⟨_, _, rfl, ⟨_, _, rfl, rfl, rfl⟩, rfl⟩ ?_ (by repeat' (first | exact List.Sublist.refl _ | exact List.sublist_append_left _ _ | exact List.nil_sublist _ | apply List.Sublist.cons₂ | apply List.Sublist.cons)) (by repeat' (first | exact trivial | refine ⟨rfl, ?_⟩)) ?_)
  · exact ⟨rfl, Nat.zero_le _, rfl, o3_2⟩
  clear o3_2
  rintro h2 ⟨k, out, p, c, M⟩ _ ⟨rfl, hk, ho, hO⟩
  simp only at hk ho hO
  dsimp only
  have hle := flat_take_le ls k
  rw [← ho] at hle
  by_cases hlt : k < ls.length
  · obtain ⟨l, el⟩ := get_of hlt
    have htk := flat_take el
    have hle2 := flat_take_le ls (k + 1)
    rw [htk, ← ho, List.length_append] at hle2
    (focus (refine WP_seq ?_; refine R_region ?_; refine S_q rfl rfl rfl (Q_cmp rfl rfl rfl rfl) ?_; refine OPS_nil ?_; refine then_n ?_; refine WP_seq ?_; refine WP_cond rfl (fun c5_1 => ?_) (fun c5_1 => ?_) <;> (first | (simp [*] at c5_1; done) | (try simp at c5_1)); refine WP_skip ?_; refine then_n ?_; refine WP_seq ?_; refine WP_block ?_; refine WP_seq ?_; refine R_region ?_; refine S_q rfl rfl rfl (Q_indexS (by assumption) (by assumption) rfl rfl rfl (elm rfl) rfl) ?_; refine S_load rfl rfl rfl rfl rfl ?_; refine L_el1 (by assumption) (by assumption) (ty rfl) ?_; rintro _ ⟨pi5_2, qi5_2, ⟨⟩, fi5_2⟩; refine S_q rfl rfl rfl (Q_assign rfl rfl) ?_; refine OPS_nil ?_; refine then_n ?_; refine R_region ?_; refine S_q rfl rfl rfl (Q_move rfl rfl) ?_; refine S_q rfl rfl rfl (Q_move rfl rfl) ?_; refine S_w rfl rfl rfl (W_appS [] _ (by assumption) (by assumption) rfl rfl rfl rfl rfl rfl (elm rfl) (zer rfl) rfl rfl (by (try simp only [List.length_append, List.length_cons, List.length_nil]); omega) (by (try simp only [List.length_append, List.length_cons, List.length_nil]); omega) ?_); rintro p5_3 q5_3 m5_3 o5_3; refine S_q rfl rfl rfl (Q_assign rfl rfl) ?_; refine OPS_nil ?_; refine block_n ?_; refine then_n ?_; refine R_region ?_; refine S_q rfl rfl rfl (Q_add rfl rfl rfl (by omega)) ?_; refine S_q rfl rfl rfl (Q_move rfl rfl) ?_; refine OPS_nil ?_))
    refine roundF_n (k + 1, out ++ l, p5_3, q5_3, m5_3) (by simp only; omega) ⟨rfl, by simp only; omega, ?_, o5_3⟩ (by repeat' (first | exact List.Sublist.refl _ | exact List.sublist_append_left _ _ | exact List.nil_sublist _ | apply List.Sublist.cons₂ | apply List.Sublist.cons)) (by repeat' (first | exact trivial | refine ⟨rfl, ?_⟩))
    simp only; rw [htk, ho]
  have hge : k = ls.length := by omega
  subst hge
  rw [List.take_length] at ho
  subst ho
  (focus (refine WP_seq ?_; refine R_region ?_; refine S_q rfl rfl rfl (Q_cmp rfl rfl rfl rfl) ?_; refine OPS_nil ?_; refine then_n ?_; refine WP_seq ?_; refine WP_cond rfl (fun c6_1 => ?_) (fun c6_1 => ?_) <;> (first | (simp [*] at c6_1; done) | (try simp at c6_1)); refine WP_exit ?_; refine then_e ?_; refine roundF_e ?_; refine block_e ?_; refine then_n ?_; refine WP_seq ?_; refine R_region ?_; refine S_q rfl rfl rfl (Q_move rfl rfl) ?_; refine S_q rfl rfl rfl (Q_assign rfl rfl) ?_; refine OPS_nil ?_; refine then_n ?_; refine WP_ret ?_))
  exact ret_q M (.inl rfl) rfl ⟨_, _, rfl, rfl, rfl⟩ (by repeat' (first | exact List.Sublist.refl _ | exact List.sublist_append_left _ _ | exact List.nil_sublist _ | apply List.Sublist.cons₂ | apply List.Sublist.cons)) ⟨rfl, p, c, rfl, hO⟩
end Go.Proofs.YtfhoecgiahpddaaGreat
