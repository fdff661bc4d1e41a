/-
  RULES: cap, an append of zeros to nil (slices.Grow), slices of nil, appends to a slice that nobody owns.
-/
import Derived.Test.YtfhoecgiahpddaaGreatRules5
import Derived.Lib.AppendZeros
set_option linter.all false
namespace Go.Mesh
open Go.RowKit
set_option linter.unusedVariables false
section
variable {P : Program} {r : Option Nat} {h : Frag} {L : Hp} {fr : Fr} {o : Oper} {K : OCont}
theorem Q_cap {c : Call} {x : Operand} {t e : TypeId} {p : Option Addr} {n cap : Nat} (hop : o.op = .call c) (hc : c.callee = .builtin .cap) (ha : c.args = #[x]) (hat : c.argTypes = #[t]) (hx : ev fr x = some (.slice p n cap)) (ht : P.underlying t = some (.slice e)) : QOP P o fr h L (.int .i64 (cap : Int)) :=
  ⟨fun c => by rw [hop]; simp, fun a hal w hw => by
    unfold execOp; rw [hop]
    simp [resolve, hc, ha, hat, invoke, builtin, Builtin.cap_, hal x _ hx, run_underlying' ht, goInt]⟩
/-- nil[:0] -/
theorem Q_slice0 {t e k by_ : Nat} {s x : Operand} {q : IntKind} {i : Int} (hop : o.op = .slice t s none (some x) none) (hs : ev fr s = some (.slice none 0 0)) (he : elemOf? P t = some (e, k, by_)) (hx : ev fr x = some (.int q i)) (hi : i = 0) :
    QOP P o fr h L (.slice none 0 0) := by
  subst hi
  exact ⟨fun c => by rw [hop]; simp, fun a ha w _ => by
    obtain ⟨hu, i0, hi0, hk, _⟩ := elemOf?_spec he
    unfold execOp; rw [hop]
    simp [ha s _ hs, ha x _ hx, Instr.sliceAt, run_underlying' hu, Instr.slice, Instr.sliceBounds, Instr.sliceBound, asIntOf, sizeOf, typeInfo, hi0]⟩
/-- a call that needs nothing owned and hands out owned blocks -/
theorem C_callF {c : Call} {f : FuncId} {vs : List Value} {R : OCont} (x : FSpec P f vs.toArray h [] R) (hop : o.op = .call c) (hc : c.callee = .value (.func f)) (hvs : evs fr c.args.toList vs) (hcal : callOk P f = true) (k : ∀ h' M v, le h h' → R h' M v → K h' M v) : OPc P r o fr h L K := by
  obtain ⟨fn, hfn, hn, hb⟩ := callOk_spec hcal
  exact OPc_call (first := #[]) (cap := #[]) (R := R) hop hc rfl hvs hfn hn hb (by simpa using x) fun h' L' v hl q => k h' L' v hl q
/-- append(nil, make([]T, n)...) -/
theorem C_appZ {c : Call} {s x : Operand} {t tn e k by_ : Nat} (n : Nat) {kn : IntKind} {i : Int} {z : List Value} (hop : o.op = .call c) (hc : c.callee = .builtin .append) (ha : c.args = #[s, x]) (hat : c.argTypes = #[t, tn])
    (hs : ev fr s = some (.slice none 0 0)) (hx : ev fr x = some (.int kn i)) (hi0 : i = (n : Int)) (he : elemOf? P t = some (e, k, by_)) (hz : zeroOf P e = some z) (hzk : z.length = k) (htn : P.underlying tn = some (.int .i64)) (h0 : 0 < n) (hk0 : 0 < k) (hb : n * by_ ≤ 281474976710656) (h63 : n ≤ 9223372036854775807)
    (kk : ∀ b cap rest, n ≤ cap → rest.length = cap * k → K h [(b, cells rest e)] (.slice (some ⟨b, 0, none⟩) n cap)) : OPc P r o fr h L K := by
  subst hi0
  obtain ⟨hu, i0, hi, hk, hby⟩ := elemOf?_spec he
  obtain ⟨i, zv, hi', hz0, hzc⟩ := zeroOf_spec hz
  rw [hi] at hi'; cases hi'
  intro a hal w hw
  have hr := Go.Lib.run_append_nil_zeros (P := P) w t tn o.type e i0 zv kn .i64 hu htn hi hz0 n h0 (by omega) (by omega) (by rw [hby]; exact hb)
  have hex : (execOp a.eval o).run P w = .ok (.value (.slice (some ⟨w.heap.size, 0, none⟩) n (grownCap w n 0 e))) (w.drew.alloc (.cells (Builtin.zeroCells zv.cells n ++ Builtin.zeroCells zv.cells (grownCap w n 0 e - n)) e)) := by
    unfold execOp; rw [hop]
    simp [resolve, hc, ha, hat, invoke, builtin, hal s _ hs, hal x _ hx, hr]
  have hge := grownCap_ge w n 0 e
  refine wpIn_of_value (fun c' => by rw [hop]; simp) hex ⟨h, [(w.heap.size, cells (Builtin.zeroCells zv.cells n ++ Builtin.zeroCells zv.cells (grownCap w n 0 e - n)).toList e)], _, rfl, kk _ _ _ hge ?_, ?_⟩
  · simp [size_zeroCells, hzc, hzk, ← Nat.add_mul]; congr 1; omega
  · have hx := ext_drew_alloc hw (.cells (Builtin.zeroCells zv.cells n ++ Builtin.zeroCells zv.cells (grownCap w n 0 e - n)) e)
    have hob : (Obj.cells (Builtin.zeroCells zv.cells n ++ Builtin.zeroCells zv.cells (grownCap w n 0 e - n)) e) = cells (Builtin.zeroCells zv.cells n ++ Builtin.zeroCells zv.cells (grownCap w n 0 e - n)).toList e := by simp [cells]
    rw [hob] at hx ⊢
    exact hx
end
end Go.Mesh
