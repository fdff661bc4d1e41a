/- For every list of views and byte: ObserverAgreement returns true and leaves its arguments as they were. No condition. -/
import Derived.Test.YtfhoecgiahpddaaGreatChecked
import Derived.KernelRfl
import Derived.Test.YtfhoecgiahpddaaGreatRows
import Derived.WalkKit
import Derived.ProofKit
import Derived.OpenShut
import Derived.Carry
import Derived.Test.YtfhoecgiahpddaaGreatMaA
import Derived.Test.YtfhoecgiahpddaaGreatMaB
import Derived.Test.YtfhoecgiahpddaaGreatMaC
import Derived.Test.YtfhoecgiahpddaaGreatMaD
/-
  THE PROGRAM's DATA, OPENED: identities, values, nodes, graphs, references, letters, flights, stubs, scions, views.
-/
set_option linter.all false
namespace Go.Proofs.YtfhoecgiahpddaaGreat
open Go.Mesh Go.RowKit
set_option linter.unusedVariables false
set_option maxRecDepth 100000
section
variable {H : Type} {enc : TypeId × Value → H} {w : World} {cs : List Value}
theorem len1 {a : List Value} {n : Nat} (h : a.length = n) (hn : n = 1) : ∃ x, a = [x] := by
  subst hn
  match a, h with
  | [x], _ => exact ⟨x, rfl⟩
theorem len2 {a : List Value} {n : Nat} (h : a.length = n) (hn : n = 2) : ∃ x y, a = [x, y] := by
  subst hn
  match a, h with
  | [x, y], _ => exact ⟨x, y, rfl⟩
theorem len5 {a : List Value} {n : Nat} (h : a.length = n) (hn : n = 5) : ∃ x1 x2 x3 x4 x5, a = [x1, x2, x3, x4, x5] := by
  subst hn
  match a, h with
  | [x1, x2, x3, x4, x5], _ => exact ⟨_, _, _, _, _, rfl⟩
theorem len7 {a : List Value} {n : Nat} (h : a.length = n) (hn : n = 7) : ∃ x1 x2 x3 x4 x5 x6 x7, a = [x1, x2, x3, x4, x5, x6, x7] := by
  subst hn
  match a, h with
  | [x1, x2, x3, x4, x5, x6, x7], _ => exact ⟨_, _, _, _, _, _, _, rfl⟩
theorem len8 {a : List Value} {n : Nat} (h : a.length = n) (hn : n = 8) : ∃ x1 x2 x3 x4 x5 x6 x7 x8, a = [x1, x2, x3, x4, x5, x6, x7, x8] := by
  subst hn
  match a, h with
  | [x1, x2, x3, x4, x5, x6, x7, x8], _ => exact ⟨_, _, _, _, _, _, _, _, rfl⟩
theorem id_of (h : TR enc Tryz.prog w 35 cs) : ∃ y : ID, cs = idc y := by
  obtain ⟨_, a, _, rfl, ⟨_, h1⟩, b, _, rfl, ⟨_, h2⟩, rfl⟩ := h.struct (tys := [3, 3]) Tryz.underlying35 (by kernel_rfl) rfl
  obtain ⟨x, rfl, _⟩ := h1.int Tryz.underlying3
  obtain ⟨y, rfl, _⟩ := h2.int Tryz.underlying3
  exact ⟨(x, y), rfl⟩
theorem val_of (h : TR enc Tryz.prog w 42 cs) : ∃ y : Val, cs.length = 4 ∧ ones cs = true ∧ ValC (hpOf w) y cs := by
  obtain ⟨_, a, _, rfl, ⟨_, h1⟩, b, _, rfl, ⟨_, h2⟩, c, _, rfl, ⟨_, h3⟩, rfl⟩ := h.struct (tys := [3, 2, 35]) Tryz.underlying42 (by kernel_rfl) rfl
  obtain ⟨x, rfl, _⟩ := h1.int Tryz.underlying3
  obtain ⟨y, rfl, _⟩ := h2.int Tryz.underlying2
  obtain ⟨z, rfl⟩ := id_of h3
  exact ⟨(x, y, z), rfl, rfl, rfl⟩
theorem idE_of (h : TR enc Tryz.prog w 35 cs) : ∃ y : ID, cs.length = 2 ∧ ones cs = true ∧ IDC (hpOf w) y cs := by
  obtain ⟨y, rfl⟩ := id_of h
  exact ⟨y, rfl, rfl, rfl⟩
theorem int_of (h : TR enc Tryz.prog w 3 cs) : ∃ y : Int, cs.length = 1 ∧ ones cs = true ∧ IntC (hpOf w) y cs := by
  obtain ⟨x, rfl, _⟩ := h.int Tryz.underlying3
  exact ⟨x, rfl, rfl, rfl⟩
theorem ref_of (h : TR enc Tryz.prog w 76 cs) : ∃ y : Ref, cs.length = 8 ∧ ones cs = true ∧ RefC (hpOf w) y cs := by
  obtain ⟨_, a, _, rfl, ⟨_, h1⟩, b, _, rfl, ⟨_, h2⟩, c, _, rfl, ⟨_, h3⟩, d, _, rfl, ⟨_, h4⟩, e, _, rfl, ⟨_, h5⟩, f, _, rfl, ⟨_, h6⟩, g, _, rfl, ⟨_, h7⟩, rfl⟩ := h.struct (tys := [3, 2, 3, 60, 35, 3, 4]) Tryz.underlying76 (by kernel_rfl) rfl
  obtain ⟨x1, rfl, _⟩ := h1.int Tryz.underlying3
  obtain ⟨x2, rfl, _⟩ := h2.int Tryz.underlying2
  obtain ⟨x3, rfl, _⟩ := h3.int Tryz.underlying3
  obtain ⟨x4, rfl, _⟩ := h4.int Tryz.underlying60
  obtain ⟨x5, rfl⟩ := id_of h5
  obtain ⟨x6, rfl, _⟩ := h6.int Tryz.underlying3
  obtain ⟨x7, rfl⟩ := h7.bool Tryz.underlying4
  exact ⟨⟨x1, x2, x3, x4, x5, x6, x7⟩, rfl, rfl, rfl⟩
theorem node_of (h : TR enc Tryz.prog w 38 cs) : ∃ y : Nd, cs.length = 5 ∧ ones cs = true ∧ NodeC 9223372036854775807 (hpOf w) y cs := by
  obtain ⟨_, a, _, rfl, ⟨_, h1⟩, b, _, rfl, ⟨_, h2⟩, c, _, rfl, ⟨_, h3⟩, d, _, rfl, ⟨_, h4⟩, rfl⟩ := h.struct (tys := [35, 3, 3, 36]) Tryz.underlying38 (by kernel_rfl) rfl
  obtain ⟨x1, rfl⟩ := id_of h1
  obtain ⟨x2, rfl, _⟩ := h2.int Tryz.underlying3
  obtain ⟨x3, rfl, _⟩ := h3.int Tryz.underlying3
  obtain ⟨p, c, xs, rfl, s⟩ := h4.slice (C := ValC) Tryz.underlying36 (by kernel_rfl) (by decide) fun _ => val_of
  exact ⟨⟨x1, x2, x3, xs⟩, rfl, rfl, p, c, rfl, s⟩
theorem graph_of (h : TR enc Tryz.prog w 27 cs) : ∃ y : List Nd, cs.length = 1 ∧ ones cs = true ∧ GraphC 9223372036854775807 (hpOf w) y cs := by
  obtain ⟨_, a, _, rfl, ⟨_, h1⟩, rfl⟩ := h.struct (tys := [25]) Tryz.underlying27 (by kernel_rfl) rfl
  obtain ⟨p, c, xs, rfl, s⟩ := h1.slice (C := NodeC 9223372036854775807) Tryz.underlying25 (by kernel_rfl) (by decide) fun _ => node_of
  exact ⟨xs, rfl, rfl, p, c, rfl, s⟩
theorem letter_of (h : TR enc Tryz.prog w 79 cs) : ∃ y : List Ref, cs.length = 4 ∧ ones cs = true ∧ LetterC 9223372036854775807 (hpOf w) y cs := by
  obtain ⟨_, a, _, rfl, ⟨_, h1⟩, b, _, rfl, ⟨_, h2⟩, c, _, rfl, ⟨_, h3⟩, rfl⟩ := h.struct (tys := [35, 9, 77]) Tryz.underlying79 (by kernel_rfl) rfl
  obtain ⟨x1, rfl⟩ := id_of h1
  obtain ⟨x2, rfl⟩ := h2.str Tryz.underlying9
  obtain ⟨p, c, xs, rfl, s⟩ := h3.slice (C := RefC) Tryz.underlying77 (by kernel_rfl) (by decide) fun _ => ref_of
  exact ⟨xs, rfl, rfl, _, _, _, p, c, rfl, s⟩
theorem stub_of (h : TR enc Tryz.prog w 63 cs) : ∃ y : StubE, cs.length = 12 ∧ ones cs = true ∧ StubC (hpOf w) y cs := by
  have ho := h.ones 5 (by kernel_rfl)
  obtain ⟨_, a, _, rfl, ⟨_, h1⟩, b, _, rfl, ⟨_, h2⟩, c, _, rfl, ⟨_, h3⟩, d, _, rfl, ⟨l4, h4⟩, e, _, rfl, ⟨l5, h5⟩, f, _, rfl, ⟨l6, h6⟩, g, _, rfl, ⟨l7, h7⟩, g8, _, rfl, ⟨_, h8⟩, g9, _, rfl, ⟨_, h9⟩, g10, _, rfl, ⟨l10, h10⟩, rfl⟩ := h.struct (tys := [3, 60, 35, 3, 3, 3, 4, 4, 4, 61]) Tryz.underlying63 (by kernel_rfl) rfl
  obtain ⟨x1, rfl, _⟩ := h1.int Tryz.underlying3
  obtain ⟨x2, rfl, _⟩ := h2.int Tryz.underlying60
  obtain ⟨x3, rfl⟩ := id_of h3
  obtain ⟨x4, rfl⟩ := len1 l4 (by kernel_rfl)
  obtain ⟨x5, rfl⟩ := len1 l5 (by kernel_rfl)
  obtain ⟨x6, rfl⟩ := len1 l6 (by kernel_rfl)
  obtain ⟨x7, rfl⟩ := len1 l7 (by kernel_rfl)
  obtain ⟨x8, rfl⟩ := h8.bool Tryz.underlying4
  obtain ⟨x9, rfl⟩ := h9.bool Tryz.underlying4
  obtain ⟨x10, x11, rfl⟩ := len2 l10 (by kernel_rfl)
  exact ⟨⟨x1, x2, x3, x8, x9⟩, rfl, ho, _, _, _, _, _, _, rfl⟩
theorem scion_of (h : TR enc Tryz.prog w 128 cs) : ∃ y : ScionE, cs.length = 12 ∧ ones cs = true ∧ ScionC (hpOf w) y cs := by
  have ho := h.ones 5 (by kernel_rfl)
  obtain ⟨_, a, _, rfl, ⟨_, h1⟩, b, _, rfl, ⟨_, h2⟩, c, _, rfl, ⟨_, h3⟩, d, _, rfl, ⟨l4, h4⟩, e, _, rfl, ⟨l5, h5⟩, f, _, rfl, ⟨l6, h6⟩, g, _, rfl, ⟨l7, h7⟩, g8, _, rfl, ⟨l8, h8⟩, g9, _, rfl, ⟨l9, h9⟩, g10, _, rfl, ⟨l10, h10⟩, rfl⟩ := h.struct (tys := [3, 60, 35, 3, 3, 3, 4, 4, 4, 61]) Tryz.underlying128 (by kernel_rfl) rfl
  obtain ⟨x1, rfl, _⟩ := h1.int Tryz.underlying3
  obtain ⟨x2, rfl, _⟩ := h2.int Tryz.underlying60
  obtain ⟨x3, rfl⟩ := id_of h3
  obtain ⟨x4, rfl⟩ := len1 l4 (by kernel_rfl)
  obtain ⟨x5, rfl⟩ := len1 l5 (by kernel_rfl)
  obtain ⟨x6, rfl⟩ := len1 l6 (by kernel_rfl)
  obtain ⟨x7, rfl⟩ := len1 l7 (by kernel_rfl)
  obtain ⟨x8, rfl⟩ := len1 l8 (by kernel_rfl)
  obtain ⟨x9, rfl⟩ := len1 l9 (by kernel_rfl)
  obtain ⟨x10, x11, rfl⟩ := len2 l10 (by kernel_rfl)
  exact ⟨⟨x1, x2, x3⟩, rfl, ho, _, _, _, _, _, _, _, _, rfl⟩
theorem named_of (h : TR enc Tryz.prog w 106 cs) : ∃ y : ID, cs.length = 3 ∧ ones cs = true ∧ NamedC (hpOf w) y cs := by
  obtain ⟨_, a, _, rfl, ⟨_, h1⟩, b, _, rfl, ⟨_, h2⟩, rfl⟩ := h.struct (tys := [9, 35]) Tryz.underlying106 (by kernel_rfl) rfl
  obtain ⟨x1, rfl⟩ := h1.str Tryz.underlying9
  obtain ⟨x2, rfl⟩ := id_of h2
  exact ⟨x2, rfl, rfl, _, rfl⟩
theorem mail_of (h : TR enc Tryz.prog w 74 cs) : ∃ y : MailE, cs.length = 6 ∧ ones cs = true ∧ MailC 9223372036854775807 (hpOf w) y cs := by
  obtain ⟨_, a, _, rfl, ⟨_, h1⟩, b, _, rfl, ⟨_, h2⟩, c, _, rfl, ⟨_, h3⟩, d, _, rfl, ⟨_, h4⟩, rfl⟩ := h.struct (tys := [35, 35, 9, 36]) Tryz.underlying74 (by kernel_rfl) rfl
  obtain ⟨x1, rfl⟩ := id_of h1
  obtain ⟨x2, rfl⟩ := id_of h2
  obtain ⟨x3, rfl⟩ := h3.str Tryz.underlying9
  obtain ⟨p, c, xs, rfl, s⟩ := h4.slice (C := ValC) Tryz.underlying36 (by kernel_rfl) (by decide) fun _ => val_of
  exact ⟨⟨x2, xs⟩, rfl, rfl, _, _, _, p, c, rfl, s⟩
theorem flight_of (h : TR enc Tryz.prog w 93 cs) : ∃ y : Flight, cs.length = 41 ∧ ones cs = true ∧ FlightC 9223372036854775807 (hpOf w) y cs := by
  have ho := h.ones 9 (by kernel_rfl)
  obtain ⟨_, a, _, rfl, ⟨_, h1⟩, b, _, rfl, ⟨_, h2⟩, c, _, rfl, ⟨_, hm⟩, rfl⟩ := h.struct (tys := [3, 3, 91]) Tryz.underlying93 (by kernel_rfl) rfl
  obtain ⟨_, a, _, rfl, ⟨_, m1⟩, b, _, rfl, ⟨_, m2⟩, c, _, rfl, ⟨l3, m3⟩, d, _, rfl, ⟨l4, m4⟩, e, _, rfl, ⟨_, m5⟩, f, _, rfl, ⟨_, m6⟩, g, _, rfl, ⟨_, m7⟩, g8, _, rfl, ⟨l8, m8⟩, g9, _, rfl, ⟨l9, m9⟩, g10, _, rfl, ⟨l10, m10⟩, rfl⟩ := hm.struct (tys := [3, 60, 3, 9, 76, 79, 83, 61, 86, 89]) Tryz.underlying91 (by kernel_rfl) rfl
  obtain ⟨_, a, _, rfl, ⟨_, p1⟩, b, _, rfl, ⟨_, p2⟩, c, _, rfl, ⟨_, p3⟩, d, _, rfl, ⟨_, p4⟩, e, _, rfl, ⟨_, p5⟩, f, _, rfl, ⟨_, p6⟩, g, _, rfl, ⟨lw, p7⟩, rfl⟩ := m7.struct (tys := [60, 35, 3, 3, 77, 80, 81]) Tryz.underlying83 (by kernel_rfl) rfl
  obtain ⟨to, rfl, _⟩ := h1.int Tryz.underlying3
  obtain ⟨seq, rfl, _⟩ := h2.int Tryz.underlying3
  obtain ⟨kd, rfl, _⟩ := m1.int Tryz.underlying3
  obtain ⟨nu, rfl, _⟩ := m2.int Tryz.underlying60
  obtain ⟨a1, rfl⟩ := len1 l3 (by kernel_rfl)
  obtain ⟨a2, rfl⟩ := len1 l4 (by kernel_rfl)
  obtain ⟨rf, _, _, hr⟩ := ref_of m5
  cases hr
  obtain ⟨lt, _, _, b1, b2, b3, pa, qa, rfl, sa⟩ := letter_of m6
  obtain ⟨pn, rfl, _⟩ := p1.int Tryz.underlying60
  obtain ⟨pi, rfl⟩ := id_of p2
  obtain ⟨pk, rfl, _⟩ := p3.int Tryz.underlying3
  obtain ⟨pc, rfl, _⟩ := p4.int Tryz.underlying3
  obtain ⟨pf, qf, fs, rfl, sf⟩ := p5.slice (C := RefC) Tryz.underlying77 (by kernel_rfl) (by decide) fun _ => ref_of
  obtain ⟨pm, qm, ms, rfl, sm⟩ := p6.slice (C := LetterC 9223372036854775807) Tryz.underlying80 (by kernel_rfl) (by decide) fun _ => letter_of
  obtain ⟨wv, rfl⟩ := len1 lw (by kernel_rfl)
  obtain ⟨y1, y2, rfl⟩ := len2 l8 (by kernel_rfl)
  obtain ⟨y3, y4, y5, y6, y7, y8, y9, y10, rfl⟩ := len8 l9 (by kernel_rfl)
  obtain ⟨z1, z2, z3, z4, z5, rfl⟩ := len5 l10 (by kernel_rfl)
  exact ⟨⟨to, seq, ⟨kd, nu, rf, lt, ⟨pn, pi, pk, pc, fs, ms⟩⟩⟩, rfl, ho, a1, a2, b1, b2, b3, pa, qa, pf, qf, pm, qm, wv, y1, y2, y3, y4, y5, y6, y7, y8, y9, y10, z1, z2, z3, z4, z5, rfl, sa, sf, sm⟩
theorem wf_i64 {n : Int} (h : (Lit.int .i64 n).wf = true) : inI64 n := by
  simp [Lit.wf, IntKind.min, IntKind.max, IntKind.signed, IntKind.bits] at h
  unfold inI64; omega
theorem view_of (h : TR enc Tryz.prog w 57 cs) : ∃ y : View, cs.length = 13 ∧ ones cs = true ∧ ViewC 9223372036854775807 (hpOf w) y cs := by
  have ho := h.ones 12 (by kernel_rfl)
  obtain ⟨_, a, _, rfl, ⟨_, h1⟩, b, _, rfl, ⟨l2, h2⟩, c, _, rfl, ⟨_, h3⟩, d, _, rfl, ⟨_, h4⟩, e, _, rfl, ⟨_, h5⟩, f, _, rfl, ⟨_, h6⟩, g, _, rfl, ⟨_, h7⟩, g8, _, rfl, ⟨l8, h8⟩, g9, _, rfl, ⟨l9, h9⟩, g10, _, rfl, ⟨_, h10⟩, g11, _, rfl, ⟨_, h11⟩, g12, _, rfl, ⟨l12, h12⟩, g13, _, rfl, ⟨l13, h13⟩, rfl⟩ :=
    h.struct (tys := [3, 3, 27, 50, 51, 52, 53, 54, 31, 55, 46, 3, 3]) Tryz.underlying57 (by kernel_rfl) rfl
  obtain ⟨m, rfl, hw⟩ := h1.int Tryz.underlying3
  obtain ⟨md, rfl⟩ := len1 l2 (by kernel_rfl)
  obtain ⟨g, _, _, po, co, rfl, s1⟩ := graph_of h3
  obtain ⟨ps, qs, st, rfl, s2⟩ := h4.slice (C := StubC) Tryz.underlying50 (by kernel_rfl) (by decide) fun _ => stub_of
  obtain ⟨pc, qc, sc, rfl, s3⟩ := h5.slice (C := ScionC) Tryz.underlying51 (by kernel_rfl) (by decide) fun _ => scion_of
  obtain ⟨pn, qn, nm, rfl, s4⟩ := h6.slice (C := NamedC) Tryz.underlying52 (by kernel_rfl) (by decide) fun _ => named_of
  obtain ⟨pm, qm, ml, rfl, s5⟩ := h7.slice (C := MailC 9223372036854775807) Tryz.underlying53 (by kernel_rfl) (by decide) fun _ => mail_of
  obtain ⟨w1, rfl⟩ := len1 l8 (by kernel_rfl)
  obtain ⟨w2, rfl⟩ := len1 l9 (by kernel_rfl)
  obtain ⟨pf, qf, fl, rfl, s6⟩ := h10.slice (C := FlightC 9223372036854775807) Tryz.underlying55 (by kernel_rfl) (by decide) fun _ => flight_of
  obtain ⟨pr, qr, rv, rfl, s7⟩ := h11.slice (C := IntC) Tryz.underlying46 (by kernel_rfl) (by decide) fun _ => int_of
  obtain ⟨e1, rfl⟩ := len1 l12 (by kernel_rfl)
  obtain ⟨e2, rfl⟩ := len1 l13 (by kernel_rfl)
  exact ⟨⟨m, g, st, sc, nm, ml, fl, rv⟩, rfl, ho, wf_i64 hw, md, po, co, ps, qs, pc, qc, pn, qn, pm, qm, w1, w2, pf, qf, pr, qr, e1, e2, rfl, s1, s2, s3, s4, s5, s6, s7⟩
/-- an identity -/
theorem idv_of {v : Value} {d : DataW H} {ps : List MemPlace} {r : Go.Reach} {b0 : Nat} (hval : Value.okWide Tryz.prog w r b0 35 v) (h : DataW.Trod enc Tryz.prog w 0 (fun _ => true) true 35 v d ps) : ∃ id : ID, v = .agg (idc id).toArray := by
  obtain ⟨cs, rfl, _⟩ := Go.WideShapes.okWide_struct Tryz.underlying35 hval
  obtain ⟨fuel, hf⟩ := h
  have ht : TR enc Tryz.prog w 35 cs.toList := ⟨fuel, _, hf⟩
  obtain ⟨y, hy⟩ := id_of ht
  exact ⟨y, by rw [← hy]⟩
/-- the argument of the laws -/
theorem views_of {v : Value} {d : DataW H} {ps : List MemPlace} {r : Go.Reach} {b0 : Nat} (hval : Value.okWide Tryz.prog w r b0 22 v) (h : DataW.Trod enc Tryz.prog w 0 (fun _ => true) true 22 v d ps) : ∃ vs : List View, SLB 9223372036854775807 (hpOf w) 13 (ViewC 9223372036854775807) v vs := by
  obtain ⟨a, len, cap, rfl⟩ := Go.WideShapes.okWide_slice Tryz.underlying22 hval
  obtain ⟨fuel, hf⟩ := h
  have ht : TR enc Tryz.prog w 22 [.slice a len cap] := ⟨fuel, _, hf⟩
  obtain ⟨p, c, xs, e, s⟩ := ht.slice (C := ViewC 9223372036854775807) Tryz.underlying22 (by kernel_rfl) (by decide) fun _ => view_of
  cases e
  exact ⟨xs, s⟩
end
end Go.Proofs.YtfhoecgiahpddaaGreat
/-
  FROM A CONTRACT TO A ROW's STEP: what was in memory is as it was; the arguments read as they did.
-/
set_option linter.all false
namespace Go.Mesh
open Go.RowKit
section
variable {H : Type} {enc : TypeId × Value → H} {P : Program} {W W' : World}
/-- the old blocks are as they were -/
structure Same (W W' : World) : Prop where
  os : W'.os = W.os
  output : W'.output = W.output
  block : ∀ b, b < W.heap.size → W'.heap[b]? = W.heap[b]?
theorem Same.kept (x : Same W W') (may : MemPlace → Prop) : W.keptBut W' may := by
  refine ⟨x.os, x.output, fun i hi => ?_⟩
  have hk := (World.keptBut_refl W may).2.2 i hi
  rw [x.block i hi]
  exact hk
theorem Same.at (x : Same W W') {p : MemPlace} (hp : p.block < W.heap.size) : W.sameAt W' p := by
  cases p with
  | cell b off => simp only [World.sameAt, World.cell?]; rw [x.block b hp]
  | map b => exact x.block b hp
theorem TrodAll_same (hl : laidOutB P = true) (x : Same W W') {sp : Nat → Bool} : ∀ (ts : List TypeId) (vs : List Value) (ds : List (DataW H)) (ps : List MemPlace), (∀ t, t ∈ ts → P.readableRec t = true ∧ t < P.types.size) →
    DataW.TrodAll enc P W 0 (fun _ => true) true ts vs ds ps → (∀ p, p ∈ ps → p.block < W.heap.size) → (∀ p, p ∈ ps → sp p.block = true) → DataW.TrodAll enc P W' 0 sp true ts vs ds ps
  | [], [], [], ps, _, h, _, _ => h
  | t :: ts, v :: vs, d :: ds, ps, hr, h, hlt, hs => by
    obtain ⟨p, q, h1, h2, rfl⟩ := h
    obtain ⟨hr1, hr2⟩ := hr t (List.mem_cons_self ..)
    refine ⟨p, q, WideElems.Trod_stays hl hr1 hr2 h1 (fun y hy => x.at (hlt y (List.mem_append_left _ hy))) (fun y hy => hs y (List.mem_append_left _ hy)), ?_, rfl⟩
    exact TrodAll_same hl x ts vs ds q (fun u hu => hr u (List.mem_cons_of_mem _ hu)) h2 (fun y hy => hlt y (List.mem_append_right _ hy)) (fun y hy => hs y (List.mem_append_right _ hy))
theorem calls_of_pspec {f : FuncId} {args : Array Value} {v : Value} (x : PSpec P f args (hpOf W) (fun _ u => u = v)) : Calls P f args W fun e W' => e = .returned v ∧ Same W W' := by
  refine (x W (Holds.all W)).mono ?_
  rintro e W' ⟨u, h', L', rfl, ⟨_, rfl⟩, y⟩
  exact ⟨rfl, y.os, y.output, fun b hb => y.frame b hb (by simp [ids])⟩
/-- what a law that returns true leaves -/
theorem law_post {f : Func} {s : ChangeSpec} {args : Array Value} {ds gs : List (DataW H)} {before : List MemPlace} (hl : laidOutB P = true) (hr : ∀ t, t ∈ f.params.toList → P.readableRec t = true ∧ t < P.types.size)
    (hvars : s.vars = []) (hW : DataW.Whole enc P f.params.toList s.vars false W args.toList ds gs before) (hfn : (s.fn H (ds ++ gs)).results = [.lit (.bool true)] ∧ (s.fn H (ds ++ gs)).args = ds ∧ (s.fn H (ds ++ gs)).vars = []) (hb : P.underlying 4 = some .bool) (hres : f.resultTypes = #[4])
    (x : Same W W') : s.post enc P f false true false false W args (.bool true) W' := by
  have hlt := fun p hp => hW.lt p hp
  obtain ⟨h1, h2, h3⟩ := hfn
  have hW' := hW
  obtain ⟨p, q, hA, hV, rfl, hfz, hnd⟩ := hW
  have hq : q = [] := by
    rw [hvars] at hV
    cases gs with
    | nil => exact hV
    | cons g gs => exact hV.elim
  subst hq
  refine ⟨ds, gs, p ++ [], [], p, [], hW', ?_, ?_, ?_, x.kept _, fun h => by cases h⟩
  · rw [h1, hres]
    exact trodAll_cons_mk (p' := []) (shut_bool hb true) rfl
  · rw [h2]
    exact TrodAll_same hl x _ _ _ _ hr hA (fun y hy => hlt y (by simpa using hy)) (fun y hy => by simpa using hlt y (by simpa using hy))
  · rw [h3, hvars]; rfl
end
end Go.Mesh
/-
  ARGUMENTS, OPENED FURTHER: a slice's capacity; an unsigned byte.
-/
set_option linter.all false
namespace Go.Proofs.YtfhoecgiahpddaaGreat
open Go.Mesh Go.RowKit Go.ChangeShapes
set_option linter.unusedVariables false
set_option maxRecDepth 100000
section
variable {H : Type} {enc : TypeId × Value → H} {w : World}
theorem TR.cap {P : Program} {t e : TypeId} {p : Option Addr} {n c : Nat} (h : TR enc P w t [.slice p n c]) (ht : P.underlying t = some (.slice e)) : n ≤ c := by
  obtain ⟨_, _, h⟩ := h
  rcases DataW.trod_slice ht h with ⟨e1, _⟩ | ⟨a, len, cap, elems, rest, n', _, e1, _, _, hlc, hcm, hel2, hget, _⟩
  · cases e1; exact Nat.le_refl _
  · cases e1; exact hlc
theorem viewsC_of {v : Value} {d : DataW H} {ps : List MemPlace} {r : Go.Reach} {b0 : Nat} (hval : Value.okWide Tryz.prog w r b0 22 v) (h : DataW.Trod enc Tryz.prog w 0 (fun _ => true) true 22 v d ps) :
    ∃ (p : Option Addr) (c : Nat) (vs : List View), v = .slice p vs.length c ∧ vs.length ≤ c ∧ SLB 9223372036854775807 (hpOf w) 13 (ViewC 9223372036854775807) (.slice p vs.length c) vs := by
  obtain ⟨a, len, cap, rfl⟩ := Go.WideShapes.okWide_slice Tryz.underlying22 hval
  obtain ⟨fuel, hf⟩ := h
  have ht : TR enc Tryz.prog w 22 [.slice a len cap] := ⟨fuel, _, hf⟩
  have hc := TR.cap ht Tryz.underlying22
  obtain ⟨p, c, xs, e, s⟩ := ht.slice (C := ViewC 9223372036854775807) Tryz.underlying22 (by kernel_rfl) (by decide) fun _ => view_of
  cases e
  exact ⟨_, _, xs, rfl, hc, s⟩
theorem u8_of {v : Value} {d : DataW H} {ps : List MemPlace} {r : Go.Reach} {b0 : Nat} (hval : Value.okWide Tryz.prog w r b0 5 v) (h : DataW.Trod enc Tryz.prog w 0 (fun _ => true) true 5 v d ps) : ∃ m : Nat, m ≤ 255 ∧ v = .int .u8 (m : Int) := by
  obtain ⟨n, rfl, -⟩ := open_int Tryz.underlying5 hval h
  obtain ⟨fuel, hf⟩ := h
  have ht : TR enc Tryz.prog w 5 [.int .u8 n] := ⟨fuel, _, hf⟩
  obtain ⟨m, e, hw⟩ := ht.int Tryz.underlying5
  cases e
  simp [Lit.wf, IntKind.min, IntKind.max, IntKind.signed, IntKind.bits] at hw
  exact ⟨n.toNat, by omega, by rw [Int.toNat_of_nonneg (by omega)]⟩
end
end Go.Proofs.YtfhoecgiahpddaaGreat
/- For every list of views and byte: ObserverAgreement returns true and leaves its arguments as they were. No condition. -/
set_option linter.all false
namespace Go.Proofs.YtfhoecgiahpddaaGreat
open Go.Mesh Go.RowKit Go.ChangeShapes Go.WideShapes Go.ChangeAt
set_option linter.unusedVariables false
theorem agr8_own : ownKnob Tryz.prog.godebug = none := by kernel_rfl
theorem agr8_laid : laidOutB Tryz.prog = true := by kernel_rfl
set_option maxRecDepth 100000 in
theorem agr8_lifted (os : Os) (started : os.Started) (H : Type) (enc : TypeId × Value → H) :
    ReturnsInHanded {} Tryz.checked os 8 .any (Rows.observerAgreementSpec.pre6 enc Tryz.prog Tryz.f8 Rows.observerAgreementRow.domain false) (Rows.observerAgreementSpec.post enc Tryz.prog Tryz.f8 false true false false) := by
  refine returnsInHanded_of_change (C := Tryz.checked) agr8_own started (by kernel_rfl) Tryz.func8
    (ChangeSpec.witness6 (enc := enc) (C := Tryz.checked) false ⟨#[], #[.slice none 0 0, .int .u8 0], []⟩ 8 (by kernel_rfl) (by kernel_rfl) (by kernel_rfl) (by kernel_rfl)) ?_
  intro W base args ds gs before hval0 hW hcnd _
  have hval : ∀ (j : Nat) t v, Tryz.f8.params[j]? = some t → args[j]? = some v → Value.okWide Tryz.prog W .any base t v := hval0
  have hW' := hW
  obtain ⟨p, q, hA0, hV, rfl, hfz, hnd⟩ := hW
  have hA : DataW.TrodAll enc Tryz.prog W 0 (fun _ => true) true Tryz.f8.params.toList args.toList ds p := hA0
  rw [Tryz.params8] at hA hval
  obtain ⟨v0, vs0, d0, ds0, p0, q0, hargs, rfl, rfl, h0, r0⟩ := trodAll_cons hA
  obtain ⟨v1, vs1, d1, ds1, p1, q1, rfl, rfl, rfl, h1, r1⟩ := trodAll_cons r0
  obtain ⟨rfl, rfl, rfl⟩ := trodAll_nil r1
  obtain rfl : args = #[v0, v1] := by cases args; simp_all
  obtain ⟨rfl, rfl⟩ := trodVars_none hV
  obtain ⟨pv, cv, vs, rfl, hcv, hs⟩ := viewsC_of (hval 0 22 v0 rfl rfl) h0
  obtain ⟨m, hm, rfl⟩ := u8_of (hval 1 5 v1 rfl rfl) h1
  refine (calls_of_pspec (lawAgreement_s hs hm)).mono fun e W' ⟨he, hg⟩ => ?_
  subst he
  refine ⟨_, rfl, law_post agr8_laid ?_ rfl hW' ⟨rfl, rfl, rfl⟩ Tryz.underlying4 (by kernel_rfl) hg⟩
  rw [Tryz.params8]
  intro t ht
  have : t = 22 ∨ t = 5 := by simpa using ht
  rcases this with rfl | rfl
  all_goals exact ⟨by kernel_rfl, of_decide_eq_true (by kernel_rfl)⟩
theorem agr8_over : Rows.observerAgreementRow.holds Tryz.pinned (OpenSpec.ofChange Rows.observerAgreementSpec) :=
  OpenClaim.holds_of_wide 8 Tryz.f8 rfl rfl rfl rfl rfl rfl rfl ⟨rfl, rfl, rfl, rfl, rfl⟩ rfl rfl rfl rfl rfl (by kernel_rfl) Tryz.func8 (by kernel_rfl)
    (of_decide_eq_true (by kernel_rfl)) (by unfold Func.isWrapper; first | (rw [if_pos (by decide +kernel)]; kernel_rfl) | (rw [if_neg (by decide +kernel)]; exact ⟨rfl, rfl⟩))
    (fun os started H enc _ => agr8_lifted os started H enc)
theorem observerAgreement_holds : Rows.ObserverAgreementSaid := agr8_over
#print axioms observerAgreement_holds
end Go.Proofs.YtfhoecgiahpddaaGreat
