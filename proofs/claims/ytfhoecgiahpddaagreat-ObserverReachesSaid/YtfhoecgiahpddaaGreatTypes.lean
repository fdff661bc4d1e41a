/-
  THE DATA OF THE PROGRAM (views, graphs, flights ..) and how their cells lie. Fields that the observer never looks into are left open.
-/
import Derived.Test.YtfhoecgiahpddaaGreatTabs
set_option linter.all false
namespace Go.Mesh
open Go.RowKit

structure Nd where
  id : ID
  kind : Int
  cls : Int
  fields : List Val
  deriving DecidableEq
structure Ref where
  kind : Int
  num : Int
  owner : Int
  number : Int
  id : ID
  cls : Int
  weak : Bool
structure Parcel where
  number : Int
  id : ID
  kind : Int
  cls : Int
  fields : List Ref
  mail : List (List Ref)
structure Msg where
  kind : Int
  number : Int
  ref : Ref
  args : List Ref
  parcel : Parcel
structure Flight where
  to : Int
  seq : Int
  msg : Msg
structure StubE where
  owner : Int
  number : Int
  id : ID
  weak : Bool
  dead : Bool
structure ScionE where
  client : Int
  number : Int
  id : ID
structure MailE where
  to : ID
  args : List Val
structure View where
  machine : Int
  objects : List Nd
  stubs : List StubE
  scions : List ScionE
  names : List ID
  mail : List MailE
  flights : List Flight
  received : List Int

def IntC : CR Int := fun _ x vs => vs = [.int .i64 x]
theorem IntC_mono : CMono IntC := fun _ _ _ _ _ e => e
def NodeC (B : Nat) : CR Nd := fun h n vs => ∃ p c, vs = [.int .i64 n.id.1, .int .i64 n.id.2, .int .i64 n.kind, .int .i64 n.cls, .slice p n.fields.length c] ∧ SLB B h 4 ValC (.slice p n.fields.length c) n.fields
theorem NodeC_mono (B : Nat) : CMono (NodeC B) := fun _ _ _ _ hl ⟨p, c, e, s⟩ => ⟨p, c, e, s.mono hl ValC_mono⟩
/-- a graph: one cell -/
def GraphC (B : Nat) : CR (List Nd) := fun h g vs => ∃ p c, vs = [.slice p g.length c] ∧ SLB B h 5 (NodeC B) (.slice p g.length c) g
theorem GraphC_mono (B : Nat) : CMono (GraphC B) := fun _ _ _ _ hl ⟨p, c, e, s⟩ => ⟨p, c, e, s.mono hl (NodeC_mono B)⟩
def rfc (r : Ref) : List Value := [.int .i64 r.kind, .int .i64 r.num, .int .i64 r.owner, .int .u64 r.number, .int .i64 r.id.1, .int .i64 r.id.2, .int .i64 r.cls, .bool r.weak]
def RefC : CR Ref := fun _ x vs => vs = rfc x
theorem RefC_mono : CMono RefC := fun _ _ _ _ _ e => e
/-- a letter: its arguments alone -/
def LetterC (B : Nat) : CR (List Ref) := fun h l vs => ∃ a b m p c, vs = [a, b, m, .slice p l.length c] ∧ SLB B h 8 RefC (.slice p l.length c) l
theorem LetterC_mono (B : Nat) : CMono (LetterC B) := fun _ _ _ _ hl ⟨a, b, m, p, c, e, s⟩ => ⟨a, b, m, p, c, e, s.mono hl RefC_mono⟩
def FlightC (B : Nat) : CR Flight := fun h x vs => ∃ a1 a2 b1 b2 b3 pa qa pf qf pm qm wv y1 y2 y3 y4 y5 y6 y7 y8 y9 y10 y11 y12 y13 y14 y15,
  vs = [.int .i64 x.to, .int .i64 x.seq, .int .i64 x.msg.kind, .int .u64 x.msg.number, a1, a2,
    .int .i64 x.msg.ref.kind, .int .i64 x.msg.ref.num, .int .i64 x.msg.ref.owner, .int .u64 x.msg.ref.number, .int .i64 x.msg.ref.id.1, .int .i64 x.msg.ref.id.2, .int .i64 x.msg.ref.cls, .bool x.msg.ref.weak,
    b1, b2, b3, .slice pa x.msg.args.length qa,
    .int .u64 x.msg.parcel.number, .int .i64 x.msg.parcel.id.1, .int .i64 x.msg.parcel.id.2, .int .i64 x.msg.parcel.kind, .int .i64 x.msg.parcel.cls, .slice pf x.msg.parcel.fields.length qf, .slice pm x.msg.parcel.mail.length qm, wv,
    y1, y2, y3, y4, y5, y6, y7, y8, y9, y10, y11, y12, y13, y14, y15] ∧
  SLB B h 8 RefC (.slice pa x.msg.args.length qa) x.msg.args ∧ SLB B h 8 RefC (.slice pf x.msg.parcel.fields.length qf) x.msg.parcel.fields ∧ SLB B h 4 (LetterC B) (.slice pm x.msg.parcel.mail.length qm) x.msg.parcel.mail
theorem FlightC_mono (B : Nat) : CMono (FlightC B) := by
  rintro h h' x vs hl ⟨a1, a2, b1, b2, b3, pa, qa, pf, qf, pm, qm, wv, y1, y2, y3, y4, y5, y6, y7, y8, y9, y10, y11, y12, y13, y14, y15, e, s1, s2, s3⟩
  exact ⟨a1, a2, b1, b2, b3, pa, qa, pf, qf, pm, qm, wv, y1, y2, y3, y4, y5, y6, y7, y8, y9, y10, y11, y12, y13, y14, y15, e, s1.mono hl RefC_mono, s2.mono hl RefC_mono, s3.mono hl (LetterC_mono B)⟩
def StubC : CR StubE := fun _ x vs => ∃ a b c d l1 l2, vs = [.int .i64 x.owner, .int .u64 x.number, .int .i64 x.id.1, .int .i64 x.id.2, a, b, c, d, .bool x.weak, .bool x.dead, l1, l2]
theorem StubC_mono : CMono StubC := fun _ _ _ _ _ e => e
def ScionC : CR ScionE := fun _ x vs => ∃ a b c d e f l1 l2, vs = [.int .i64 x.client, .int .u64 x.number, .int .i64 x.id.1, .int .i64 x.id.2, a, b, c, d, e, f, l1, l2]
theorem ScionC_mono : CMono ScionC := fun _ _ _ _ _ e => e
def NamedC : CR ID := fun _ x vs => ∃ s, vs = [s, .int .i64 x.1, .int .i64 x.2]
theorem NamedC_mono : CMono NamedC := fun _ _ _ _ _ e => e
def MailC (B : Nat) : CR MailE := fun h x vs => ∃ a b m p c, vs = [a, b, .int .i64 x.to.1, .int .i64 x.to.2, m, .slice p x.args.length c] ∧ SLB B h 4 ValC (.slice p x.args.length c) x.args
theorem MailC_mono (B : Nat) : CMono (MailC B) := fun _ _ _ _ hl ⟨a, b, m, p, c, e, s⟩ => ⟨a, b, m, p, c, e, s.mono hl ValC_mono⟩
/-- a number that fits -/
def inI64 (n : Int) : Prop := -9223372036854775808 ≤ n ∧ n ≤ 9223372036854775807
def ViewC (B : Nat) : CR View := fun h x vs => inI64 x.machine ∧ ∃ mode po co ps cs psc csc pn cn pm cm w1 w2 pf cf pr cr e1 e2,
  vs = [.int .i64 x.machine, mode, .slice po x.objects.length co, .slice ps x.stubs.length cs, .slice psc x.scions.length csc, .slice pn x.names.length cn, .slice pm x.mail.length cm, w1, w2, .slice pf x.flights.length cf, .slice pr x.received.length cr, e1, e2] ∧
  SLB B h 5 (NodeC B) (.slice po x.objects.length co) x.objects ∧ SLB B h 12 StubC (.slice ps x.stubs.length cs) x.stubs ∧ SLB B h 12 ScionC (.slice psc x.scions.length csc) x.scions ∧ SLB B h 3 NamedC (.slice pn x.names.length cn) x.names ∧
  SLB B h 6 (MailC B) (.slice pm x.mail.length cm) x.mail ∧ SLB B h 41 (FlightC B) (.slice pf x.flights.length cf) x.flights ∧ SLB B h 1 IntC (.slice pr x.received.length cr) x.received
theorem ViewC_mono (B : Nat) : CMono (ViewC B) := by
  rintro h h' x vs hl ⟨hi, mode, po, co, ps, cs, psc, csc, pn, cn, pm, cm, w1, w2, pf, cf, pr, cr, e1, e2, e, s1, s2, s3, s4, s5, s6, s7⟩
  exact ⟨hi, mode, po, co, ps, cs, psc, csc, pn, cn, pm, cm, w1, w2, pf, cf, pr, cr, e1, e2, e, s1.mono hl (NodeC_mono B), s2.mono hl StubC_mono, s3.mono hl ScionC_mono, s4.mono hl NamedC_mono, s5.mono hl (MailC_mono B), s6.mono hl (FlightC_mono B), s7.mono hl IntC_mono⟩
end Go.Mesh
