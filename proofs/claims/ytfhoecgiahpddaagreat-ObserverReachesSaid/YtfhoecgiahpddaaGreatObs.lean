/-
  WHAT THE OBSERVER COMPUTES, in plain words over plain data.
-/
import Derived.Test.YtfhoecgiahpddaaGreatFd
set_option linter.all false
namespace Go.Mesh
open Go.RowKit
def zeroV : View := ⟨0, [], [], [], [], [], [], []⟩
def viewOf (vs : List View) (m : Int) : Option View := vs.find? fun v => decide (v.machine = m)
def vwAt (vs : List View) (m : Int) : View := (viewOf vs m).getD zeroV
def idxOf (vs : List View) (m : Int) : Option Nat := vs.findIdx? fun v => decide (v.machine = m)
def recv (to : View) (m : Int) : Int := if 1 ≤ m ∧ m ≤ to.received.length then to.received.getD (m - 1).toNat 0 else 0
def flyB (vs : List View) (v : View) (x : Flight) : Bool := (viewOf vs x.to).isSome && decide (recv (vwAt vs x.to) v.machine < x.seq)
def scionOf (vs : List View) (machine client number : Int) : Option ScionE := (vwAt vs machine).scions.find? fun e => decide (e.client = client) && decide (e.number = number)
def moveOf (vs : List View) (frm to number : Int) : Option Flight := (vwAt vs frm).flights.find? fun x => decide (x.to = to) && (decide (x.msg.kind = 1) && (decide (x.msg.parcel.number = number) && flyB vs (vwAt vs frm) x))
def numberedOf (vs : List View) (frm to number : Int) : ID := match scionOf vs to frm number with
  | some e => e.id
  | none => match moveOf vs frm to number with
    | some x => x.msg.parcel.id
    | none => (0, 0)
def idOf (vs : List View) (frm to : Int) (r : Ref) : ID := if r.kind = 3 then r.id else if r.kind = 2 then numberedOf vs frm to r.number else (0, 0)
def valueOf (vs : List View) (frm to : Int) (r : Ref) : Val := if r.kind = 1 then (1, r.num, (0, 0)) else if idOf vs frm to r ≠ (0, 0) then (2, 0, idOf vs frm to r) else (0, 0, (0, 0))
/-- a fleet: its views, and a map from numbers to places -/
def FleetC : CR (List View) := fun h vs cs => ∃ p c mb ps, cs = [.slice p vs.length c, .map (some mb)] ∧ SLB 4398046511104 h 13 (ViewC 4398046511104) (.slice p vs.length c) vs ∧ IsMapP itv h mb ps ∧ ∀ m, mget m ps = (idxOf vs m).map fun (k : Nat) => .int .i64 (k : Int)
theorem FleetC_mono : CMono FleetC := fun _ _ _ _ hl ⟨p, c, mb, ps, e, s, m, q⟩ => ⟨p, c, mb, ps, e, s.mono hl (ViewC_mono _), m.up hl, q⟩
instance : CM FleetC := ⟨FleetC_mono⟩
theorem FleetC.up {h h' : Frag} {vs : List View} {cs : List Value} (x : FleetC h vs cs) (hl : le h h') : FleetC h' vs cs := FleetC_mono _ _ _ _ hl x
theorem ViewC.up {B : Nat} {h h' : Frag} {v : View} {cs : List Value} (x : ViewC B h v cs) (hl : le h h') : ViewC B h' v cs := ViewC_mono B _ _ _ _ hl x
theorem NodeC.up {B : Nat} {h h' : Frag} {v : Nd} {cs : List Value} (x : NodeC B h v cs) (hl : le h h') : NodeC B h' v cs := NodeC_mono B _ _ _ _ hl x
theorem GraphC.up {B : Nat} {h h' : Frag} {v : List Nd} {cs : List Value} (x : GraphC B h v cs) (hl : le h h') : GraphC B h' v cs := GraphC_mono B _ _ _ _ hl x
theorem FlightC.up {B : Nat} {h h' : Frag} {v : Flight} {cs : List Value} (x : FlightC B h v cs) (hl : le h h') : FlightC B h' v cs := FlightC_mono B _ _ _ _ hl x
theorem idxOf_take {vs : List View} {k : Nat} {v : View} {m : Int} (hv : vs[k]? = some v) : idxOf (vs.take (k + 1)) m = if (idxOf (vs.take k) m).isSome then idxOf (vs.take k) m else if v.machine = m then some k else none := by
  have hlt : k < vs.length := (List.getElem?_eq_some_iff.1 hv).1
  unfold idxOf
  rw [List.take_add_one, hv, List.findIdx?_append]
  cases h : (vs.take k).findIdx? fun v => decide (v.machine = m) with
  | some j => simp
  | none => by_cases hm : v.machine = m <;> simp [hm, Nat.min_eq_left (Nat.le_of_lt hlt)]
theorem idxOf_view {vs : List View} {m : Int} {k : Nat} (h : idxOf vs m = some k) : ∃ v, vs[k]? = some v ∧ viewOf vs m = some v := Go.Proofs.YtfhoecgiahpddaaGreat.findIdx_find h
theorem idxOf_none {vs : List View} {m : Int} (h : idxOf vs m = none) : viewOf vs m = none := Go.Proofs.YtfhoecgiahpddaaGreat.findIdx_none h
end Go.Mesh
