/-
  Part MAG of the proof's ground: X1, X2.
-/
import Derived.Test.YtcfedojmmfbbeaaGreatDoorMAC
/-
  A RUN THAT THE KERNEL RECKONS: values whose blocks have names in the place of addresses; a program's functions run over them.
-/
set_option linter.all false
namespace Go.Mesh
open Go.RowKit

/-! ### Tries -/
inductive Tr (α : Type) where
  | lf
  | nd (l : Tr α) (v : Option α) (r : Tr α)
def Tr.get {α : Type} : Tr α → Nat → Option α
  | .lf, _ => none
  | .nd l v r, k => bif Nat.beq k 0 then v else bif Nat.beq (Nat.mod k 2) 1 then l.get (Nat.div k 2) else r.get (Nat.sub (Nat.div k 2) 1)
def Tr.setF {α : Type} : Nat → Tr α → Nat → Option α → Tr α
  | 0, t, _, _ => t
  | f + 1, .lf, k, x => bif Nat.beq k 0 then .nd .lf x .lf else bif Nat.beq (Nat.mod k 2) 1 then .nd (Tr.setF f .lf (Nat.div k 2) x) none .lf else .nd .lf none (Tr.setF f .lf (Nat.sub (Nat.div k 2) 1) x)
  | f + 1, .nd l v r, k, x => bif Nat.beq k 0 then .nd l x r else bif Nat.beq (Nat.mod k 2) 1 then .nd (Tr.setF f l (Nat.div k 2) x) v r else .nd l v (Tr.setF f r (Nat.sub (Nat.div k 2) 1) x)
def Tr.set {α : Type} (t : Tr α) (k : Nat) (x : Option α) : Tr α := Tr.setF (Nat.succ k) t k x

/-! ### Values -/
/-- what is known of a slice's capacity: all; that it is its block's; no more than the least -/
inductive SlK where
  | exact | whole | part
def SlK.cut : SlK → SlK
  | .exact => .exact
  | _ => .part
def SlK.isExact : SlK → Bool
  | .exact => true
  | _ => false
def SlK.isWhole : SlK → Bool
  | .whole => true
  | _ => false
inductive AV where
  | bool (b : Bool)
  | int (k : IntKind) (n : Int)
  | str (s : List Nat)
  | lit (v : Value)
  | ptr (n off : Nat)
  | sl (n off len cap : Nat) (ex : SlK)
  | slS (n len cap : Nat)
  | ptrS (n off : Nat)
  | em
  | mp (n : Nat)
  | fn (f : FuncId) (first cap : List AV)
  | yld (n : Nat)
  | ifc (t : TypeId) (v : AV)
  | agg (cs : List AV)
  | tup (cs : List AV)
inductive AO where
  | cells (cs : List AV) (t : TypeId)
  | row (cs : List AV) (t : TypeId) (k me : Nat)
  | ro (cs : List AV) (t : TypeId)
  | roS (n : Nat) (cs : List AV)
  | map (es : List (AV × AV))
  | iter (m n : Nat) (seen : Bool)
  | loop (fr : Tr AV) (nt : Nat) (ps : List Tmp) (asg body : Code) (d : Nat) (st : LoopState) (pend : Option Code)
  | defd

def AV.ofV : Value → AV
  | .bool b => .bool b
  | .int k n => .int k n
  | .string s => .str (s.data.toList.map UInt8.toNat)
  | v => .lit v
def AV.ofC (v : Value) : AV :=
  match v with
  | .agg cs => .agg (cs.toList.map AV.ofV)
  | v => AV.ofV v
def AV.cells (v : AV) : List AV :=
  match v with
  | .agg cs => cs
  | .lit (.agg cs) => cs.toList.map AV.ofV
  | v => [v]
def AV.one : AV → Bool
  | .agg _ => false
  | .tup _ => false
  | .lit v => v.oneCell'
  | _ => true
def onesA : List AV → Bool
  | [] => true
  | v :: vs => bif v.one then onesA vs else false
def AV.ptr? : AV → Option (Nat × Nat)
  | .ptr n off => some (n, off)
  | _ => none
/-- a pointer into a block, or into a part of a block whose place in it is not told -/
def AV.at? : AV → Option (Nat × Nat)
  | .ptr n off => some (n, off)
  | .ptrS n off => some (n, off)
  | _ => none
def AV.nat? : AV → Option Nat
  | .int _ (.ofNat n) => some n
  | _ => none
def AV.bool? : AV → Option Bool
  | .bool b => some b
  | _ => none
def AV.mp? : AV → Option Nat
  | .mp n => some n
  | _ => none
def AV.agg? : AV → Option (List AV)
  | .agg cs => some cs
  | _ => none
def AV.tup? : AV → Option (List AV)
  | .tup cs => some cs
  | _ => none

structure St where
  fr : Tr AV
  nt : Nat
  next : Nat
  hp : Tr AO
  log : List (Nat × Nat × Nat)

def St.put (s : St) (d : Option Tmp) (v : AV) : Option St :=
  match d with
  | some d => bif Nat.blt d s.nt then some { s with fr := s.fr.set d (some v) } else none
  | none => some s
def St.new (s : St) (o : AO) : St := { s with next := Nat.succ s.next, hp := s.hp.set s.next (some o) }
/-- a block that is known at the start is not written -/
def n0 : Nat := 30
def St.upd (s : St) (n off k : Nat) (o : Option AO) : Option St := bif Nat.ble n0 n && Nat.blt n s.next then some { s with hp := s.hp.set n o, log := (n, off, k) :: s.log } else none
def big : Nat := 1000000000000

def aev (fr : Tr AV) : Operand → Option AV
  | .tmp t => fr.get t
  | .const v => some (AV.ofC v)
  | .global g => bif Nat.blt g 13 then some (.ptr g 0) else none
  | .func f => some (.fn f [] [])
def aevs (fr : Tr AV) : List Operand → Option (List AV)
  | [] => some []
  | x :: xs => (aev fr x).bind fun v => (aevs fr xs).bind fun vs => some (v :: vs)

/-! ### Lists -/
def nthL {α : Type} : List α → Nat → Option α
  | [], _ => none
  | a :: _, 0 => some a
  | _ :: l, n + 1 => nthL l n
def takeL {α : Type} : Nat → List α → List α
  | 0, _ => []
  | _ + 1, [] => []
  | n + 1, a :: l => a :: takeL n l
def dropL {α : Type} : Nat → List α → List α
  | 0, l => l
  | _ + 1, [] => []
  | n + 1, _ :: l => dropL n l
def lenL {α : Type} : List α → Nat
  | [] => 0
  | _ :: l => Nat.succ (lenL l)
def overL {α : Type} : List α → List α → List α
  | [], l => l
  | _ :: _, [] => []
  | x :: xs, _ :: l => x :: overL xs l
def putL {α : Type} : List α → Nat → List α → List α
  | l, 0, xs => overL xs l
  | [], _ + 1, _ => []
  | a :: l, n + 1, xs => a :: putL l n xs
def repL {α : Type} : Nat → List α → List α
  | 0, _ => []
  | n + 1, l => l ++ repL n l
/-- a part of a row of cells -/
def getPart (g : Bool) (k : Nat) (cs : List AV) (off : Nat) : Option AV :=
  bif g then (bif Nat.ble (Nat.add off k) (lenL cs) then some (.agg (takeL k (dropL off cs))) else none) else nthL cs off

/-! ### Operators -/
def wrapF (k : IntKind) (n : Int) : Int :=
  match n with
  | .ofNat m => bif Nat.blt m 128 then .ofNat m else k.wrap (.ofNat m)
  | .negSucc m => k.wrap (.negSucc m)
def cmpN (op : BinOp) (m n : Nat) : Option AV :=
  match op with
  | .lss => some (.bool (Nat.blt m n))
  | .leq => some (.bool (Nat.ble m n))
  | .gtr => some (.bool (Nat.blt n m))
  | .geq => some (.bool (Nat.ble n m))
  | .eql => some (.bool (Nat.beq m n))
  | .neq => some (.bool (not (Nat.beq m n)))
  | _ => none
def cmpI (op : BinOp) (m n : Int) : Option AV :=
  match m, n with
  | .ofNat a, .ofNat b => cmpN op a b
  | _, _ => match cmpV op m n with
    | some (.bool b) => some (.bool b)
    | _ => none
def binI (op : BinOp) (k : IntKind) (m n : Int) : Option AV :=
  match op with
  | .add => some (.int k (wrapF k (m + n)))
  | .sub => some (.int k (wrapF k (m - n)))
  | .mul => some (.int k (wrapF k (m * n)))
  | .and => some (.int k (k.wrap (BitVec.ofInt k.bits m &&& BitVec.ofInt k.bits n).toNat))
  | .or => some (.int k (k.wrap (BitVec.ofInt k.bits m ||| BitVec.ofInt k.bits n).toNat))
  | .shl | .shr => none
  | _ => cmpI op m n
def eqB : List Nat → List Nat → Bool
  | [], [] => true
  | a :: x, b :: y => bif Nat.beq a b then eqB x y else false
  | _, _ => false
def ltB : List Nat → List Nat → Bool
  | _, [] => false
  | [], _ :: _ => true
  | a :: x, b :: y => bif Nat.blt a b then true else bif Nat.beq a b then ltB x y else false
def binS (op : BinOp) (x y : List Nat) : Option AV :=
  match op with
  | .add => bif Nat.ble (Nat.add (lenL x) (lenL y)) 9223372036854775807 then some (.str (x ++ y)) else none
  | .eql => some (.bool (eqB x y))
  | .neq => some (.bool (not (eqB x y)))
  | .lss => some (.bool (ltB x y))
  | _ => none
/-- numbers, strings and bools that are the same -/
def eqV (c : Nat) (v w : AV) : Option Bool :=
  match v, w with
  | .int j a, .int k b => bif Nat.beq c 0 then (bif decide (j = k) then some (a == b) else none) else none
  | .str a, .str b => bif Nat.beq c 1 then some (eqB a b) else none
  | .bool a, .bool b => bif Nat.beq c 2 then some (a == b) else none
  | _, _ => none
def eqVs : List Nat → List AV → List AV → Option Bool
  | [], [], [] => some true
  | c :: cs, a :: x, b :: y => (eqV c a b).bind fun p => (eqVs cs x y).bind fun q => some (p && q)
  | _, _, _ => none
/-- the cells of a type that is a number, a string, a bool, or a struct of such -/
def leafsF (P : Program) (rec : TypeId → Option (List Nat)) (n : Nat) : Nat → List Field → Option (List Nat)
  | o, [] => bif o == n then some [] else none
  | o, f :: fs => bif f.name != "_" && f.offset == o && (P.info? f.type).isSome then (rec f.type).bind fun a => (leafsF P rec n (o + P.cellsOf f.type) fs).bind fun b => some (a ++ b) else none
def leafs (P : Program) : Nat → TypeId → Option (List Nat)
  | 0, _ => none
  | d + 1, t => match P.underlying t with
    | some (.int _) => bif P.cellsOf t == 1 then some [0] else none
    | some .string => bif P.cellsOf t == 1 then some [1] else none
    | some .bool => bif P.cellsOf t == 1 then some [2] else none
    | some (.struct fs) => bif P.stoodInHeld t then none else leafsF P (leafs P d) (P.cellsOf t) 0 fs.toList
    | _ => none
def structLeafs (P : Program) (t : TypeId) : Option (List Nat) :=
  match P.underlying t with
  | some (.struct _) => leafs P 6 t
  | _ => none
/-- '==' of aggregates, against nil -/
def eqA (P : Program) (t : TypeId) (x y : AV) : Option Bool :=
  match x, y with
  | .agg a, .agg b => (structLeafs P t).bind fun cs => eqVs cs a b
  | .bool a, .bool b => match P.underlying t with
    | some .bool => some (a == b)
    | _ => none
  | .fn .., .lit .nilFunc => match P.underlying t with
    | some (.func ..) => some false
    | _ => none
  | .lit .nilFunc, .lit .nilFunc => match P.underlying t with
    | some (.func ..) => some true
    | _ => none
  | .mp _, .lit (.map none) => match P.underlying t with
    | some (.map ..) => some false
    | _ => none
  | .ptr .., .lit (.pointer none) => match P.underlying t with
    | some (.pointer _) => some false
    | _ => none
  | .sl .., .lit (.slice none _ _) => match P.underlying t with
    | some (.slice _) => some false
    | _ => none
  | .lit (.slice none _ _), .lit (.slice none _ _) => match P.underlying t with
    | some (.slice _) => some true
    | _ => none
  | .lit .nilIface, .lit .nilIface => match P.underlying t with
    | some (.interface _) => some true
    | _ => none
  | _, _ => none
def shA (op : BinOp) (k : IntKind) (m n : Nat) : Option AV :=
  match op with
  | .shl => some (.int k (wrapF k (.ofNat (Nat.mul m (Nat.pow 2 (min n k.bits))))))
  | .shr => some (.int k (.ofNat (Nat.div m (Nat.pow 2 (min n k.bits)))))
  | _ => none
def eqOp (op : BinOp) (b : Bool) : Option AV :=
  match op with
  | .eql => some (.bool b)
  | .neq => some (.bool (not b))
  | _ => none
def isSh : BinOp → Bool
  | .shl => true
  | .shr => true
  | _ => false
def shI (op : BinOp) (k : IntKind) (m n : Int) : Option AV :=
  match m, n with
  | .ofNat a, .ofNat b => shA op k a b
  | _, _ => none
def binInt (op : BinOp) (k : IntKind) (m : Int) (q : IntKind) (n : Int) : Option AV :=
  bif isSh op then shI op k m n else bif decide (k = q) then binI op k m n else none
def hasConst (x y : Operand) : Bool :=
  match x, y with
  | .const _, _ => true
  | _, .const _ => true
  | _, _ => false
def binX (P : Program) (op : BinOp) (t : TypeId) (x y : Operand) (v w : AV) : Option AV :=
  match v, w with
  | .int k m, .int q n => binInt op k m q n
  | .str a, .str b => binS op a b
  | .lit .nilIface, _ => bif hasConst x y then (eqA P t v w).bind (eqOp op) else none
  | .agg _, _ => bif not (P.eqGuardType P.depth t) then (eqA P t v w).bind (eqOp op) else none
  | _, _ => (eqA P t v w).bind (eqOp op)

/-! ### Aggregates -/
def rowOf (fr : Tr AV) : List (Nat × Operand) → Option (List AV)
  | [] => some []
  | (_, x) :: xs => (aev fr x).bind fun v => (rowOf fr xs).bind fun vs => some (v.cells ++ vs)
def sizesOk (fr : Tr AV) (k : Nat) : Nat → List (Nat × Operand) → Bool
  | _, [] => true
  | j, (i, x) :: xs => bif Nat.beq i j then (match aev fr x with | some v => bif Nat.beq (lenL v.cells) k then sizesOk fr k (Nat.succ j) xs else false | none => false) else false
def fillS (P : Program) (fr : Tr AV) (t : TypeId) : List (Nat × Operand) → List AV → Option (List AV)
  | [], z => some z
  | (f, x) :: xs, z => (aev fr x).bind fun v => (fieldOf P t f).bind fun p => (tyOf P p.1).bind fun q =>
    bif Nat.beq (lenL v.cells) q.2 then (bif Nat.ble (Nat.add p.2 q.2) (lenL z) then fillS P fr t xs (putL z p.2 v.cells) else none) else none
def fillR (k : Nat) (fr : Tr AV) : List (Nat × Operand) → List AV → Option (List AV)
  | [], z => some z
  | (i, x) :: xs, z => (aev fr x).bind fun v => bif Nat.beq (lenL v.cells) k then (bif Nat.ble (Nat.add (Nat.mul i k) k) (lenL z) then fillR k fr xs (putL z (Nat.mul i k) v.cells) else none) else none
def zeroA (P : Program) (t : TypeId) : Option (List AV) := (zeroOf P t).bind fun l => some (l.map AV.ofV)
/-- an array type: its length, its element's cells -/
def arrOf (P : Program) (t : TypeId) : Option (Nat × TypeId × Bool × Nat) :=
  match P.underlying t with
  | some (.array n e) => (tyOf P e).bind fun p => some (n, e, p.1, p.2)
  | _ => none

/-! ### Memory -/
def objCells (hp : Tr AO) (n : Nat) : Option (List AV) :=
  match hp.get n with
  | some (.cells cs _) => some cs
  | some (.row cs _ _ _) => some cs
  | some (.ro cs _) => some cs
  | _ => none
def roCells (hp : Tr AO) (n : Nat) : Option (List AV) :=
  match hp.get n with
  | some (.roS m cs) => bif Nat.beq m n then some cs else none
  | _ => none
def setCells (s : St) (n off : Nat) (vs : List AV) : Option St :=
  bif onesA vs && Nat.blt 0 (lenL vs) then (match s.hp.get n with
    | some (.cells cs t) => bif Nat.ble (Nat.add off (lenL vs)) (lenL cs) then s.upd n off (lenL vs) (some (.cells (putL cs off vs) t)) else none
    | some (.row cs t k me) => bif Nat.ble (Nat.add off (lenL vs)) (lenL cs) then s.upd n off (lenL vs) (some (.row (putL cs off vs) t k me)) else none
    | _ => none) else none
def mapOf (hp : Tr AO) (n : Nat) : Option (List (AV × AV)) :=
  match hp.get n with
  | some (.map es) => some es
  | _ => none

/-! ### Maps -/
def eqK (P : Program) (kt : TypeId) (k k' : AV) : Option Bool :=
  match k, k' with
  | .int j a, .int q b => match P.underlying kt with
    | some (.int _) => bif decide (j = q) then some (a == b) else none
    | _ => none
  | .str a, .str b => match P.underlying kt with
    | some .string => some (eqB a b)
    | _ => none
  | .agg a, .agg b => (structLeafs P kt).bind fun cs => eqVs cs a b
  | _, _ => none
def findE (P : Program) (kt : TypeId) (k : AV) : List (AV × AV) → Option (Option AV)
  | [] => some none
  | (k', v) :: es => (eqK P kt k k').bind fun b => bif b then some (some v) else findE P kt k es
def putE (P : Program) (kt : TypeId) (k v : AV) : List (AV × AV) → Option (List (AV × AV))
  | [] => some [(k, v)]
  | (k', v') :: es => (eqK P kt k k').bind fun b => bif b then some ((k, v) :: es) else (putE P kt k v es).bind fun r => some ((k', v') :: r)
def keyOk (P : Program) (kt : TypeId) (k : AV) : Bool :=
  match k with
  | .int .. => match P.underlying kt with | some (.int _) => true | _ => false
  | .str _ => match P.underlying kt with | some .string => true | _ => false
  | .agg a => match (structLeafs P kt).bind fun cs => eqVs cs a a with | some _ => true | none => false
  | _ => false
def mapTy (P : Program) (t : TypeId) : Option (TypeId × TypeId) :=
  match P.underlying t with
  | some (.map kt et) => some (kt, et)
  | _ => none
/-- the zero value of a type -/
def zeroV1 (P : Program) (t : TypeId) : Option AV := (zvOf P t).bind fun z => some (AV.ofC z)

/-! ### Operations that give a value and leave memory as it is -/
def bound (fr : Tr AV) (o : Option Operand) (d : Nat) : Option Nat :=
  match o with
  | some x => (aev fr x).bind AV.nat?
  | none => some d
def qPick (fr : Tr AV) (c x y : Operand) : Option AV := (aev fr c).bind fun v => v.bool?.bind fun b => bif b then aev fr x else aev fr y
def qBin (P : Program) (fr : Tr AV) (op : BinOp) (t : TypeId) (x y : Operand) : Option AV := (aev fr x).bind fun v => (aev fr y).bind fun w => binX P op t x y v w
def qNot (fr : Tr AV) (x : Operand) : Option AV := (aev fr x).bind fun v => v.bool?.bind fun b => some (.bool (not b))
def qConv (P : Program) (fr : Tr AV) (src dst : TypeId) (x : Operand) : Option AV := (aev fr x).bind fun v =>
  match v with
  | .int _ n => match P.underlying src, P.underlying dst with
    | some (.int _), some (.int k) => some (.int k (wrapF k n))
    | _, _ => none
  | _ => none
def qNil (fr : Tr AV) (x : Operand) : Option AV := (aev fr x).bind fun v =>
  match v with
  | .ptr n off => some (.ptr n off)
  | .ifc t u => some (.ifc t u)
  | _ => none
def qFieldAddr (P : Program) (fr : Tr AV) (s : TypeId) (x : Operand) (f : Nat) : Option AV := (aev fr x).bind fun v => v.ptr?.bind fun p => (fieldOf P s f).bind fun q => some (.ptr p.1 (Nat.add p.2 q.2))
def qField (P : Program) (fr : Tr AV) (s : TypeId) (x : Operand) (f : Nat) : Option AV := (aev fr x).bind fun v => v.agg?.bind fun cs => (fieldOf P s f).bind fun q => (tyOf P q.1).bind fun g => getPart g.1 g.2 cs q.2
def qIndexAddr (P : Program) (fr : Tr AV) (t : TypeId) (x i : Operand) : Option AV := (aev fr i).bind fun w => w.nat?.bind fun j => (aev fr x).bind fun v =>
  match v with
  | .sl n off len _ _ => (elemOf? P t).bind fun e => bif Nat.blt j len then some (.ptr n (Nat.add off (Nat.mul j e.2.1))) else none
  | .ptr n off => (arrOf P t).bind fun e => bif Nat.blt j e.1 then some (.ptr n (Nat.add off (Nat.mul j e.2.2.2))) else none
  | .slS n len _ => (elemOf? P t).bind fun e => bif Nat.blt j len then some (.ptrS n (Nat.mul j e.2.1)) else none
  | _ => none
def qIndex (P : Program) (fr : Tr AV) (t : TypeId) (x i : Operand) : Option AV := (aev fr i).bind fun w => w.nat?.bind fun j => (aev fr x).bind fun v =>
  match v with
  | .str s => match P.underlying t with
    | some .string => (nthL s j).bind fun b => some (.int .u8 (.ofNat b))
    | _ => none
  | .agg cs => (arrOf P t).bind fun e => bif Nat.blt j e.1 then getPart e.2.2.1 e.2.2.2 cs (Nat.mul j e.2.2.2) else none
  | _ => none
def qExtract (fr : Tr AV) (x : Operand) (i : Nat) : Option AV := (aev fr x).bind fun v => v.tup?.bind fun vs => nthL vs i
def cellsOf (hp : Tr AO) (v : AV) : Option (Nat × List AV) :=
  match v with
  | .ptr n off => (objCells hp n).bind fun cs => some (off, cs)
  | .ptrS n off => (roCells hp n).bind fun cs => some (off, cs)
  | _ => none
def qLoad (P : Program) (fr : Tr AV) (hp : Tr AO) (t : TypeId) (x : Operand) : Option AV := (aev fr x).bind fun v => (cellsOf hp v).bind fun p => (tyOf P t).bind fun g => getPart g.1 g.2 p.2 p.1
def qBuild (P : Program) (fr : Tr AV) (t : TypeId) (ps : Array (Nat × Operand)) : Option AV :=
  match P.underlying t with
  | some (.struct _) => bif fieldsKnown P t then (zeroA P t).bind fun z => (fillS P fr t ps.toList z).bind fun cs => some (.agg cs) else none
  | some (.array _ e) => (tyOf P e).bind fun g => (zeroA P t).bind fun z => (fillR g.2 fr ps.toList z).bind fun cs => some (.agg cs)
  | _ => none
def qFunc (fr : Tr AV) (f : Fn) (first cap : Array Operand) : Option AV :=
  match f with
  | .func g => (aevs fr first.toList).bind fun a => (aevs fr cap.toList).bind fun b => some (.fn g a b)
  | _ => none
def qIface (P : Program) (fr : Tr AV) (t : TypeId) (x : Operand) : Option AV :=
  match P.underlying t with
  | some (.interface _) => none
  | some _ => (aev fr x).bind fun v => some (.ifc t v)
  | none => none
def qAssert (P : Program) (fr : Tr AV) (x : Operand) (u : TypeId) : Option AV :=
  match P.underlying u with
  | some (.interface _) => none
  | some _ => (aev fr x).bind fun v => match v with
    | .ifc t w => bif Nat.beq t u then some w else none
    | _ => none
  | none => none
def qSlice (P : Program) (fr : Tr AV) (t : TypeId) (x : Operand) (lo hi : Option Operand) : Option AV := (bound fr lo 0).bind fun l => (aev fr x).bind fun v =>
  match v with
  | .str s => match P.underlying t with
    | some .string => (bound fr hi (lenL s)).bind fun h => bif Nat.ble l h then (bif Nat.ble h (lenL s) then some (.str (takeL (Nat.sub h l) (dropL l s))) else none) else none
    | _ => none
  | .sl n off len cap ex => (elemOf? P t).bind fun e => (bound fr hi len).bind fun h => bif Nat.ble l h then (bif Nat.ble h cap then (bif Nat.beq l 0 then some (.sl n off h cap ex)
      else bif Nat.blt l cap then some (.sl n (Nat.add off (Nat.mul l e.2.1)) (Nat.sub h l) (Nat.sub cap l) ex.cut) else some .em) else none) else none
  | _ => none
def qSlice3 (P : Program) (fr : Tr AV) (t : TypeId) (x lo hi mx : Operand) : Option AV := (bound fr (some lo) 0).bind fun l => (bound fr (some hi) 0).bind fun h => (bound fr (some mx) 0).bind fun m => (aev fr x).bind fun v =>
  match v with
  | .sl n off _ cap _ => (elemOf? P t).bind fun e => bif Nat.ble l h then (bif Nat.ble h m then (bif Nat.ble m cap then
      some (.sl n (bif Nat.beq m l then off else Nat.add off (Nat.mul l e.2.1)) (Nat.sub h l) (Nat.sub m l) .exact) else none) else none) else none
  | _ => none
def qLookup (P : Program) (fr : Tr AV) (hp : Tr AO) (t : TypeId) (x k : Operand) (ok : Bool) : Option AV := (aev fr x).bind fun v => v.mp?.bind fun n => (mapOf hp n).bind fun es => (aev fr k).bind fun key => (mapTy P t).bind fun m =>
  bif keyOk P m.1 key then (findE P m.1 key es).bind fun r => (zeroV1 P m.2).bind fun z =>
    some (bif ok then .tup [r.getD z, .bool r.isSome] else r.getD z) else none
def qLen (P : Program) (fr : Tr AV) (hp : Tr AO) (c : Call) : Option AV :=
  match c.args.toList, c.argTypes.toList with
  | [x], [t] => (aev fr x).bind fun v => match v, P.underlying t with
    | .str s, some .string => some (.int .i64 (.ofNat (lenL s)))
    | .sl _ _ n _ _, some (.slice _) => some (.int .i64 (.ofNat n))
    | .em, some (.slice _) => some (.int .i64 (.ofNat 0))
    | .slS _ n _, some (.slice _) => some (.int .i64 (.ofNat n))
    | .lit (.slice none n _), some (.slice _) => some (.int .i64 (.ofNat n))
    | .mp n, some (.map ..) => (mapOf hp n).bind fun es => some (.int .i64 (.ofNat (lenL es)))
    | _, _ => none
  | _, _ => none
def max2 (v w : AV) : Option AV :=
  match v, w with
  | .int k m, .int _ n => some (.int k (bif decide (n > m) then n else m))
  | _, _ => none
def qMax (fr : Tr AV) (c : Call) : Option AV :=
  match c.args.toList with
  | [x, y] => (aev fr x).bind fun v => (aev fr y).bind fun w => max2 v w
  | [x, y, z] => (aev fr x).bind fun v => (aev fr y).bind fun w => (aev fr z).bind fun u => (max2 v w).bind fun a => max2 a u
  | _ => none
def opQ (P : Program) (fr : Tr AV) (hp : Tr AO) (op : Op) : Option AV :=
  match op with
  | .move x => aev fr x
  | .assign x => aev fr x
  | .pick c x y => qPick fr c x y
  | .binOp op t x y _ => qBin P fr op t x y
  | .unOp .not _ x => qNot fr x
  | .convert src dst x => qConv P fr src dst x
  | .nilCheck x => qNil fr x
  | .fieldAddr s x f => qFieldAddr P fr s x f
  | .field s x f => qField P fr s x f
  | .indexAddr t x i => qIndexAddr P fr t x i
  | .index t x i => qIndex P fr t x i
  | .extract x i => qExtract fr x i
  | .load t x => qLoad P fr hp t x
  | .build t ps => qBuild P fr t ps
  | .makeFunc f first cap => qFunc fr f first cap
  | .makeInterface t x => qIface P fr t x
  | .typeAssert x _ u false => qAssert P fr x u
  | .slice t x lo hi none => qSlice P fr t x lo hi
  | .slice t x (some lo) (some hi) (some mx) => qSlice3 P fr t x lo hi mx
  | .lookup t x k ok => qLookup P fr hp t x k ok
  | .call c => match c.callee with
    | .builtin .len => qLen P fr hp c
    | .builtin .max => qMax fr c
    | _ => none
  | _ => none

/-! ### Operations that make a block -/
def opA (P : Program) (fr : Tr AV) (next : Nat) (op : Op) : Option (AV × AO) :=
  match op with
  | .alloc t => (zeroA P t).bind fun z => some (.ptr next 0, .cells z t)
  | .box t x => (aev fr x).bind fun v => some (.ptr next 0, .cells v.cells t)
  | .buildSlice t n ps => (elemOf? P t).bind fun e => bif sizesOk fr e.2.1 0 ps.toList then (bif Nat.beq (lenL ps.toList) n then (bif Nat.ble (Nat.mul n e.2.1) 16777216 then
      (rowOf fr ps.toList).bind fun cs => (zeroA P e.1).bind fun z => bif Nat.beq (lenL z) e.2.1 then some (.sl next 0 n n .exact, .cells cs e.1) else none else none) else none) else none
  | .convert src dst x => (aev fr x).bind fun v =>
    match v with
    | .str l => match P.underlying src with
      | some .string => (elemOf? P dst).bind fun e => match P.underlying e.1 with
        | some (.int .u8) => some (.sl next 0 (lenL l) (lenL l) .part, .ro (l.map fun b => AV.int .u8 (.ofNat b)) e.1)
        | _ => none
      | _ => none
    | _ => none
  | .makeMap _ none => some (.mp next, .map [])
  | .makeSlice t l c => (aev fr l).bind fun lv => lv.nat?.bind fun l => (aev fr c).bind fun cv => cv.nat?.bind fun c => (elemOf? P t).bind fun e => (zeroA P e.1).bind fun z =>
      bif Nat.ble l c then (bif Nat.ble c 1000000 then (bif Nat.ble e.2.2 1000000 then (bif Nat.beq (lenL z) e.2.1 then some (.sl next 0 l c .exact, .cells (repL c z) e.1) else none) else none) else none) else none
  | _ => none

/-! ### Operations that write memory -/
/-- append's second slice: how many, and their cells -/
def srcA (hp : Tr AO) (k : Nat) : AV → Option (Nat × List AV)
  | .lit (.slice none 0 0) => some (0, [])
  | .em => some (0, [])
  | .sl n off len _ _ => (objCells hp n).bind fun cs => bif Nat.ble (Nat.add off (Nat.mul len k)) (lenL cs) then some (len, takeL (Nat.mul len k) (dropL off cs)) else none
  | _ => none
def appendA (P : Program) (s : St) (t : TypeId) (x y : AV) : Option (AV × St) :=
  (elemOf? P t).bind fun e => (zeroA P e.1).bind fun z => bif Nat.beq (lenL z) e.2.1 then ((srcA s.hp e.2.1 y).bind fun q =>
      bif Nat.ble q.1 1000000000 && Nat.ble (Nat.mul q.1 e.2.2) 140737488355328 then (bif onesA q.2 then (match x with
      | .lit (.slice none 0 0) => bif Nat.beq q.1 0 then some (x, s) else some (.sl s.next 0 q.1 q.1 .whole, s.new (.row q.2 e.1 e.2.1 s.next))
      | .sl n off len cap ex =>
        bif Nat.ble (Nat.add len q.1) cap then (bif Nat.beq q.1 0 then some (x, s) else (setCells s n (Nat.add off (Nat.mul len e.2.1)) q.2).bind fun s' => some (.sl n off (Nat.add len q.1) cap ex, s'))
        else bif Nat.ble (Nat.add len q.1) 1000000000 && Nat.ble (Nat.mul (Nat.add len q.1) e.2.2) 140737488355328 && Nat.blt 0 q.1 then (bif ex.isExact then (srcA s.hp e.2.1 x).bind fun p =>
              some (.sl s.next 0 (Nat.add len q.1) (Nat.add len q.1) .whole, s.new (.row (p.2 ++ q.2) e.1 e.2.1 s.next))
          else (match s.hp.get n with
            | some (.row cs bt k me) => bif ex.isWhole && Nat.beq off 0 && Nat.beq me n then (bif Nat.beq (Nat.mul len e.2.1) (lenL cs) then (bif Nat.beq bt e.1 && Nat.beq k e.2.1 then (s.upd n 0 big none).bind fun s' =>
                some (.sl s'.next 0 (Nat.add len q.1) (Nat.add len q.1) .whole, s'.new (.row (cs ++ q.2) e.1 e.2.1 s'.next)) else none) else none) else none
            | _ => none)) else none
      | _ => none) else none) else none) else none
def wStore (P : Program) (s : St) (t : TypeId) (p x : Operand) : Option (AV × St) := (aev s.fr p).bind fun v => v.ptr?.bind fun q => (aev s.fr x).bind fun u => (tyOf P t).bind fun g =>
  bif Nat.beq (lenL u.cells) g.2 then (setCells s q.1 q.2 u.cells).bind fun s' => some (.tup [], s') else none
def wMapUpdate (P : Program) (s : St) (t : TypeId) (m k x : Operand) : Option (AV × St) := (aev s.fr m).bind fun v => v.mp?.bind fun n => (mapOf s.hp n).bind fun es => (aev s.fr k).bind fun key => (aev s.fr x).bind fun u => (mapTy P t).bind fun ty =>
  bif keyOk P ty.1 key then (putE P ty.1 key u es).bind fun es' => (s.upd n 0 big (some (.map es'))).bind fun s' => some (.tup [], s') else none
def wRange (P : Program) (s : St) (t : TypeId) (x : Operand) : Option (AV × St) := (mapTy P t).bind fun _ => (aev s.fr x).bind fun v => v.mp?.bind fun n => (mapOf s.hp n).bind fun es => some (.ptr s.next 0, s.new (.iter n (lenL es) false))
/-- a map of at most one entry -/
def wNext (s : St) (x : Operand) : Option (AV × St) := (aev s.fr x).bind fun v => v.ptr?.bind fun p => bif Nat.beq p.2 0 then (match s.hp.get p.1 with
  | some (.iter m n seen) => (mapOf s.hp m).bind fun es => match es, n, seen with
    | [(k, u)], 1, false => (s.upd p.1 0 big (some (.iter m 1 true))).bind fun s' => some (.tup [.bool true, k, u], s')
    | [_], 1, true => some (.tup [.bool false], s)
    | [], 0, false => some (.tup [.bool false], s)
    | _, _, _ => none
  | _ => none) else none
def wEntry (s : St) (x : Operand) : Option (AV × St) := (aev s.fr x).bind fun v => v.ptr?.bind fun p => bif Nat.beq p.2 0 then (match s.hp.get p.1 with
  | some (.iter m n seen) => (mapOf s.hp m).bind fun es => match es, n, seen with
    | [(k, u)], 1, true => some (.tup [k, u], s)
    | _, _, _ => none
  | _ => none) else none
def wAppend (P : Program) (s : St) (c : Call) : Option (AV × St) :=
  match c.args.toList, c.argTypes.toList with
  | [x, y], [t, t'] => bif Nat.beq t t' then (aev s.fr x).bind fun v => (aev s.fr y).bind fun w => appendA P s t v w else none
  | _, _ => none
def wClear (P : Program) (s : St) (c : Call) : Option (AV × St) :=
  match c.args.toList, c.argTypes.toList with
  | [x], [t] => (aev s.fr x).bind fun v => match v with
    | .sl n off len _ _ => (elemOf? P t).bind fun e => (zeroA P e.1).bind fun z => bif Nat.beq (lenL z) e.2.1 then (bif Nat.beq len 0 then none else (setCells s n off (repL len z)).bind fun s' => some (.tup [], s')) else none
    | _ => none
  | _, _ => none
def wCopy (P : Program) (s : St) (c : Call) : Option (AV × St) :=
  match c.args.toList, c.argTypes.toList with
  | [x, y], [t, _] => (aev s.fr x).bind fun v => (aev s.fr y).bind fun w => match v, w with
    | .sl .., .lit (.slice none 0 0) => (elemOf? P t).bind fun _ => some (.int .i64 (.ofNat 0), s)
    | _, _ => none
  | _, _ => none
def opW (P : Program) (s : St) (op : Op) : Option (AV × St) :=
  match op with
  | .store t p x => wStore P s t p x
  | .mapUpdate t m k x => wMapUpdate P s t m k x
  | .range t x => wRange P s t x
  | .next x false => wNext s x
  | .entry x => wEntry s x
  | .call c => match c.callee with
    | .builtin .append => wAppend P s c
    | .builtin .clear => wClear P s c
    | .builtin .copy => wCopy P s c
    | _ => none
  | _ => none

/-! ### Functions -/
inductive Rs where
  | bad
  | nrm (s : St)
  | ret (s : St)
  | ext (id : Nat) (s : St)
abbrev CallA := AV → List AV → St → Option (AV × St)

/-- a method without a path, with a pointer's receiver -/
def methOf (P : Program) (t : TypeId) (m : String) : Option FuncId := (P.info? t).bind fun i => (i.methods.find? (fun x => x.name == m)).bind fun x =>
  match x.path.toList, x.func, P.underlying t with
  | [], some (f, true), some (.pointer _) => some f
  | _, _, _ => none
def calleeOf (P : Program) (fr : Tr AV) (c : Call) : Option (AV × List AV) :=
  match c.callee with
  | .value f => (aev fr f).bind fun v => (aevs fr c.args.toList).bind fun vs => some (v, vs)
  | .invoke r m => (aev fr r).bind fun v => match v with
    | .ifc t u => (methOf P t m).bind fun f => (aevs fr c.args.toList).bind fun vs => some (.fn f [] [], u :: vs)
    | _ => none
  | .builtin _ => none
def callOf : Op → Option Call
  | .call c => match c.callee with
    | .builtin _ => none
    | _ => some c
  | _ => none
def stepC (P : Program) (call : CallA) (s : St) (c : Call) (d : Option Tmp) : Option St :=
  (calleeOf P s.fr c).bind fun q => (call q.1 q.2 s).bind fun r => St.put { r.2 with fr := s.fr, nt := s.nt } d r.1
/-- an operation that writes memory -/
def stepW (P : Program) (call : CallA) (s : St) (o : Oper) : Option St :=
  match callOf o.op with
  | some c => stepC P call s c o.dst
  | none => (opW P s o.op).bind fun r => r.2.put o.dst r.1
def stepO (P : Program) (call : CallA) (s : St) (o : Oper) : Option St :=
  match opQ P s.fr s.hp o.op with
  | some v => s.put o.dst v
  | none => match opA P s.fr s.next o.op with
    | some r => (s.new r.2).put o.dst r.1
    | none => stepW P call s o
/-- is the operation to be taken? -/
def wantA (fr : Tr AV) (ops : List Oper) (o : Oper) : Option Bool :=
  match o.guard with
  | none => some true
  | some (j, want) => (nthL ops j).bind fun oj => oj.dst.bind fun d => (fr.get d).bind fun v => match v with
    | .bool b => some (b == want)
    | .tup [] => some false
    | _ => none
def stepG (P : Program) (call : CallA) (ops : List Oper) (s : St) (o : Oper) : Option St :=
  (wantA s.fr ops o).bind fun b => bif b then stepO P call s o else s.put o.dst (.tup [])
def runOps (P : Program) (call : CallA) (ops : List Oper) : List Oper → St → Option St
  | [], s => some s
  | o :: rest, s => (stepG P call ops s o).bind fun s' => runOps P call ops rest s'

/-! ### Regions that draw their order -/
/-- a quiet operation writes nothing that is there -/
def quiet : Op → Bool
  | .move _ | .assign _ | .pick .. | .binOp .. | .unOp .. | .convert .. | .nilCheck _ | .fieldAddr .. | .field .. | .indexAddr .. | .index .. | .extract .. | .load .. | .build .. | .makeFunc .. | .makeInterface .. | .typeAssert .. | .slice .. | .lookup .. => true
  | .alloc _ | .box .. | .buildSlice .. | .makeMap .. | .makeSlice .. => true
  | .call { callee := .builtin .len, .. } => true
  | .call { callee := .builtin .max, .. } => true
  | _ => false
def isSt : Op → Bool
  | .store .. => true
  | _ => false
/-- the cells that a quiet operation reads; the block that a store writes -/
def readsOf (P : Program) (fr : Tr AV) : Op → Option (Nat × Nat × Nat)
  | .store _ x _ => (aev fr x).bind fun v => v.ptr?.bind fun p => some (p.1, 0, big)
  | .load t x => (aev fr x).bind fun v => v.at?.bind fun p => (tyOf P t).bind fun g => some (p.1, p.2, bif g.1 then g.2 else 1)
  | .lookup _ x _ _ => (aev fr x).bind fun v => v.mp?.bind fun n => some (n, 0, big)
  | .call c => match c.args.toList with
    | [x] => (aev fr x).bind fun v => v.mp?.bind fun n => some (n, 0, big)
    | _ => none
  | _ => none
def orE (acc : List Nat) (s : Nat) (e : Edge) : Nat := bif Region.binds .any e then Nat.lor (Nat.lor s (Nat.pow 2 e.on)) ((nthL acc e.on).getD 0) else s
/-- all that come before, as bits -/
def befores : List Oper → List Nat → List Nat
  | [], acc => acc
  | o :: os, acc => befores os (acc ++ [o.after.toList.foldl (orE acc) 0])
def tmpsOf (o : Oper) : List Tmp := o.op.operands.toList.filterMap fun | .tmp t => some t | _ => none
/-- what an operation looks at: its operands, its guard -/
def needs (ops : List Oper) (o : Oper) : List Tmp :=
  match o.guard with
  | some (j, _) => match nthL ops j with
    | some oj => match oj.dst with
      | some d => d :: tmpsOf o
      | none => tmpsOf o
    | none => tmpsOf o
  | none => tmpsOf o
def pickFr (fr : Tr AV) : List Tmp → Tr AV
  | [] => .lf
  | d :: l => match fr.get d with
    | some v => (pickFr fr l).set d (some v)
    | none => pickFr fr l
/-- does b look at what a yields? -/
def looks (ops : List Oper) (a b : Oper) : Bool :=
  match a.dst with
  | some d => (needs ops b).contains d
  | none => false
def bfB (bs : List Nat) (i j : Nat) : Bool := Nat.testBit ((nthL bs j).getD 0) i
/-- not ordered -/
def incB (bs : List Nat) (i j : Nat) : Bool := not (Nat.beq i j) && not (bfB bs i j) && not (bfB bs j i)
def pairOk (ops : List Oper) (a b : Oper) : Bool := not (looks ops a b) && not (looks ops b a) && (quiet a.op || quiet b.op || (isSt a.op && isSt b.op))
/-- every two operations that are not ordered may change places as far as slots go; one of them is quiet, or both are stores -/
def pairsOk (bs : List Nat) (ops : List Oper) : Bool :=
  ops.zipIdx.all fun (b, j) => ops.zipIdx.all fun (a, i) => not (incB bs i j) || pairOk ops a b
/-- edges go back -/
def edgesOk (ops : List Oper) : Bool := ops.zipIdx.all fun (o, i) => o.after.toList.all fun e => not (Region.binds .any e) || Nat.blt e.on i
def dstsOk : List Oper → List Tmp → Bool
  | [], _ => true
  | o :: os, ds => match o.dst with
    | some d => bif ds.contains d then false else dstsOk os (d :: ds)
    | none => dstsOk os ds
def drawOk (ops : List Oper) : Bool := edgesOk ops && (dstsOk ops [] && pairsOk (befores ops []) ops)
def hit (a b : Nat × Nat × Nat) : Bool := bif Nat.beq a.1 b.1 then (bif Nat.beq b.2.2 big then true else bif Nat.beq a.2.2 big then true else bif Nat.blt a.2.1 (Nat.add b.2.1 b.2.2) then Nat.blt b.2.1 (Nat.add a.2.1 a.2.2) else false) else false
def hits (a : Nat × Nat × Nat) : List (Nat × Nat × Nat) → Bool
  | [] => false
  | b :: l => bif hit a b then true else hits a l
/-- a step of a region that draws its order: the operation sees no slot but those that it looks at -/
def stepR (P : Program) (call : CallA) (ops : List Oper) (s : St) (o : Oper) : Option St :=
  (stepG P call ops { s with fr := pickFr s.fr (needs ops o), log := [] } o).bind fun s1 => some { s1 with fr := (match o.dst with | some d => s.fr.set d (s1.fr.get d) | none => s.fr) }
abbrev RW := Option (Nat × Nat × Nat) × List (Nat × Nat × Nat)
def runD (P : Program) (call : CallA) (ops : List Oper) : List Oper → St → Option (St × List RW)
  | [], s => some (s, [])
  | o :: rest, s => (stepR P call ops s o).bind fun s' => (runD P call ops rest { s' with log := s'.log ++ s.log }).bind fun r => some (r.1, (readsOf P s.fr o.op, s'.log) :: r.2)
/-- no operation reads what another one writes, that is not ordered with it -/
def watchOk (bs : List Nat) (rw : List RW) : Bool :=
  rw.zipIdx.all fun (p, i) => match p.1 with
    | some n => rw.zipIdx.all fun (q, j) => bif hits n q.2 then not (incB bs i j) else true
    | none => true
def runReg (P : Program) (call : CallA) (ops : List Oper) (draw : Bool) (s : St) : Option St :=
  bif draw then (bif drawOk ops then (runD P call ops ops s).bind fun r => bif watchOk (befores ops []) r.2 then some r.1 else none else none)
  else runOps P call ops ops s

/-- a function of the program, that has a body -/
def bodied (P : Program) (f : AV) : Bool :=
  match f with
  | .fn g _ _ => match P.funcs[g]? with
    | some fn => fn.body.isSome
    | none => false
  | _ => false
/-- the end of a range over a function: its record is given up -/
def endL (s0 s : St) (l : Nat) : Rs :=
  match s.hp.get l with
  | some (.loop _ _ _ _ _ _ .ready none) => (match s.upd l 0 big none with | some s' => .nrm { s' with fr := s0.fr, nt := s0.nt } | none => .bad)
  | some (.loop _ _ _ _ _ _ .done (some .ret)) => (match s.upd l 0 big none with | some s' => .ret { s' with fr := s0.fr, nt := s0.nt } | none => .bad)
  | some (.loop _ _ _ _ _ _ .done (some (.exit id))) => (match s.upd l 0 big none with | some s' => .ext id { s' with fr := s0.fr, nt := s0.nt } | none => .bad)
  | _ => .bad
def runC (P : Program) (call : CallA) (rf : Bool) : Nat → Code → St → Rs
  | 0, _, _ => .bad
  | n + 1, c, s => match c with
    | .skip => .nrm s
    | .region _ ops d => match runReg P call ops.toList d s with
      | some s' => .nrm s'
      | none => .bad
    | .seq a b => match runC P call rf n a s with
      | .nrm s' => runC P call rf n b s'
      | r => r
    | .cond c x y => match (aev s.fr c).bind AV.bool? with
      | some b => bif b then runC P call rf n x s else runC P call rf n y s
      | none => .bad
    | .block id c => match runC P call rf n c s with
      | .ext k s' => bif Nat.beq k id then .nrm s' else .ext k s'
      | r => r
    | .loop c => match runC P call rf n c s with
      | .nrm s' => runC P call rf n (.loop c) s'
      | r => r
    | .exit id => .ext id s
    | .ret => .ret s
    | .rangeFunc f ps asg body => bif rf then (match aev s.fr f with
      | some fv => bif bodied P fv then (match call fv [.yld (Nat.succ s.next)] ((s.new .defd).new (.loop s.fr s.nt ps.toList asg body s.next .ready none)) with
        | some (_, s') => endL s s' (Nat.succ s.next)
        | none => .bad) else .bad
      | none => .bad) else .bad
    | _ => .bad
def argFrA : List AV → Nat → Tr AV → Tr AV
  | [], _, t => t
  | v :: vs, i, t => argFrA vs (Nat.succ i) (t.set i (some v))
def parFrA (nt : Nat) : List Tmp → List AV → Tr AV → Option (Tr AV)
  | [], [], t => some t
  | p :: ps, v :: vs, t => bif Nat.blt p nt then parFrA nt ps vs (t.set p (some v)) else none
  | _, _, _ => none
def resA (P : Program) (s : St) : List ResultVar → Option (List AV)
  | [] => some []
  | .tmp t :: rs => (s.fr.get t).bind fun v => (resA P s rs).bind fun vs => some (v :: vs)
  | .cell a t :: rs => (s.fr.get a).bind fun p => p.ptr?.bind fun q => (objCells s.hp q.1).bind fun cs => (tyOf P t).bind fun g => (getPart g.1 g.2 cs q.2).bind fun v => (resA P s rs).bind fun vs => some (v :: vs)
def resOfA : List AV → AV
  | [v] => v
  | vs => .tup vs
def idxB (c : Nat) : List Nat → Nat → Int
  | [], _ => .negSucc 0
  | x :: l, i => bif Nat.beq x c then .ofNat i else idxB c l (Nat.succ i)
/-- the entries of the library that have no body: IndexByteString, maps.clone -/
def extA (ib cl : FuncId) (g : FuncId) (args : List AV) (s : St) : Option (AV × St) :=
  bif Nat.beq g ib then (match args with
    | [.str l, .int .u8 (.ofNat c)] => bif Nat.blt c 256 then some (.int .i64 (idxB c l 0), s) else none
    | _ => none)
  else bif Nat.beq g cl then (match args with
    | [.ifc t (.mp n)] => (mapOf s.hp n).bind fun es => some (.ifc t (.mp s.next), s.new (.map es))
    | _ => none)
  else none
def endF (P : Program) (fn : Func) (s : St) : Option (AV × St) := (resA P s fn.results.toList).bind fun vs => some (resOfA vs, s)
/-- the end of a round of a range over a function -/
def endY (s : St) (l : Nat) (st : LoopState) (pend : Option Code) (b : Bool) : Option (AV × St) :=
  match s.hp.get l with
  | some (.loop fr nt ps asg body d .busy none) => (s.upd l 0 big (some (.loop fr nt ps asg body d st pend))).bind fun s' => some (.bool b, s')
  | _ => none
/-- the round's body begins -/
def begY (s : St) (l : Nat) : Option St :=
  match s.hp.get l with
  | some (.loop fr nt ps asg body d .ready none) => s.upd l 0 big (some (.loop fr nt ps asg body d .busy none))
  | _ => none
def runF (P : Program) (ib cl : FuncId) (M : FuncId → List AV → St → Option (AV × St)) : Nat → CallA
  | 0, _, _, _ => none
  | n + 1, f, args, s => match f with
    | .fn g first cap => match M g (first ++ (args ++ cap)) s with
      | some r => some r
      | none => (P.funcs[g]?).bind fun fn => match fn.body with
        | some c => bif Nat.ble (lenL (first ++ (args ++ cap))) fn.ntmps then (match runC P (runF P ib cl M n) true 3000 c { s with fr := argFrA (first ++ (args ++ cap)) 0 .lf, nt := fn.ntmps } with
            | .nrm s' => endF P fn s'
            | .ret s' => endF P fn s'
            | _ => none) else none
        | none => extA ib cl g (first ++ (args ++ cap)) s
    | .yld l => match s.hp.get l with
      | some (.loop fr nt ps asg body _ _ _) => (parFrA nt ps args fr).bind fun fr' => match runC P (runF P ib cl M n) false 3000 asg { s with fr := fr', nt := nt } with
          | .nrm s1 => (begY s1 l).bind fun s1' => match runC P (runF P ib cl M n) false 3000 body s1' with
              | .nrm s2 => endY s2 l .ready none true
              | .ret s2 => endY s2 l .done (some .ret) false
              | .ext id s2 => endY s2 l .done (some (.exit id)) false
              | _ => none
          | _ => none
      | _ => none
    | _ => none
end Go.Mesh
/-
  WHAT THE NAMES STAND FOR: from values with names to values with addresses; plain laws of the lists and tries.
-/
set_option linter.all false
namespace Go.Mesh
open Go.RowKit
set_option linter.unusedSimpArgs false

theorem bq {α : Type} (a b : Nat) (x y : α) : (bif Nat.beq a b then x else y) = if a = b then x else y := by
  by_cases h : a = b
  · subst h; simp
  · have : Nat.beq a b = false := by
      cases hb : Nat.beq a b with
      | false => rfl
      | true => exact absurd (Nat.eq_of_beq_eq_true hb) h
    simp [this, h]
theorem bsome {α : Type} {b : Bool} {x : Option α} {y : α} : (bif b then x else none) = some y ↔ b = true ∧ x = some y := by cases b <;> simp
theorem beqT {a b : Nat} : Nat.beq a b = true ↔ a = b := ⟨Nat.eq_of_beq_eq_true, fun h => by subst h; simp⟩
theorem bleT {a b : Nat} : Nat.ble a b = true ↔ a ≤ b := ⟨Nat.le_of_ble_eq_true, Nat.ble_eq_true_of_le⟩
theorem bltT {a b : Nat} : Nat.blt a b = true ↔ a < b := by unfold Nat.blt; rw [bleT]; exact Iff.rfl

theorem Tr.get_lf {α : Type} (k : Nat) : (Tr.lf : Tr α).get k = none := rfl
theorem Tr.setF_get {α : Type} : ∀ (f : Nat) (t : Tr α) (k : Nat) (x : Option α) (j : Nat), k < f → (Tr.setF f t k x).get j = if j = k then x else t.get j := by
  intro f
  induction f with
  | zero => intro t k x j h; omega
  | succ f ih =>
    intro t k x j hk
    cases t with
    | lf =>
      simp only [Tr.setF, bq]
      by_cases h0 : k = 0
      · subst h0
        simp only [if_true, Tr.get, bq]
        by_cases hj : j = 0
        · simp [hj]
        · simp [hj, Tr.get]
      · simp only [h0, if_false]
        by_cases hp : k.mod 2 = 1
        · simp only [hp, if_true, Tr.get, bq]
          by_cases hj : j = 0
          · have : ¬ (j = k) := by omega
            simp [hj, this]; intro e; omega
          · simp only [hj, if_false]
            have hk2 : k.div 2 < f := by show k / 2 < f; omega
            by_cases hq : j.mod 2 = 1
            · simp only [hq, if_true, ih _ _ _ _ hk2, Tr.get]
              have hp' : k % 2 = 1 := hp
              have hq' : j % 2 = 1 := hq
              have : (j.div 2 = k.div 2) ↔ (j = k) := by show (j / 2 = k / 2) ↔ _; omega
              simp [this]
            · have hp' : k % 2 = 1 := hp
              have hq' : ¬ (j % 2 = 1) := hq
              have : ¬ (j = k) := by omega
              simp [hq, this, Tr.get]
        · simp only [hp, if_false, Tr.get, bq]
          by_cases hj : j = 0
          · have : ¬ (j = k) := by omega
            simp [hj]; intro e; omega
          · simp only [hj, if_false]
            have hp' : ¬ (k % 2 = 1) := hp
            have hk2 : (k.div 2).sub 1 < f := by show k / 2 - 1 < f; omega
            by_cases hq : j.mod 2 = 1
            · have hq' : j % 2 = 1 := hq
              have : ¬ (j = k) := by omega
              simp [hq, this, Tr.get]
            · have hq' : ¬ (j % 2 = 1) := hq
              simp only [hq, if_false, ih _ _ _ _ hk2, Tr.get]
              have : (j.div 2 - 1 = k.div 2 - 1) ↔ (j = k) := by show (j / 2 - 1 = k / 2 - 1) ↔ _; omega
              simp [this]
    | nd l v r =>
      simp only [Tr.setF, bq]
      by_cases h0 : k = 0
      · subst h0
        simp only [if_true, Tr.get, bq]
        by_cases hj : j = 0
        · simp [hj]
        · simp [hj]
      · simp only [h0, if_false]
        by_cases hp : k.mod 2 = 1
        · simp only [hp, if_true, Tr.get, bq]
          by_cases hj : j = 0
          · have : ¬ (j = k) := by omega
            simp [hj]; intro e; omega
          · simp only [hj, if_false]
            have hk2 : k.div 2 < f := by show k / 2 < f; omega
            have hp' : k % 2 = 1 := hp
            by_cases hq : j.mod 2 = 1
            · have hq' : j % 2 = 1 := hq
              simp only [hq, if_true, ih _ _ _ _ hk2]
              have : (j.div 2 = k.div 2) ↔ (j = k) := by show (j / 2 = k / 2) ↔ _; omega
              simp [this]
            · have hq' : ¬ (j % 2 = 1) := hq
              have : ¬ (j = k) := by omega
              simp [hq, this]
        · simp only [hp, if_false, Tr.get, bq]
          by_cases hj : j = 0
          · have : ¬ (j = k) := by omega
            simp [hj]; intro e; omega
          · simp only [hj, if_false]
            have hp' : ¬ (k % 2 = 1) := hp
            have hk2 : (k.div 2).sub 1 < f := by show k / 2 - 1 < f; omega
            by_cases hq : j.mod 2 = 1
            · have hq' : j % 2 = 1 := hq
              have : ¬ (j = k) := by omega
              simp [hq, this]
            · have hq' : ¬ (j % 2 = 1) := hq
              simp only [hq, if_false, ih _ _ _ _ hk2]
              have : (j.div 2 - 1 = k.div 2 - 1) ↔ (j = k) := by show (j / 2 - 1 = k / 2 - 1) ↔ _; omega
              simp [this]
theorem Tr.get_set {α : Type} (t : Tr α) (k : Nat) (x : Option α) (j : Nat) : (t.set k x).get j = if j = k then x else t.get j := Tr.setF_get _ _ _ _ _ (Nat.lt_succ_self k)

/-! ### Lists -/
section
variable {α : Type}
theorem nthL_eq : ∀ (l : List α) (n : Nat), nthL l n = l[n]?
  | [], n => by simp [nthL]
  | a :: l, 0 => by simp [nthL]
  | a :: l, n + 1 => by simp [nthL, nthL_eq l n]
theorem takeL_eq : ∀ (n : Nat) (l : List α), takeL n l = l.take n
  | 0, _ => by simp [takeL]
  | n + 1, [] => by simp [takeL]
  | n + 1, a :: l => by simp [takeL, takeL_eq n l]
theorem dropL_eq : ∀ (n : Nat) (l : List α), dropL n l = l.drop n
  | 0, _ => by simp [dropL]
  | n + 1, [] => by simp [dropL]
  | n + 1, a :: l => by simp [dropL, dropL_eq n l]
theorem lenL_eq : ∀ (l : List α), lenL l = l.length
  | [] => rfl
  | a :: l => by simp [lenL, lenL_eq l]
theorem overL_eq : ∀ (xs l : List α), xs.length ≤ l.length → overL xs l = xs ++ l.drop xs.length
  | [], l, _ => by cases l <;> simp [overL]
  | x :: xs, [], h => by simp at h
  | x :: xs, a :: l, h => by simp [overL, overL_eq xs l (by simpa using h)]
theorem putL_eq : ∀ (l : List α) (n : Nat) (xs : List α), n + xs.length ≤ l.length → putL l n xs = l.take n ++ xs ++ l.drop (n + xs.length)
  | l, 0, xs, h => by
    have := overL_eq xs l (by omega)
    cases l <;> simp [putL, this]
  | [], n + 1, xs, h => by simp at h
  | a :: l, n + 1, xs, h => by
    simp only [List.length_cons] at h
    simp only [putL, putL_eq l n xs (by omega), List.take_succ_cons, List.cons_append]
    rw [show n + 1 + xs.length = n + xs.length + 1 by omega, List.drop_succ_cons]
end

/-! ### What values stand for -/
/-- addresses of names; the real capacity of a row that 'append' has made -/
structure Nm where
  f : Nat → Option Nat
  κ : Nat → Option Nat
instance : CoeFun Nm (fun _ => Nat → Option Nat) := ⟨Nm.f⟩
mutual
inductive DenV (ρ : Nm) : AV → Value → Prop
  | bool (b : Bool) : DenV ρ (.bool b) (.bool b)
  | int (k : IntKind) (n : Int) : DenV ρ (.int k n) (.int k n)
  | str (ba : ByteArray) : DenV ρ (.str (ba.data.toList.map UInt8.toNat)) (.string ba)
  | lit (v : Value) : DenV ρ (.lit v) v
  | ptr {n a : Nat} (off : Nat) : ρ n = some a → DenV ρ (.ptr n off) (.pointer (some ⟨a, off, none⟩))
  | sl {n a : Nat} (off len cap c : Nat) (ex : SlK) : ρ n = some a → cap ≤ c → (ex = .exact → c = cap) → (ex = .whole → ρ.κ n = some c) → DenV ρ (.sl n off len cap ex) (.slice (some ⟨a, off, none⟩) len c)
  | slS {n a d : Nat} (len cap c : Nat) : ρ n = some a → ρ.κ n = some d → DenV ρ (.slS n len cap) (.slice (some ⟨a, d, none⟩) len c)
  | ptrS {n a d : Nat} (off : Nat) : ρ n = some a → ρ.κ n = some d → DenV ρ (.ptrS n off) (.pointer (some ⟨a, d + off, none⟩))
  | em (p : Option Addr) (c : Nat) : DenV ρ .em (.slice p 0 c)
  | mp {n a : Nat} : ρ n = some a → DenV ρ (.mp n) (.map (some a))
  | fn (f : FuncId) {as bs : List AV} {us vs : List Value} : DenL ρ as us → DenL ρ bs vs → DenV ρ (.fn f as bs) (.func (.func f) us.toArray vs.toArray)
  | yld {n a : Nat} : ρ n = some a → DenV ρ (.yld n) (.func (.yield a) #[] #[])
  | ifc (t : TypeId) {v : AV} {u : Value} : DenV ρ v u → DenV ρ (.ifc t v) (.iface t u)
  | agg {as : List AV} {us : List Value} : DenL ρ as us → DenV ρ (.agg as) (.agg us.toArray)
  | tup {as : List AV} {us : List Value} : DenL ρ as us → DenV ρ (.tup as) (.tuple us.toArray)
inductive DenL (ρ : Nm) : List AV → List Value → Prop
  | nil : DenL ρ [] []
  | cons {v : AV} {u : Value} {vs : List AV} {us : List Value} : DenV ρ v u → DenL ρ vs us → DenL ρ (v :: vs) (u :: us)
end
def leN (ρ ρ' : Nm) : Prop := (∀ n a, ρ n = some a → ρ' n = some a) ∧ ∀ n c, ρ.κ n = some c → ρ'.κ n = some c
theorem leN.refl (ρ : Nm) : leN ρ ρ := ⟨fun _ _ h => h, fun _ _ h => h⟩
theorem leN.trans {a b c : Nm} (x : leN a b) (y : leN b c) : leN a c := ⟨fun n k h => y.1 n k (x.1 n k h), fun n k h => y.2 n k (x.2 n k h)⟩
mutual
theorem DenV.mono {ρ ρ' : Nm} (h : leN ρ ρ') : ∀ {v : AV} {u : Value}, DenV ρ v u → DenV ρ' v u
  | _, _, .bool b => .bool b
  | _, _, .int k n => .int k n
  | _, _, .str ba => .str ba
  | _, _, .lit v => .lit v
  | _, _, .ptr off e => .ptr off (h.1 _ _ e)
  | _, _, .sl off len cap c ex e a b d => .sl off len cap c ex (h.1 _ _ e) a b (fun x => h.2 _ _ (d x))
  | _, _, .slS len cap c e k => .slS len cap c (h.1 _ _ e) (h.2 _ _ k)
  | _, _, .ptrS off e k => .ptrS off (h.1 _ _ e) (h.2 _ _ k)
  | _, _, .em p c => .em p c
  | _, _, .mp e => .mp (h.1 _ _ e)
  | _, _, .fn f x y => .fn f (DenL.mono h x) (DenL.mono h y)
  | _, _, .yld e => .yld (h.1 _ _ e)
  | _, _, .ifc t x => .ifc t (DenV.mono h x)
  | _, _, .agg x => .agg (DenL.mono h x)
  | _, _, .tup x => .tup (DenL.mono h x)
theorem DenL.mono {ρ ρ' : Nm} (h : leN ρ ρ') : ∀ {v : List AV} {u : List Value}, DenL ρ v u → DenL ρ' v u
  | _, _, .nil => .nil
  | _, _, .cons x y => .cons (DenV.mono h x) (DenL.mono h y)
end
section
variable {ρ : Nm}
theorem DenL.length : ∀ {vs : List AV} {us : List Value}, DenL ρ vs us → us.length = vs.length
  | _, _, .nil => rfl
  | _, _, .cons _ y => by simp [DenL.length y]
theorem DenL.append : ∀ {vs ws : List AV} {us xs : List Value}, DenL ρ vs us → DenL ρ ws xs → DenL ρ (vs ++ ws) (us ++ xs)
  | _, _, _, _, .nil, y => y
  | _, _, _, _, .cons x y, z => .cons x (DenL.append y z)
theorem DenL.take : ∀ (n : Nat) {vs : List AV} {us : List Value}, DenL ρ vs us → DenL ρ (vs.take n) (us.take n)
  | 0, _, _, _ => by simp; exact .nil
  | n + 1, _, _, .nil => by simp; exact .nil
  | n + 1, _, _, .cons x y => by simp; exact .cons x (DenL.take n y)
theorem DenL.drop : ∀ (n : Nat) {vs : List AV} {us : List Value}, DenL ρ vs us → DenL ρ (vs.drop n) (us.drop n)
  | 0, _, _, h => by simpa using h
  | n + 1, _, _, .nil => by simp; exact .nil
  | n + 1, _, _, .cons x y => by simp; exact DenL.drop n y
theorem DenL.get : ∀ {n : Nat} {vs : List AV} {us : List Value} {v : AV}, DenL ρ vs us → vs[n]? = some v → ∃ u, us[n]? = some u ∧ DenV ρ v u
  | _, _, _, _, .nil, h => by simp at h
  | 0, _, _, _, .cons x y, h => by simp at h; subst h; exact ⟨_, by simp, x⟩
  | n + 1, _, _, _, .cons x y, h => by simpa using DenL.get y (by simpa using h)
theorem DenL.put {vs ws : List AV} {us xs : List Value} {n : Nat} (h : DenL ρ vs us) (g : DenL ρ ws xs) (hn : n + ws.length ≤ vs.length) : DenL ρ (putL vs n ws) (putAt us n xs) := by
  rw [putL_eq _ _ _ hn]
  unfold putAt
  rw [g.length]
  exact ((h.take n).append g).append (h.drop _)
theorem DenL.rep {z : List AV} {us : List Value} (h : DenL ρ z us) : ∀ n, DenL ρ (repL n z) (repL n us)
  | 0 => .nil
  | n + 1 => h.append (DenL.rep h n)

theorem DenV.ofV (v : Value) : DenV ρ (AV.ofV v) v := by
  unfold AV.ofV
  split
  · exact .bool _
  · exact .int _ _
  · exact .str _
  · exact .lit _
theorem DenL.ofVs : ∀ (vs : List Value), DenL ρ (vs.map AV.ofV) vs
  | [] => .nil
  | v :: vs => .cons (DenV.ofV v) (DenL.ofVs vs)
theorem DenV.ofC (v : Value) : DenV ρ (AV.ofC v) v := by
  unfold AV.ofC
  split
  · rename_i cs
    have := DenV.agg (DenL.ofVs (ρ := ρ) cs.toList)
    simpa using this
  · exact .ofV v
/-- the cells of a value -/
theorem DenV.cells {v : AV} {u : Value} (h : DenV ρ v u) : DenL ρ v.cells u.cells.toList := by
  cases h
  case lit =>
    cases u <;> simp only [AV.cells, Value.cells]
    case agg cs => exact .ofVs _
    all_goals exact .cons (.lit _) .nil
  case agg h => exact h
  all_goals simp only [AV.cells, Value.cells]; exact .cons (by constructor <;> assumption) .nil
theorem DenV.cells' {v : AV} {u : Value} (h : DenV ρ v u) : ∃ us, u.cells = us.toArray ∧ DenL ρ v.cells us := ⟨u.cells.toList, by simp, h.cells⟩
end
end Go.Mesh
