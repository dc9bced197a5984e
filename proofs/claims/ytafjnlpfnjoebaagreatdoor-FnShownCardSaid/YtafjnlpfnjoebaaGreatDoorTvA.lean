/- An evaluator over abstract values for the model's code, and that what it says is what the machine does (part 1). It holds without condition. -/
import Derived.Orders
import Derived.Tactics
import Derived.Below
import Derived.Laws.AppendOwn
import Derived.Laws.OwnMore
import Derived.Laws.Rows
import Derived.Laws.Cells
import Derived.Laws.Slices
import Derived.Laws.StructEq
import Derived.Laws.CopyRow
import Derived.Laws.MakeOwn
import Derived.Deep.AppendSrc
set_option linter.unusedVariables false
set_option linter.unusedSectionVars false
set_option linter.unusedSimpArgs false
set_option linter.unnecessarySimpa false
set_option maxRecDepth 100000
set_option autoImplicit false
namespace Go.Tv
open Go
/-- the kinds of a row's cells -/
inductive Ct where
 | int (k : IntKind) | bool | str | ints (k : IntKind)
 deriving DecidableEq
/-- a cell's content, pure -/
inductive Cl where
 | i (n : Int) | b (x : Bool) | s (x : ByteArray) | l (xs : List Int)
/-- a row's content, pure -/
inductive Sq where
 | ints (xs : List Int) | bools (xs : List Bool) | strs (xs : List ByteArray) | cells (xs : List (List Cl))
def Cl.toI : Cl → Int | .i n => n | _ => 0
def Cl.toB : Cl → Bool | .b x => x | _ => false
def Cl.toS : Cl → ByteArray | .s x => x | _ => ByteArray.empty
def Cl.toL : Cl → List Int | .l x => x | _ => []
def Sq.len : Sq → Nat
 | .ints xs => xs.length | .bools xs => xs.length | .strs xs => xs.length | .cells xs => xs.length
def Sq.get : Sq → Nat → List Cl
 | .ints xs, i => [.i (xs.getD i 0)]
 | .bools xs, i => [.b (xs.getD i false)]
 | .strs xs, i => [.s (xs.getD i ByteArray.empty)]
 | .cells xs, i => xs.getD i []
def Sq.sub : Sq → Nat → Nat → Sq
 | .ints xs, o, n => .ints ((xs.drop o).take n)
 | .bools xs, o, n => .bools ((xs.drop o).take n)
 | .strs xs, o, n => .strs ((xs.drop o).take n)
 | .cells xs, o, n => .cells ((xs.drop o).take n)
/-- from a place on -/
def Sq.from_ : Sq → Nat → Sq
 | .ints xs, o => .ints (xs.drop o)
 | .bools xs, o => .bools (xs.drop o)
 | .strs xs, o => .strs (xs.drop o)
 | .cells xs, o => .cells (xs.drop o)
/-- up to a place -/
def Sq.upto : Sq → Nat → Sq
 | .ints xs, n => .ints (xs.take n)
 | .bools xs, n => .bools (xs.take n)
 | .strs xs, n => .strs (xs.take n)
 | .cells xs, n => .cells (xs.take n)
def Sq.app : Sq → Sq → Sq
 | .ints xs, .ints ys => .ints (xs ++ ys)
 | .bools xs, .bools ys => .bools (xs ++ ys)
 | .strs xs, .strs ys => .strs (xs ++ ys)
 | .cells xs, .cells ys => .cells (xs ++ ys)
 | q, _ => q
/-- is it a content of such elements -/
def Sq.fits (e : List Ct) : Sq → Bool
 | .ints _ => (match e with | [.int _] => true | _ => false)
 | .bools _ => (match e with | [.bool] => true | _ => false)
 | .strs _ => (match e with | [.str] => true | _ => false)
 | .cells _ => (match e with | [] => false | [.int _] => false | [.bool] => false | [.str] => false | _ => true)
def Sq.nil : List Ct → Sq
 | [.int _] => .ints [] | [.bool] => .bools [] | [.str] => .strs [] | _ => .cells []
def Cl.zero : Ct → Cl | .int _ => .i 0 | .bool => .b false | .str => .s ByteArray.empty | .ints _ => .l []
def Sq.zeros (e : List Ct) (n : Nat) : Sq :=
 match e with
 | [.int _] => .ints (List.replicate n 0) | [.bool] => .bools (List.replicate n false) | [.str] => .strs (List.replicate n ByteArray.empty)
 | _ => .cells (List.replicate n (e.map Cl.zero))
/-- cells of one element, put in from a cell on -/
def splice (old : List Cl) (off : Nat) (new : List Cl) : List Cl := old.take off ++ new ++ old.drop (off + new.length)
def Sq.put : Sq → (i off : Nat) → (whole : Bool) → List Cl → Sq
 | .ints xs, i, _, _, [c] => .ints (xs.set i c.toI)
 | .bools xs, i, _, _, [c] => .bools (xs.set i c.toB)
 | .strs xs, i, _, _, [c] => .strs (xs.set i c.toS)
 | .cells xs, i, off, w, cs => .cells (xs.set i (bif w then cs else splice (xs.getD i []) off cs))
 | q, _, _, _, _ => q
def Sq.ofEls : List Ct → List (List Cl) → Sq
 | [.int _], els => .ints (els.map fun c => (c.headD (.i 0)).toI)
 | [.bool], els => .bools (els.map fun c => (c.headD (.i 0)).toB)
 | [.str], els => .strs (els.map fun c => (c.headD (.i 0)).toS)
 | _, els => .cells els
/-- `copy`: the first cells of one into the other, at a place -/
def overlay {α : Type} (xs : List α) (o : Nat) (ys : List α) : List α := xs.take o ++ ys ++ xs.drop (o + ys.length)
def Sq.over : Sq → Nat → Sq → Sq
 | .ints xs, o, .ints ys => .ints (overlay xs o ys)
 | .bools xs, o, .bools ys => .bools (overlay xs o ys)
 | .strs xs, o, .strs ys => .strs (overlay xs o ys)
 | .cells xs, o, .cells ys => .cells (overlay xs o ys)
 | q, _, _ => q
def Ct.nested : Ct → Bool | .ints _ => true | _ => false
def nested (e : List Ct) : Bool := e.any Ct.nested
structure Row where
 e : List Ct
 q : Sq
 /-- what its cells lead to is its own -/
 eu : Bool
 /-- 0: may be written; 1: frozen, shared; 2: what it leads to was moved; 3: what one cell leads to is out -/
 live : Nat
 /-- what is out: element, cell, and the row that it is -/
 hole : Option (Nat × Nat × Nat)
/-- the names that a row holds -/
def Row.hids (R : Row) : List Nat := match R.hole with | some h => [2 * h.2.2] | none => []
/-- a row that is left open is told no more -/
def Row.shut (R : Row) : Row := { R with live := bif Nat.beq R.live 3 then 2 else R.live }
/-- flat abstract values -/
inductive C where
 | dead | undef | int (k : IntKind) (n : Int) | bool (b : Bool) | str (s : ByteArray) | nil
 /-- a row that is only read; x, y: how far it, how far what it leads to may be handed on (2: anywhere; 1: not into rows; 0: not at all) -/
 | tr (x y : Nat) (e : List Ct) (q : Sq)
 | ow (r : Nat) | os (r off len : Nat)
 | bp (b off : Nat) | ep (r i off : Nat) | rp (y : Nat) (e : List Ct) (q : Sq) (i off : Nat)
 | fn (f : FuncId) (caps : List Nat)
structure V1 where
 agg : Bool
 cs : List C
inductive TV where
 | v (x : V1)
 | tp (xs : List V1)
 /-- a slice of slices that is only handed to a call -/
 | bn (cs : List C)
 /-- a pointer to an element of such a slice -/
 | be (cs : List C) (i : Nat)
def TV.undef : TV := .v ⟨false, [.undef]⟩
def TV.dead : TV := .v ⟨false, [.dead]⟩
def one (c : C) : TV := .v ⟨false, [c]⟩
structure St where
 tmps : List TV
 rows : List (Nat × Row)
 boxes : List (Nat × List C)
def aget {α : Type} : List (Nat × α) → Nat → Option α
 | [], _ => none
 | (k, v) :: l, j => bif Nat.beq k j then some v else aget l j
def aput {α : Type} : List (Nat × α) → Nat → α → List (Nat × α)
 | [], j, x => [(j, x)]
 | (k, v) :: l, j, x => bif Nat.beq k j then (k, x) :: l else (k, v) :: aput l j x
def adel {α : Type} : List (Nat × α) → Nat → List (Nat × α)
 | [], _ => []
 | (k, v) :: l, j => bif Nat.beq k j then adel l j else (k, v) :: adel l j
/-- a variable's cells -/
inductive Bt where
 | int (k : IntKind) | bool | str | sl (e : List Ct) (eb : Nat) | ptr | fn
def Bt.zero : Bt → C
 | .int k => .int k 0 | .bool => .bool false | .str => .str ByteArray.empty | .sl _ _ => .nil | .ptr => .dead | .fn => .dead
structure TI where
 agg : Bool
 cs : List Bt
 /-- a struct's fields: offset, size, is it a struct -/
 flds : List (Nat × Nat × Bool)
/-- what a call hands back; rows and boxes of its own are named from 1000 on -/
structure Res where
 val : List V1
 rows : List (Option Row)
 nr : List Row
 boxes : List (List C)
 nb : List (List C)
inductive Upd where
 | row (id : Nat) (r : Row)
 | del (id : Nat)
 | box (id : Nat) (cs : List C)
 /-- what was read out of rows' own content is told no more -/
 | kill
inductive Ex where
 | normal | exit (id : Nat)
abbrev KL := Ex → St → Option Res
/-- what is kept at a place: slots; rows with their names from there on; boxes -/
structure Cl1 where
 t : List Nat
 r : List (Nat × Nat)
 b : List Nat
 /-- rows whose content is shared from there on; rows that are frozen -/
 w : List Nat
 z : List Nat
 /-- cells that are only read from there on: slot (even) or box (odd), cell, levels, kinds -/
 c : List (Nat × Nat × Nat × Nat × List Ct)
/-- a parameter's way: does it go in to be written; how far may the call hand it on, and what it leads to -/
structure PWay where
 io : Bool
 dx : Nat
 dy : Nat
structure Ctx where
 Γ : List (Nat × TI)
 orc : FuncId → List TV → List Row → List (List C) → (Res → Option Res) → Option Res
 io : List (Nat × List PWay) := []
 share : List (Nat × Nat) := []
 /-- regions ahead of which what a cell of a row leads to is taken out: slots of the row and of the place, cell -/
 opn : List (Nat × Nat × Nat × Nat) := []
 /-- regions ahead of which what a row leads to is shared: the row's slot -/
 shr : List (Nat × Nat) := []
 /-- slices of slices for a call -/
 bun : List (Nat × Nat) := []
 /-- slice expressions by which a row is cut short -/
 cut : List (Nat × Nat) := []
 own : List (Nat × Nat × Nat × List Ct) := []
 cin : List (Nat × Cl1) := []
 cout : List (Nat × Cl1) := []
 lp : Nat → St → (St → Option Res) → Option Res
 /-- functions that may take away or write what their rows lead to; is this one of them -/
 kl : List FuncId
 nk : Bool := true
 /-- struct types whose values are compared -/
 eqs : List TypeId
 /-- types: slices of bytes -/
 byt : List TypeId
 fin : St → Option Res
/-- a place's own number: region i, operation j, part k -/
def site (i j k : Nat) : Nat := 1000 + (i * 128 + j) * 16 + k
def bytesOf (s : ByteArray) : List Int := s.data.toList.map fun b => (b.toNat : Int)
def strOf (xs : List Int) : ByteArray := ⟨(xs.map fun n => UInt8.ofNat n.toNat).toArray⟩
def ctBt : Bt → Option Ct
 | .int k => some (.int k) | .bool => some .bool | .str => some .str
 | .sl [.int k] _ => some (.ints k)
 | _ => none
/-- nil values that are to grow become rows of their own -/
def ownC (i j : Nat) (k : Nat) : List (Nat × Nat × Nat × List Ct) → C → C × List Upd
 | [], c => (c, [])
 | (i', j', k', e) :: l, c => bif Nat.beq i i' && Nat.beq j j' && Nat.beq k k' then
  (match c with
  | .nil => bif (Sq.nil e).fits e then (.ow (site i j (8 + k)), [.row (site i j (8 + k)) ⟨e, Sq.nil e, true, 0, none⟩]) else (.nil, [])
  | c => (c, []))
  else ownC i j k l c
def ownCs (own : List (Nat × Nat × Nat × List Ct)) (i j : Nat) : Nat → List C → List C × List Upd
 | _, [] => ([], [])
 | k, c :: cs => let (c', us) := ownC i j k own c; let (cs', us') := ownCs own i j (k + 1) cs; (c' :: cs', us ++ us')
def C.kill : C → C
 | .tr x y e q => bif Nat.beq x 1 || (Nat.beq y 1 && nested e) then .dead else .tr x y e q
 | .rp _ _ _ _ _ => .dead
 | c => c
def TV.kill : TV → TV
 | .v x => .v ⟨x.agg, x.cs.map C.kill⟩
 | .tp xs => .tp (xs.map fun x => ⟨x.agg, x.cs.map C.kill⟩)
 | .bn cs => .bn (cs.map C.kill)
 | .be cs i => .be (cs.map C.kill) i
def St.kill (st : St) : St := { st with tmps := st.tmps.map TV.kill, boxes := st.boxes.map fun p => (p.1, p.2.map C.kill) }
def apply1 (st : St) : Upd → St
 | .row id r => { st with rows := aput st.rows id r }
 | .del id => { st with rows := adel st.rows id }
 | .box id cs => { st with boxes := aput st.boxes id cs }
 | .kill => st.kill
def applyU : List Upd → St → St
 | [], st => st
 | u :: us, st => applyU us (apply1 st u)
def nodup : List Nat → Bool
 | [] => true
 | x :: l => !l.any (Nat.beq x) && nodup l
section act
variable (X : Ctx)
def ofCl (x : Nat) : Ct → Cl → C
 | .int k, c => .int k c.toI
 | .bool, c => .bool c.toB
 | .str, c => .str c.toS
 | .ints k, c => .tr x 2 [.int k] (.ints c.toL)
def ofCls (x : Nat) (l : List Cl) : List Ct → Nat → List C
 | [], _ => []
 | t :: ts, j => ofCl x t (l.getD j (.i 0)) :: ofCls x l ts (j + 1)
def ctBeq (a b : Ct) : Bool := decide (a = b)
def ctsBeq (a b : List Ct) : Bool := decide (a = b)
/-- what a slice's value holds, for reading -/
def viewC (st : St) : C → Option (List Ct × Sq)
 | .tr _ _ e q => some (e, q)
 | .ow r => match aget st.rows r with
  | some R => bif Nat.ble R.live 1 then some (R.e, R.q) else none
  | none => none
 | .os r o n => match aget st.rows r with
  | some R => bif Nat.ble R.live 1 then some (R.e, R.q.sub o n) else none
  | none => none
 | _ => none
/-- a value put into a row's cell: its content; is it exclusive; what becomes of its row -/
def toCl (st : St) (sh : Bool) : Ct → C → Option (Cl × Bool × List Upd)
 | .int k, .int k' n => bif decide (k = k') then some (.i n, true, []) else none
 | .bool, .bool b => some (.b b, true, [])
 | .str, .str s => some (.s s, true, [])
 | .ints _, .nil => some (.l [], true, [])
 | .ints k, .tr x _ e q => match q with
  | .ints xs => bif ctsBeq e [.int k] && Nat.beq x 2 then some (.l xs, false, []) else none
  | _ => none
 | .ints k, .ow r => match aget st.rows r with
  | some R => match R.q with
   | .ints xs => bif ctsBeq R.e [.int k] then
    (bif sh || Nat.beq R.live 1 then (bif Nat.ble R.live 1 then some (.l xs, false, [.row r { R with live := 1 }]) else none)
     else bif Nat.beq R.live 0 then some (.l xs, true, [.row r { R with live := 2 }]) else none)
    else none
   | _ => none
  | none => none
 | _, _ => none
def Upd.isRow (r : Nat) : Upd → Bool
 | .row id _ => Nat.beq id r
 | .del id => Nat.beq id r
 | _ => false
/-- rows that are moved, each once -/
def movedOnce (us : List Upd) : Bool := nodup (us.filterMap fun u => match u with | .row r R => (bif Nat.beq R.live 2 then some r else none) | _ => none)
def toCls (st : St) (sh : Bool) : List Ct → List C → Option (List Cl × Bool × List Upd)
 | [], [] => some ([], true, [])
 | t :: ts, c :: cs => match toCl st sh t c with
  | some (x, eu, us) => match toCls st sh ts cs with
   | some (xs, eu', us') => some (x :: xs, eu && eu', us ++ us')
   | none => none
  | none => none
 | _, _ => none
def toEls (st : St) (sh : Bool) (e : List Ct) : List (List C) → Option (List (List Cl) × Bool × List Upd)
 | [] => some ([], true, [])
 | c :: cs => match toCls st sh e c with
  | some (x, eu, us) => match toEls st sh e cs with
   | some (xs, eu', us') => some (x :: xs, eu && eu', us ++ us')
   | none => none
  | none => none
def ofConst : Value → C
 | .int k n => .int k n
 | .bool b => .bool b
 | .string s => .str s
 | .slice none 0 0 => .nil
 | _ => .dead
def ev (st : St) : Operand → TV
 | .tmp t => st.tmps.getD t TV.undef
 | .const v => one (ofConst v)
 | .func f => one (.fn f [])
 | .global _ => TV.dead
def ev1 (st : St) (x : Operand) : C := match ev st x with
 | .v ⟨false, [c]⟩ => c
 | _ => .dead
def isShift : BinOp → Bool | .shl => true | .shr => true | _ => false
def arith (op : BinOp) (k : IntKind) (x y : Int) (K : C → Option Res) : Option Res :=
 match op with
 | .add => K (.int k (k.wrap (x + y)))
 | .sub => K (.int k (k.wrap (x - y)))
 | .mul => K (.int k (k.wrap (x * y)))
 | .quo => bif decide (y = 0) then none else K (.int k (k.wrap (x.tdiv y)))
 | .rem => bif decide (y = 0) then none else K (.int k (x.tmod y))
 | .and => K (.int k (bits .and k x y))
 | .or => K (.int k (bits .or k x y))
 | .xor => K (.int k (bits .xor k x y))
 | .eql => K (.bool (x == y))
 | .neq => K (.bool (x != y))
 | .lss => K (.bool (decide (x < y)))
 | .leq => K (.bool (decide (x ≤ y)))
 | .gtr => K (.bool (decide (y < x)))
 | .geq => K (.bool (decide (y ≤ x)))
 | .shl => bif decide (y < 0) then none else K (.int k (k.wrap (x * 2 ^ (min y.toNat k.bits))))
 | .shr => bif decide (y < 0) then none else K (.int k (x.fdiv (2 ^ (min y.toNat k.bits))))
 | .andNot => none
 where bits (op : BinOp) (k : IntKind) (x y : Int) : Int :=
 let a := BitVec.ofInt k.bits x
 let b := BitVec.ofInt k.bits y
 k.wrap (match op with | .and => (a &&& b).toNat | .or => (a ||| b).toNat | _ => (a ^^^ b).toNat)
def strOp (op : BinOp) (x y : ByteArray) (K : C → Option Res) : Option Res :=
 match op with
 | .add => bif decide (x.size + y.size ≤ 9223372036854775807) then K (.str (x ++ y)) else none
 | .eql => K (.bool (x.toList == y.toList))
 | .neq => K (.bool !(x.toList == y.toList))
 | _ => none
/-- '==' of structs of numbers, bools and strings -/
def eqCs : List C → List C → Option Bool
 | [], [] => some true
 | .int k n :: l, .int k' m :: l' => bif decide (k = k') then (eqCs l l').map fun b => (n == m) && b else none
 | .bool n :: l, .bool m :: l' => (eqCs l l').map fun b => (n == m) && b
 | _, _ => none
def field1 (cs : List C) (f : Nat × Nat × Bool) : V1 := ⟨f.2.2, (cs.drop f.1).take f.2.1⟩
def C.solid : C → Bool | .dead => false | .undef => false | _ => true
def V1.solid (v : V1) : Bool := v.agg || v.cs.all C.solid
/-- a struct out of its parts -/
def fillC (flds : List (Nat × Nat × Bool)) : List C → List (Nat × V1) → Option (List C)
 | cs, [] => some cs
 | cs, (i, v) :: rest => match flds[i]? with
  | some f => bif Nat.beq v.cs.length f.2.1 && v.solid then fillC flds (cs.take f.1 ++ v.cs ++ cs.drop (f.1 + f.2.1)) rest else none
  | none => none
/-- a slice's elements out of its parts: each place in order -/
def partsIn : (n i : Nat) → List (Nat × V1) → Option (List (List C))
 | 0, _, [] => some []
 | n + 1, i, (j, v) :: rest => bif Nat.beq i j then (partsIn n (i + 1) rest).map (v.cs :: ·) else none
 | _, _, _ => none
def oneEach : List (List C) → Option (List C)
 | [] => some []
 | [c] :: l => match oneEach l with
  | some cs => some (c :: cs)
  | none => none
 | _ :: _ => none
/-- what is gathered for a call: the rows and boxes that go in, the rows lent -/
structure Col where
 rows : List Nat
 boxes : List Nat
 lent : List (Nat × Nat × Nat)
 /-- is something that was read out of rows' own content lent -/
 wk : Bool
def pos (l : List Nat) (x : Nat) : Option Nat :=
 match l with
 | [] => none
 | y :: l => bif Nat.beq x y then some 0 else (pos l x).map (· + 1)
def colRow (a : Col) (r : Nat) : Nat × Col := match pos a.rows r with
 | some j => (j, a)
 | none => (a.rows.length, { a with rows := a.rows ++ [r] })
def colBox (a : Col) (b : Nat) : Nat × Col := match pos a.boxes b with
 | some j => (j, a)
 | none => (a.boxes.length, { a with boxes := a.boxes ++ [b] })
def colCaps (a : Col) : List Nat → List Nat × Col
 | [] => ([], a)
 | b :: bs => let (j, a1) := colBox a b; let (js, a2) := colCaps a1 bs; (j :: js, a2)
def colC (st : St) (io : Bool) (dx dy : Nat) (a : Col) : C → Option (C × Col)
 | .dead => some (.dead, a)
 | .undef => some (.dead, a)
 | .int k n => some (.int k n, a)
 | .bool b => some (.bool b, a)
 | .str s => some (.str s, a)
 | .nil => some (.nil, a)
 | .tr x y e q => bif Nat.ble dx x && Nat.ble dy y then some (.tr dx dy e q, { a with wk := a.wk || (Nat.beq x 1 && Nat.beq dx 0) || (Nat.beq y 1 && Nat.beq dy 0) }) else none
 | .ow r => match aget st.rows r with
  | some R => bif io then (bif Nat.beq R.live 0 then (let (j, a1) := colRow a r; some (.ow j, a1)) else none)
   else bif Nat.ble R.live 1 then some (.tr dx dy R.e R.q, { a with lent := a.lent ++ [(r, dx, dy)] }) else none
  | none => none
 | .os r o n => match aget st.rows r with
  | some R => bif io || !Nat.ble R.live 1 then none else some (.tr dx dy R.e (R.q.sub o n), { a with lent := a.lent ++ [(r, dx, dy)] })
  | none => none
 | .bp b o => match aget st.boxes b with
  | some _ => let (j, a1) := colBox a b; some (.bp j o, a1)
  | none => none
 | .ep _ _ _ => none
 | .rp _ _ _ _ _ => none
 | .fn f caps => let (js, a1) := colCaps a caps; some (.fn f js, a1)
def colCs (st : St) (io : Bool) (dx dy : Nat) (a : Col) : List C → Option (List C × Col)
 | [] => some ([], a)
 | c :: cs => match colC st io dx dy a c with
  | some (c', a1) => match colCs st io dx dy a1 cs with
   | some (cs', a2) => some (c' :: cs', a2)
   | none => none
  | none => none
def colArgs (st : St) (a : Col) : List PWay → List TV → Option (List TV × Col)
 | _, [] => some ([], a)
 | ws, v :: vs =>
  let w := ws.headD ⟨false, 0, 1⟩
  match v with
  | .v v => (match colCs st w.io w.dx w.dy a v.cs with
   | some (cs, a1) => match colArgs st a1 ws.tail vs with
    | some (vs', a2) => some (.v ⟨v.agg, cs⟩ :: vs', a2)
    | none => none
   | none => none)
  | .bn cs => (match colCs st false w.dx w.dy a cs with
   | some (cs', a1) => match colArgs st a1 ws.tail vs with
    | some (vs', a2) => some (.bn cs' :: vs', a2)
    | none => none
   | none => none)
  | .be _ _ => none
  | .tp _ => none
/-- the contents of the boxes that go in (they may name further ones) -/
def colBoxes (st : St) : (fuel done : Nat) → Col → Option (List (List C) × Col)
 | 0, _, _ => none
 | n + 1, d, a => match a.boxes[d]? with
  | none => some ([], a)
  | some b => match aget st.boxes b with
   | none => none
   | some cs => match colCs st true 2 2 a cs with
    | none => none
    | some (cs', a1) => match colBoxes st n (d + 1) a1 with
     | some (l, a2) => some (cs' :: l, a2)
     | none => none
def rowsIn (st : St) : List Nat → Option (List Row)
 | [] => some []
 | r :: rs => match aget st.rows r, rowsIn st rs with
  | some R, some l => some (R :: l)
  | _, _ => none
/-- back from the call's own names -/
def backC (a : Col) (st0 : Nat) : C → C
 | .ow j => .ow (bif Nat.ble 1000 j then st0 + (j - 1000) else a.rows.getD j 0)
 | .bp j o => .bp (bif Nat.ble 1000 j then st0 + (j - 1000) else a.boxes.getD j 0) o
 | .fn f caps => .fn f (caps.map fun j => bif Nat.ble 1000 j then st0 + (j - 1000) else a.boxes.getD j 0)
 | .os _ _ _ => .dead
 | .ep _ _ _ => .dead
 | .rp _ _ _ _ _ => .dead
 | c => c
def backV (a : Col) (st0 : Nat) (v : V1) : V1 := ⟨v.agg, v.cs.map (backC a st0)⟩
def backBoxes (a : Col) (st0 : Nat) : List Nat → List (List C) → Option (List Upd)
 | [], [] => some []
 | b :: bs, c :: cs => match backBoxes a st0 bs cs with
  | some us => some (.box b (c.map (backC a st0)) :: us)
  | none => none
 | _, _ => none
def backNb (a : Col) (st0 : Nat) : Nat → List (List C) → List Upd
 | _, [] => []
 | n, c :: cs => .box (st0 + n) (c.map (backC a st0)) :: backNb a st0 (n + 1) cs
def backNr (st0 : Nat) (sh : Bool) : Nat → List Row → List Upd
 | _, [] => []
 | n, R :: rs => .row (st0 + n) (bif sh then { R with eu := R.eu && !nested R.e } else R) :: backNr st0 sh (n + 1) rs
/-- the rows that went in, behind the call -/
def backRows : List Nat → List (Option Row) → Option (List Upd)
 | [], [] => some []
 | r :: rs, o :: os => match backRows rs os with
  | some us => match o with
   | some R => some (.row r R :: us)
   | none => some (.del r :: us)
  | _ => none
 | _, _ => none
def C.isTr : C → Bool
 | .tr _ _ _ _ => true
 | _ => false
def C.isTr2 : C → Bool
 | .tr x _ _ _ => Nat.beq x 2
 | _ => false
def Row.sharing (R : Row) : Bool := nested R.e && !R.eu
def Res.any (f : C → Bool) (r : Res) : Bool := r.val.any (fun v => v.cs.any f) || r.boxes.any (fun b => b.any f) || r.nb.any (fun b => b.any f) ||
 r.nr.any Row.sharing || r.rows.any (fun o => match o with | some R => R.sharing | none => false)
def freezes (st : St) (s1 s2 : Bool) : List (Nat × Nat × Nat) → Option (List Upd)
 | [] => some []
 | (r, dx, dy) :: rs => match aget st.rows r, freezes st s1 s2 rs with
  | some R, some us =>
   let f := s1 && Nat.ble 1 dx
   let u := s2 && Nat.ble 2 dy && nested R.e
   some ((bif f || u then [.row r { R with live := (bif f && Nat.beq R.live 0 then 1 else bif Nat.beq R.live 3 then 2 else R.live), eu := R.eu && !u }] else []) ++ us)
  | _, _ => none
/-- a nil slice is an empty one -/
def nilC (b : Bt) : C → C
 | .nil => match b with
  | .sl e _ => bif (Sq.nil e).fits e then .tr 2 2 e (Sq.nil e) else .nil
  | _ => .nil
 | c => c
def nilCs : List Bt → List C → List C
 | b :: bs, c :: cs => nilC b c :: nilCs bs cs
 | _, cs => cs
def nilVs : List TypeId → List TV → List TV
 | t :: ts, v :: vs => (match aget X.Γ t, v with | some ti, .v v => .v ⟨v.agg, nilCs ti.cs v.cs⟩ | _, v => v) :: nilVs ts vs
 | _, vs => vs
/-- .. but where a call takes nil as nil -/
def argVs (i j : Nat) (ts : List TypeId) (vs : List TV) : List TV := bif X.bun.any (fun p => Nat.beq p.1 i && Nat.beq p.2 j) then vs else nilVs X ts vs
def callBad (a : Col) (rs : List Row) (kl : Bool) : Bool :=
 a.lent.any (fun r => a.rows.any (Nat.beq r.1)) || !nodup (a.lent.map (·.1)) && a.lent.any (fun r => Nat.ble 1 r.2.1 || Nat.ble 2 r.2.2) || (kl && X.nk) ||
 (a.wk && rs.any fun R => nested R.e) || !nodup a.rows || !nodup a.boxes || !Nat.ble a.rows.length 999 || !Nat.ble a.boxes.length 999 || rs.any (fun R => !Nat.beq R.live 0)
def callK (st0 : Nat) (st : St) (sh : Bool) (f : FuncId) (as : List TV) (caps : List C) (K : TV → List Upd → Option Res) : Option Res :=
 match colArgs st ⟨[], [], [], false⟩ ((aget X.io f).getD []) as with
 | none => none
 | some (vs, a) => match colCs st false 0 1 a caps with
  | none => none
  | some (cps, a) => match colBoxes st 16 0 a with
   | none => none
   | some (bs, a) => match rowsIn st a.rows with
    | none => none
    | some rs =>
     let kl := X.kl.any (Nat.beq f)
     bif callBad X a rs kl then none else X.orc f (vs ++ cps.map one) rs bs fun res =>
     match backBoxes a st0 a.boxes res.boxes, backRows a.rows res.rows, freezes st (res.any C.isTr) (res.any C.isTr2) a.lent with
     | some us2, some us3, some us4 => bif Nat.ble (res.nr.length + res.nb.length) 7 then K (match res.val with | [v] => .v (backV a st0 v) | vs => .tp (vs.map (backV a st0)))
      ((bif kl then [.kill] else []) ++ us3 ++ us4 ++ backNr st0 sh 0 res.nr ++ us2 ++ backNb a st0 0 res.nb) else none
     | _, _, _ => none
def oneV : TV → Option V1 | .v x => some x | _ => none
def allV (st : St) : List Operand → Option (List V1)
 | [] => some []
 | x :: xs => match oneV (ev st x), allV st xs with
  | some v, some vs => some (v :: vs)
  | _, _ => none
def allT (st : St) : List Operand → List TV
 | [] => []
 | x :: xs => ev st x :: allT st xs
def partsV (st : St) : List (Nat × Operand) → Option (List (Nat × V1))
 | [] => some []
 | (i, x) :: xs => match oneV (ev st x), partsV st xs with
  | some v, some vs => some ((i, v) :: vs)
  | _, _ => none
/-- 'append': the elements -/
def appSrc (st : St) (sh : Bool) (e : List Ct) : C → Option (Sq × Bool × List Upd)
 | .str s => bif ctsBeq e [.int .u8] then some (.ints (bytesOf s), true, []) else none
 | .tr _ y e' q => bif ctsBeq e e' && (Nat.beq y 2 || !nested e) then some (q, !nested e, []) else none
 | .ow r => match aget st.rows r with
  | some R => bif ctsBeq e R.e then
   (bif !Nat.ble R.live 1 then none else bif !nested e then some (R.q, true, [])
    else bif sh || !R.eu then some (R.q, false, [.row r { R with live := 1, eu := false }])
    else bif Nat.beq R.live 0 then some (R.q, true, [.row r { R with live := 2 }]) else none)
   else none
  | none => none
 | .os r o n => match aget st.rows r with
  | some R => bif ctsBeq e R.e && !nested e && Nat.ble R.live 1 then some (R.q.sub o n, true, []) else none
  | none => none
 | _ => none
def appendG (st0 : Nat) (st : St) (sh : Bool) (e : List Ct) (eb : Nat) (s x : C) (K : TV → List Upd → Option Res) : Option Res :=
 match appSrc st sh e x with
  | none => none
  | some (q, eu, us) => match s with
   | .nil => bif decide (q.len * eb ≤ 140737488355328) then K (one (.ow st0)) (us ++ [.row st0 ⟨e, q, eu, 0, none⟩]) else none
   | .ow r => match aget st.rows r with
    | some R => bif ctsBeq e R.e && Nat.beq R.live 0 && !us.any (Upd.isRow r) then
     (bif decide ((R.q.len + q.len) * eb ≤ 140737488355328) then
      K (one (.ow st0)) (us ++ [.del r, .row st0 ⟨e, R.q.app q, R.eu && eu, 0, none⟩]) else none) else none
    | none => none
   | .os r o n => match aget st.rows r with
    | some R => bif Nat.beq o 0 && ctsBeq e R.e && Nat.beq R.live 0 && !us.any (Upd.isRow r) then
     (bif decide ((n + q.len) * eb ≤ 140737488355328) then
      K (one (.ow st0)) (us ++ [.del r, .row st0 ⟨e, (R.q.sub o n).app q, R.eu && eu, 0, none⟩]) else none) else none
    | none => none
   | _ => none
def appendK (st0 : Nat) (st : St) (sh : Bool) (e : List Ct) (eb : Nat) (s x : C) (K : TV → List Upd → Option Res) : Option Res :=
 match x with
 | .nil => (match s with
  | .nil => K (one .nil) []
  | .ow r => (match aget st.rows r with
   | some _ => K (one (.ow r)) []
   | none => none)
  | _ => none)
 | x => appendG st0 st sh e eb s x K
def lenC (st : St) : C → Option Nat
 | .str s => some s.size
 | .nil => some 0
 | .tr _ _ _ q => some q.len
 | .ow r => match aget st.rows r with
  | some R => some R.q.len
  | none => none
 | .os _ _ n => some n
 | _ => none
def isBt (t : TypeId) : Bool := match aget X.Γ t with | some ⟨false, [.bool], _⟩ => true | _ => false
def isSl (t : TypeId) : Bool := match aget X.Γ t with | some ⟨false, [.sl _ _], _⟩ => true | _ => false
def slSz (t : TypeId) : Option Nat := match aget X.Γ t with | some ⟨false, [.sl e _], _⟩ => some e.length | _ => none
def isI64 (t : TypeId) : Bool := match aget X.Γ t with | some ⟨false, [.int .i64], _⟩ => true | _ => false
def isStr (t : TypeId) : Bool := match aget X.Γ t with | some ⟨false, [.str], _⟩ => true | _ => false
/-- is a value's type as it should be: a string, or a slice of elements of so many cells -/
def szOk (st : St) (t : TypeId) : C → Bool
 | .str _ => isStr X t
 | .nil => (slSz X t).isSome
 | .tr _ _ e _ => (match slSz X t with | some n => Nat.beq n e.length | none => false)
 | .ow r => (match slSz X t, aget st.rows r with | some n, some R => Nat.beq n R.e.length | _, _ => false)
 | .os r _ _ => (match slSz X t, aget st.rows r with | some n, some R => Nat.beq n R.e.length | _, _ => false)
 | _ => false
/-- is it nil: only if that can be told -/
def isNil (st : St) : C → Option Bool
 | .nil => some true
 | .str _ => none
 | c => match lenC st c with
  | some n => bif decide (0 < n) then some false else none
  | none => none
def nilK (st : St) (c : C) (K : Bool → Option Res) : Option Res :=
 match c with
 | .nil => K true
 | .str _ => none
 | c => match lenC st c with
  | some n => bif decide (0 < n) then K false else none
  | none => none
theorem nilK_inv {st : St} {c : C} {K : Bool → Option Res} {r : Res} (h : nilK st c K = some r) : ∃ b, isNil st c = some b ∧ K b = some r := by
 unfold nilK at h
 unfold isNil
 split at h
 ·exact ⟨_, rfl, h⟩
 ·cases h
 ·split at h
  ·rename_i n hn
   cases hd : decide (0 < n) with
   | true => rw [hd] at h; exact ⟨false, by simp [hn, hd], h⟩
   | false => rw [hd] at h; cases h
  ·cases h
/-- a slice expression: from l to h -/
def sliceK (st0 : Nat) (ct : Bool) (st : St) (c : C) (lo hi : Option C) (K : TV → List Upd → Option Res) : Option Res :=
 match lenC st c with
 | none => none
 | some n =>
  let cut (l h : Int) (full_lo full_hi : Bool) : Option Res :=
   match c with
   | .str s => K (one (.str (s.extract l.toNat h.toNat))) []
   | .nil => K (one .nil) []
   | .tr x y e q => K (one (.tr x y e (bif full_lo then (bif full_hi then q else q.upto h.toNat) else bif full_hi then q.from_ l.toNat else q.sub l.toNat (h.toNat - l.toNat)))) []
   | .ow r => bif full_lo && full_hi then K (one (.ow r)) [] else bif ct && full_lo then
    (match aget st.rows r with
    | some R => bif Nat.beq R.live 0 then K (one (.ow st0)) [.del r, .row st0 { R with q := R.q.sub 0 h.toNat }] else none
    | none => none) else K (one (.os r (bif full_lo then 0 else l.toNat) (h.toNat - (bif full_lo then 0 else l.toNat)))) []
   | .os r o _ => K (one (.os r (o + l.toNat) (h.toNat - l.toNat))) []
   | _ => none
  match lo, hi with
  | none, none => cut 0 n true true
  | some (.int _ l), none => bif decide (0 ≤ l) && decide (l ≤ n) then cut l n false true else none
  | none, some (.int _ h) => bif decide (0 ≤ h) && decide (h ≤ n) then cut 0 h true false else none
  | some (.int _ l), some (.int _ h) => bif decide (0 ≤ l) && decide (l ≤ h) && decide (h ≤ n) then cut l h false false else none
  | _, _ => none
def loadC (st : St) (ti : TI) : C → Option V1
 | .bp b o => match aget st.boxes b with
  | some cs => bif Nat.ble (o + ti.cs.length) cs.length then some ⟨ti.agg, (cs.drop o).take ti.cs.length⟩ else none
  | none => none
 | .ep r i o => match aget st.rows r with
  | some R => bif Nat.ble R.live 1 && Nat.ble (o + ti.cs.length) R.e.length then
   some ⟨ti.agg, ofCls (bif R.eu then 1 else 2) (R.q.get i) ((R.e.drop o).take ti.cs.length) o⟩ else none
  | none => none
 | .rp y e q i o => bif Nat.ble (o + ti.cs.length) e.length then some ⟨ti.agg, ofCls y (q.get i) ((e.drop o).take ti.cs.length) o⟩ else none
 | _ => none
/-- a place whose content is out -/
def holeAt (st : St) : C → Option (Nat × Nat × Nat × Nat × Nat)
 | .ep r i o => match aget st.rows r with
  | some R => bif Nat.beq R.live 3 then (match R.hole with
   | some h => some (i, o, h)
   | none => none) else none
  | none => none
 | _ => none
/-- what is out comes back, another one maybe -/
def fillK (st : St) (sh : Bool) (p c : C) (K : TV → List Upd → Option Res) : Option Res :=
 match p with
 | .ep r i o => match aget st.rows r with
  | some R => (match R.hole with
   | some (i', o', _) => bif Nat.beq R.live 3 && Nat.beq o o' && c.solid then
    (match toCls st sh ((R.e.drop o).take 1) [c] with
    | some (cl, eu, us) => bif !movedOnce us || us.any (Upd.isRow r) || !eu then none else
     bif decide (i = i') then K TV.undef (us ++ [.row r { R with q := R.q.put i o (Nat.beq 1 R.e.length) cl, live := 0, hole := none }]) else none
    | none => none) else none
   | none => none)
  | none => none
 | _ => none
def storeK (st : St) (sh : Bool) (ti : TI) (p : C) (v : V1) (K : TV → List Upd → Option Res) : Option Res :=
 bif Nat.beq v.cs.length ti.cs.length && v.solid then
  match p with
  | .bp b o => match aget st.boxes b with
   | some cs => bif Nat.ble (o + v.cs.length) cs.length then K TV.undef [.box b (cs.take o ++ v.cs ++ cs.drop (o + v.cs.length))] else none
   | none => none
  | .ep r i o => match aget st.rows r with
   | some R => bif Nat.beq R.live 0 && Nat.ble (o + v.cs.length) R.e.length then
    match toCls st sh ((R.e.drop o).take v.cs.length) v.cs with
    | some (cl, eu, us) => bif !movedOnce us || us.any (Upd.isRow r) then none else K TV.undef (us ++ [.row r { R with q := R.q.put i o (Nat.beq v.cs.length R.e.length) cl, eu := R.eu && eu }])
    | none => none
    else none
   | none => none
  | _ => none
 else none
def fieldP (o : Nat) : C → C
 | .bp b p => .bp b (p + o)
 | .ep r i p => .ep r i (p + o)
 | .rp x e q i p => .rp x e q i (p + o)
 | _ => .dead
def C.isPl : C → Bool | .bp _ _ => true | .ep _ _ _ => true | .rp _ _ _ _ _ => true | _ => false
def indexP (st : St) (c : C) (i : Int) (K : TV → List Upd → Option Res) : Option Res :=
 match lenC st c with
 | none => none
 | some n => bif decide (0 ≤ i) && decide (i < n) then
  (match c with
  | .tr _ y e q => K (one (.rp y e q i.toNat 0)) []
  | .ow r => K (one (.ep r i.toNat 0)) []
  | .os r o _ => K (one (.ep r (o + i.toNat) 0)) []
  | _ => none) else none
/-- which of so many places it is -/
def idxB : Nat → Nat → Int → (Nat → Option Res) → Option Res
 | 0, _, _, _ => none
 | m + 1, j, n, K => bif decide (n = (j : Int)) then K j else idxB m (j + 1) n K
theorem idxB_inv {n : Int} {K : Nat → Option Res} {r : Res} : ∀ {m j : Nat}, idxB m j n K = some r → ∃ k : Nat, n = (k : Int) ∧ j ≤ k ∧ k < j + m ∧ K k = some r
 | 0, j, h => by cases h
 | m + 1, j, h => by
  rw [idxB] at h
  cases hd : decide (n = (j : Int)) with
  | true => rw [hd] at h; exact ⟨j, of_decide_eq_true hd, Nat.le_refl _, by omega, h⟩
  | false =>
   rw [hd] at h
   obtain ⟨k, h1, h2, h3, h4⟩ := idxB_inv h
   exact ⟨k, h1, by omega, by omega, h4⟩
def copyTo (st : St) (e : List Ct) (q : Sq) (r o n : Nat) (K : TV → List Upd → Option Res) : Option Res :=
 match aget st.rows r with
 | some R => bif Nat.beq R.live 0 && ctsBeq e R.e && !nested e then
  bif decide (q.len ≤ n) then K (one (.int .i64 q.len)) [.row r { R with q := R.q.over o q }]
  else K (one (.int .i64 n)) [.row r { R with q := R.q.over o (q.upto n) }]
  else none
 | none => none
def copyK (st : St) (d s : C) (K : TV → List Upd → Option Res) : Option Res :=
 match viewC st s with
 | none => none
 | some (e, q) =>
  match d with
  | .ow r => match aget st.rows r with
   | some R => copyTo st e q r 0 R.q.len K
   | none => none
  | .os r o n => copyTo st e q r o n K
  | _ => none
def minmax (mx : Bool) (x y : Int) : Int := bif mx then (if y > x then y else x) else (if y < x then y else x)
/-- are a struct's cells of its kinds -/
def eqKinds : List Bt → List C → Bool
 | [], [] => true
 | .int k :: l, .int k' _ :: l' => decide (k = k') && eqKinds l l'
 | .bool :: l, .bool _ :: l' => eqKinds l l'
 | _, _ => false
def eqLen (t : TypeId) (cs : List C) : Bool := match aget X.Γ t with | some ti => eqKinds ti.cs cs | none => false
/-- what the operation gives, and what it changes -/
def actK (i j : Nat) (o : Oper) (st : St) (K : TV → List Upd → Option Res) : Option Res :=
 let sh := X.share.any fun p => Nat.beq p.1 i && Nat.beq p.2 j
 match o.op with
 | .move x => K (ev st x) []
 | .assign x => K (ev st x) []
 | .pick c a b => match ev1 st c with
  | .bool t => bif t then K (ev st a) [] else K (ev st b) []
  | _ => none
 | .box _ x => match ev st x with
  | .v v => bif v.solid then K (one (.bp (site i j 0) 0)) [.box (site i j 0) v.cs] else none
  | _ => none
 | .alloc t => match aget X.Γ t with
  | some ti =>
   let p := bif X.own.any (fun p => Nat.beq p.1 i && Nat.beq p.2.1 j) then ownCs X.own i j 0 (ti.cs.map Bt.zero) else (ti.cs.map Bt.zero, [])
   K (one (.bp (site i j 0) 0)) (p.2 ++ [.box (site i j 0) p.1])
  | none => none
 | .build t ps => match aget X.Γ t, partsV st ps.toList with
  | some ti, some vs => match (bif ti.agg then fillC ti.flds (ti.cs.map Bt.zero) vs else none) with
   | some cs => K (.v ⟨true, cs⟩) []
   | none => none
  | _, _ => none
 | .buildSlice t n ps => match aget X.Γ t, partsV st ps.toList with
  | some ⟨false, [.sl e _], _⟩, some vs => match partsIn n 0 vs with
   | some els => bif Nat.ble (n * e.length) 16777216 && vs.all (fun p => p.2.solid) then
    (bif X.bun.any (fun p => Nat.beq p.1 i && Nat.beq p.2 j) then (match oneEach els with
     | some cs => bif Nat.beq e.length 1 then K (.bn cs) [] else none
     | none => none)
    else match toEls st sh e els with
     | some (cl, eu, us) => bif !movedOnce us then none else K (one (.ow (site i j 0))) (us ++ [.row (site i j 0) ⟨e, Sq.ofEls e cl, eu, 0, none⟩])
     | none => none)
    else none
   | none => none
  | _, _ => none
 | .load t p => match aget X.Γ t with
  | some ti => (match ev st p with
   | .be cs j => (match cs[j]? with
    | some c => bif Nat.beq ti.cs.length 1 && !ti.agg && c.solid then K (one c) [] else none
    | none => none)
   | _ => match holeAt st (ev1 st p) with
   | some (i, o, i', o', r) => bif Nat.beq o o' && Nat.beq ti.cs.length 1 && !ti.agg then (bif decide (i = i') then K (one (.ow r)) [] else none) else none
   | none => match loadC st ti (ev1 st p) with
    | some v => K (.v v) []
    | none => none)
  | none => none
 | .store t p x => match aget X.Γ t, ev st x with
  | some ti, .v v =>
   (match holeAt st (ev1 st p), v with
   | some _, ⟨false, [c]⟩ => bif Nat.beq ti.cs.length 1 then fillK st sh (ev1 st p) c K else none
   | _, _ =>
   let p' := bif X.own.any (fun p => Nat.beq p.1 i && Nat.beq p.2.1 j) then ownCs X.own i j 0 v.cs else (v.cs, [])
   storeK (applyU p'.2 st) sh ti (ev1 st p) ⟨v.agg, p'.1⟩ fun v us => K v (p'.2 ++ us))
  | _, _ => none
 | .nilCheck x => match ev1 st x with
  | .bp b o => K (one (.bp b o)) []
  | _ => none
 | .binOp op t x y _ => match ev st x, ev st y with
  | .v ⟨false, [.int k n]⟩, .v ⟨false, [.int k' m]⟩ => bif isShift op || decide (k = k') then arith op k n m (fun c => K (one c) []) else none
  | .v ⟨false, [.str s]⟩, .v ⟨false, [.str u]⟩ => strOp op s u fun c => K (one c) []
  | .v ⟨false, [.bool s]⟩, .v ⟨false, [.bool u]⟩ => bif isBt X t then (match op with
   | .eql => K (one (.bool (s == u))) []
   | .neq => K (one (.bool (s != u))) []
   | _ => none) else none
  | .v ⟨true, cs⟩, .v ⟨true, ds⟩ => bif X.eqs.any (Nat.beq t) && eqLen X t cs then (match op, eqCs cs ds with
   | .eql, some b => K (one (.bool b)) []
   | .neq, some b => K (one (.bool !b)) []
   | _, _ => none) else none
  | .v ⟨false, [c]⟩, .v ⟨false, [.nil]⟩ => bif isSl X t then (match op with
   | .eql => nilK st c fun b => K (one (.bool b)) []
   | .neq => nilK st c fun b => K (one (.bool !b)) []
   | _ => none) else none
  | _, _ => none
 | .unOp op _ x => match op, ev1 st x with
  | .not, .bool b => K (one (.bool !b)) []
  | .neg, .int k n => K (one (.int k (k.wrap (0 - n)))) []
  | _, _ => none
 | .convert s t x => match aget X.Γ t, ev1 st x with
  | some ⟨false, [.int k], _⟩, .int _ n => bif (aget X.Γ s).isSome then K (one (.int k (k.wrap n))) [] else none
  | some ⟨false, [.str], _⟩, c => (match viewC st c with
   | some ([.int .u8], .ints xs) => bif X.byt.any (Nat.beq s) then K (one (.str (strOf xs))) [] else none
   | _ => none)
  | _, _ => none
 | .makeFunc (.func f) first caps => match first.toList, allV st caps.toList with
  | [], some vs => (match vs.mapM (fun v => match v.cs with | [.bp b 0] => some b | _ => none) with
   | some bs => bif vs.all (fun v => !v.agg) then K (one (.fn f bs)) [] else none
   | none => none)
  | _, _ => none
 | .makeSlice t n c => match aget X.Γ t, ev1 st n, ev1 st c with
  | some ⟨false, [.sl e eb], _⟩, .int _ x, .int _ y =>
   bif decide (x = y) && decide (0 ≤ x) && decide (x * eb ≤ 140737488355328) then
    K (one (.ow (site i j 0))) [.row (site i j 0) ⟨e, Sq.zeros e x.toNat, true, 0, none⟩] else none
  | _, _, _ => none
 | .slice t x lo hi none => bif !szOk X st t (ev1 st x) then none else sliceK (site i j 0) (X.cut.any fun p => Nat.beq p.1 i && Nat.beq p.2 j) st (ev1 st x) (lo.map (ev1 st)) (hi.map (ev1 st)) K
 | .fieldAddr t x f => match aget X.Γ t with
  | some ti => match ti.flds[f]? with
   | some fl => bif ti.agg && (fieldP fl.1 (ev1 st x)).isPl then K (one (fieldP fl.1 (ev1 st x))) [] else none
   | none => none
  | none => none
 | .field t x f => match aget X.Γ t, ev st x with
  | some ti, .v v => (match ti.flds[f]? with
   | some fl => bif v.agg && ti.agg && Nat.beq v.cs.length ti.cs.length then K (.v (field1 v.cs fl)) [] else none
   | none => none)
  | _, _ => none
 | .indexAddr t x i => match ev1 st i with
  | .int _ n => (match ev st x with
   | .bn cs => (match slSz X t with
    | some 1 => idxB cs.length 0 n fun j => K (.be cs j) []
    | _ => none)
   | _ => bif szOk X st t (ev1 st x) then indexP st (ev1 st x) n K else none)
  | _ => none
 | .index t x i => match ev1 st x, ev1 st i with
  | .str s, .int _ n => bif isStr X t && decide (0 ≤ n) && decide (n < s.size) then K (one (.int .u8 ((bytesOf s).getD n.toNat 0))) [] else none
  | _, _ => none
 | .extract x k => match ev st x with
  | .tp vs => (match vs[k]? with
   | some v => K (.v v) []
   | none => none)
  | _ => none
 | .call { callee := .value f, args := as, argTypes := ts } => match ev1 st f with
  | .fn g caps => callK X (site i j 1) st sh g (argVs X i j ts.toList (allT st as.toList)) (caps.map fun b => .bp b 0) K
  | _ => none
 | .call { callee := .builtin b, args := as, argTypes := ts } => (match b, as.toList with
  | .len, [x] => (match ev st x with
   | .bn cs => (match ts.toList with
    | [t] => bif isSl X t then K (one (.int .i64 cs.length)) [] else none
    | _ => none)
   | _ => match lenC st (ev1 st x), ts.toList with
   | some n, [t] => bif szOk X st t (ev1 st x) then K (one (.int .i64 n)) [] else none
   | _, _ => none)
  | .append, [s, x] => (match ts.toList with
   | [t, tx] => (match aget X.Γ t with
    | some ⟨false, [.sl e eb], _⟩ => bif isI64 X tx then (match ev1 st s, ev1 st x with
     | .nil, .int .i64 n => bif decide (0 ≤ n) && decide (n * eb ≤ 140737488355328) then K (one (.ow (site i j 0))) [.row (site i j 0) ⟨e, Sq.zeros e n.toNat, true, 0, none⟩] else none
     | _, _ => none)
     else bif !szOk X st tx (ev1 st x) then none else appendK (site i j 0) st sh e eb (ev1 st s) (ev1 st x) K
    | _ => none)
   | _ => none)
  | .cap, [x] => (match ev1 st x, ts.toList with
   | .nil, [t] => bif isSl X t then K (one (.int .i64 0)) [] else none
   | _, _ => none)
  | .copy, [d, s] => (match ts.toList with
   | [t, _] => bif szOk X st t (ev1 st d) then copyK st (ev1 st d) (ev1 st s) K else none
   | _ => none)
  | .max, [x, y] => (match ev1 st x, ev1 st y with
   | .int k n, .int _ m => K (one (.int k (minmax true n m))) []
   | _, _ => none)
  | .min, [x, y] => (match ev1 st x, ev1 st y with
   | .int k n, .int _ m => K (one (.int k (minmax false n m))) []
   | _, _ => none)
  | _, _ => none)
 | _ => none
end act
def ownV (own : List (Nat × Nat × Nat × List Ct)) (i j : Nat) (v : TV) : TV × List Upd :=
 bif own.any (fun p => Nat.beq p.1 i && Nat.beq p.2.1 j) then
  (match v with
  | .v x => let (cs, us) := ownCs own i j 0 x.cs; (.v ⟨x.agg, cs⟩, us)
  | v => (v, []))
 else (v, [])
def putT (d : Option Tmp) (v : TV) (st : St) : St := match d with
 | some t => { st with tmps := st.tmps.set t v }
 | none => st
/-! names: which rows (even numbers) and boxes (odd ones) a value names -/
def C.ids : C → List Nat
 | .ow r => [2 * r]
 | .os r _ _ => [2 * r]
 | .ep r _ _ => [2 * r]
 | .bp b _ => [2 * b + 1]
 | .fn _ caps => caps.map fun b => 2 * b + 1
 | _ => []
def V1.ids (v : V1) : List Nat := v.cs.flatMap C.ids
def TV.ids : TV → List Nat
 | .v x => x.ids
 | .tp xs => xs.flatMap V1.ids
 | .bn cs => cs.flatMap C.ids
 | .be cs _ => cs.flatMap C.ids
def Upd.ids : Upd → List Nat
 | .row id R => 2 * id :: R.hids
 | .del id => [2 * id]
 | .box id cs => (2 * id + 1) :: cs.flatMap C.ids
 | .kill => []
def Upd.id : Upd → Nat
 | .row id _ => 2 * id
 | .del id => 2 * id
 | .box id _ => 2 * id + 1
 | .kill => 0
/-- the names of region i's operations from a number on -/
def inSite (i lo hi n : Nat) : Bool := Nat.ble (site i lo 0) (n / 2) && Nat.ble (n / 2 + 1) (site i hi 0)
def freeAt (i : Nat) (st : St) : Bool :=
 !(st.tmps.any fun v => v.ids.any (inSite i 0 128)) && !(st.boxes.any fun p => inSite i 0 128 (2 * p.1) || (p.2.flatMap C.ids).any (inSite i 0 128)) &&
 !(st.rows.any fun p => inSite i 0 128 (2 * p.1) || p.2.hids.any (inSite i 0 128))
/-- what operation j gives names none of the later ones -/
def fresh (i j : Nat) (v : TV) (us : List Upd) : Bool := !(v.ids.any (inSite i (j + 1) 128)) && !(us.any fun u => u.ids.any (inSite i (j + 1) 128))
/-- what a test has told -/
def know (t : Nat) (b : Bool) (st : St) : St := { st with tmps := st.tmps.set t (one (.bool b)) }
def knowO (x : Operand) (b : Bool) (st : St) : St := match x with
 | .tmp t => know t b st
 | _ => st
/-- rows that nil values became are named nowhere else -/
def sep (v : TV) (us us' : List Upd) : Bool := us'.all fun u => !(v.ids.any (Nat.beq u.id)) && !(us.any fun u' => u'.ids.any (Nat.beq u.id))
def Upd.isKill : Upd → Bool | .kill => true | _ => false
/-- operations one behind the other -/
def opsK (X : Ctx) (i : Nat) (ops : Array Oper) : Nat → List Oper → St → (St → Option Res) → Option Res
 | _, [], st, K => K st
 | j, o :: rest, st, K =>
  let run (st : St) : Option Res := actK X i j o st fun v us =>
   let p := ownV X.own i j v
   bif fresh i j p.1 (us ++ p.2) && sep v us p.2 && !(X.nk && us.any Upd.isKill) then opsK X i ops (j + 1) rest (putT o.dst p.1 (applyU p.2 (applyU us st))) K else none
  match o.guard with
  | none => run st
  | some (g, want) => match (ops[g]?).bind (·.dst) with
   | none => none
   | some t => match st.tmps.getD t TV.undef with
    | .v ⟨false, [.bool b]⟩ => (match want with
     | true => bif b then run (know t true st) else opsK X i ops (j + 1) rest (putT o.dst TV.undef (know t false st)) K
     | false => bif b then opsK X i ops (j + 1) rest (putT o.dst TV.undef (know t true st)) K else run (know t false st))
    | .v ⟨false, [.undef]⟩ => opsK X i ops (j + 1) rest (putT o.dst TV.undef st) K
    | _ => none
/-! ### regions that draw their order -/
def looks (ops : Array Oper) (o : Oper) : List Nat :=
 (o.op.operands.toList.filterMap fun | .tmp t => some t | _ => none) ++
 (match o.guard with
  | some (g, _) => ((ops[g]?).bind (·.dst)).toList
  | none => [])
def keepT : Nat → List Nat → List TV → List TV
 | _, _, [] => []
 | i, l, v :: vs => (bif l.any (Nat.beq i) then v else TV.dead) :: keepT (i + 1) l vs
def pickA {α : Type} (l : List (Nat × α)) : List Nat → List (Nat × α)
 | [] => []
 | k :: ks => match aget l k with
  | some v => (k, v) :: pickA l ks
  | none => pickA l ks
/-- the boxes' contents' names, a few deep -/
def reach (st : St) : Nat → List Nat → List Nat
 | 0, l => l
 | n + 1, l => l ++ reach st n (l.flatMap fun k => bif Nat.beq (k % 2) 1 then (match aget st.boxes (k / 2) with | some cs => cs.flatMap C.ids | none => []) else [])
def reachT (st : St) (l : List Nat) : List Nat := reach st 3 (l.flatMap fun t => (st.tmps.getD t TV.undef).ids)
def narrow (st : St) (l rd : List Nat) : St :=
 { tmps := keepT 0 l st.tmps
   rows := pickA st.rows (rd.filterMap fun k => bif Nat.beq (k % 2) 0 then some (k / 2) else none)
   boxes := pickA st.boxes (rd.filterMap fun k => bif Nat.beq (k % 2) 1 then some (k / 2) else none) }
/-- what an operation reads: an address that is carried or reckoned is not looked into -/
def rdOf (st : St) (o : Oper) (l : List Nat) : List Nat := match o.op with
 | .move _ => []
 | .assign _ => []
 | .fieldAddr _ _ _ => []
 | _ => reachT st l
def binds (e : Edge) : Bool := match e.ground with
 | .textOnly _ => false
 | .gcOnly _ => false
 | _ => true
/-- each number once -/
def dd : List Nat → List Nat
 | [] => []
 | x :: l => bif l.any (Nat.beq x) then dd l else x :: dd l
/-- what an operation waits for, directly and through others -/
def waits : List Oper → List (List Nat) → List (List Nat)
 | [], acc => acc
 | o :: rest, acc => waits rest (acc ++ [dd (o.after.toList.flatMap fun e => bif binds e then e.on :: acc.getD e.on [] else [])])
/-- what an operation waits for stands ahead of it -/
def backE : Nat → List Oper → Bool
 | _, [] => true
 | j, o :: rest => o.after.toList.all (fun e => !binds e || Nat.ble (e.on + 1) j) && backE (j + 1) rest
def disj (a b : List Nat) : Bool := !a.any fun x => b.any (Nat.beq x)
/-- slots: operations that do not wait for each other leave each other's slots alone -/
def apartT (ops : Array Oper) (p q : Oper) : Bool :=
 disj p.dst.toList (looks ops q) && disj p.dst.toList q.dst.toList && disj q.dst.toList (looks ops p)
def allPairs {α : Type} (f : Nat → α → α → Bool) (ws : List (List Nat)) : Nat → List α → Bool
 | _, [] => true
 | q, x :: rest => allPairs f ws (q + 1) rest && pre q x 0 (q + 1) rest
 where pre (p : Nat) (x : α) (d q : Nat) : List α → Bool
 | [] => true
 | y :: ys => ((ws.getD q []).any (Nat.beq p) || f d x y) && pre p x d (q + 1) ys
structure Foot where
 rd : List Nat
 wr : List Nat
def apartF (a b : Foot) : Bool := disj a.wr b.rd && disj a.wr b.wr && disj a.rd b.wr
def freshD (i j : Nat) (w : List Nat) (v : TV) (us : List Upd) : Bool :=
 !us.any Upd.isKill &&
 let ok := fun n => !inSite i 0 128 n || inSite i j (j + 1) n || w.any fun k => inSite i k (k + 1) n
 v.ids.all ok && us.all fun u => u.ids.all ok
def opsD (X : Ctx) (i : Nat) (ops : Array Oper) (ws : List (List Nat)) : Nat → List Oper → St → List Foot → (St → Option Res) → Option Res
 | _, [], st, L, K => bif allPairs (fun _ a b => apartF a b) ws 0 L then K st else none
 | j, o :: rest, st, L, K =>
  let run (st : St) : Option Res :=
   let l := looks ops o
   let rd := rdOf st o l
   actK X i j o (narrow st l rd) fun v us =>
    let p := ownV X.own i j v
    bif freshD i j (ws.getD j []) p.1 (us ++ p.2) && sep v us p.2 then
     opsD X i ops ws (j + 1) rest (putT o.dst p.1 (applyU p.2 (applyU us st))) (L ++ [⟨rd, (us ++ p.2).map Upd.id⟩]) K
    else none
  match o.guard with
  | none => run st
  | some (g, want) => match (ops[g]?).bind (·.dst) with
   | none => none
   | some t => match st.tmps.getD t TV.undef with
    | .v ⟨false, [.bool b]⟩ => (match want with
     | true => bif b then run (know t true st) else opsD X i ops ws (j + 1) rest (putT o.dst TV.undef (know t false st)) (L ++ [⟨[], []⟩]) K
     | false => bif b then opsD X i ops ws (j + 1) rest (putT o.dst TV.undef (know t true st)) (L ++ [⟨[], []⟩]) K else run (know t false st))
    | .v ⟨false, [.undef]⟩ => opsD X i ops ws (j + 1) rest (putT o.dst TV.undef st) (L ++ [⟨[], []⟩]) K
    | _ => none
/-! ### what is kept at a place -/
def normC (rn : List (Nat × Nat)) (boxes : List (Nat × List C)) : C → C
 | .ow r => match aget rn r with
  | some r' => .ow r'
  | none => .dead
 | .os r o n => match aget rn r with
  | some r' => .os r' o n
  | none => .dead
 | .ep r i o => match aget rn r with
  | some r' => .ep r' i o
  | none => .dead
 | .bp b o => match aget boxes b with
  | some _ => .bp b o
  | none => .dead
 | .fn f caps => bif caps.all (fun b => (aget boxes b).isSome) then .fn f caps else .dead
 | c => c
def normV (rn : List (Nat × Nat)) (boxes : List (Nat × List C)) : TV → TV
 | .v x => .v ⟨x.agg, x.cs.map (normC rn boxes)⟩
 | .tp xs => .tp (xs.map fun x => ⟨x.agg, x.cs.map (normC rn boxes)⟩)
 | .bn cs => .bn (cs.map (normC rn boxes))
 | .be cs i => .be (cs.map (normC rn boxes)) i
/-- the rows that are kept, under their names from here on -/
def keepR (w z : List Nat) (rn : List (Nat × Nat)) (rows : List (Nat × Row)) : List (Nat × Row) :=
 match rn with
 | [] => []
 | (r, r') :: rn => match aget rows r with
  | some R => (r', { R with eu := R.eu && !(w.any (Nat.beq r') && nested R.e), live := bif z.any (Nat.beq r') && Nat.beq R.live 0 then 1 else bif Nat.beq R.live 3 then 2 else R.live }) :: keepR w z rn rows
  | none => keepR w z rn rows
def toTr (st : St) (x y : Nat) (e : List Ct) : C → Option (C × List Nat)
 | .nil => bif (Sq.nil e).fits e then some (.tr x y e (Sq.nil e), []) else none
 | .tr x' y' e' q => bif (Nat.beq x x' || Nat.beq x' 2) && (Nat.beq y y' || Nat.beq y' 2) then some (.tr x y e' q, []) else none
 | .ow r => match aget st.rows r with
  | some R => bif Nat.ble R.live 1 then some (.tr x y R.e R.q, [r]) else none
  | none => none
 | .os r o n => match aget st.rows r with
  | some R => bif Nat.ble R.live 1 then some (.tr x y R.e (R.q.sub o n), [r]) else none
  | none => none
 | c => some (c, [])
def modAt (f : C → Option (C × List Nat)) : Nat → List C → Option (List C × List Nat)
 | _, [] => some ([], [])
 | 0, c :: cs => match f c with
  | some (c', l) => some (c' :: cs, l)
  | none => none
 | k + 1, c :: cs => match modAt f k cs with
  | some (cs', l) => some (c :: cs', l)
  | none => none
/-- the rows that become trees are frozen, and what they lead to is shared -/
def freezeL : List Nat → List (Nat × Row) → List (Nat × Row)
 | [], rows => rows
 | r :: rs, rows => match aget rows r with
  | some R => freezeL rs (aput rows r { R with live := 1, eu := R.eu && !nested R.e })
  | none => freezeL rs rows
def convs : List (Nat × Nat × Nat × Nat × List Ct) → St → Option St
 | [], st => some st
 | (n, k, x, y, e) :: l, st =>
  bif Nat.beq (n % 2) 0 then
   match st.tmps.getD (n / 2) TV.dead with
   | .v v => match modAt (toTr st x y e) k v.cs with
    | some (cs, fr) => convs l { st with tmps := st.tmps.set (n / 2) (.v ⟨v.agg, cs⟩), rows := freezeL fr st.rows }
    | none => none
   | _ => convs l st
  else match aget st.boxes (n / 2) with
   | some cs => match modAt (toTr st x y e) k cs with
    | some (cs', fr) => convs l { st with boxes := aput st.boxes (n / 2) cs', rows := freezeL fr st.rows }
    | none => none
   | none => convs l st
def clean (c : Cl1) (st : St) : Option St :=
 match convs c.c st with
 | none => none
 | some st =>
 let boxes := pickA st.boxes c.b
 let tmps := keepT 0 c.t st.tmps
 let rn := c.r.filter fun p => (aget st.rows p.1).isSome && (Nat.ble (p.1 + 1) 1000 || tmps.any (fun v => v.ids.any (Nat.beq (2 * p.1))) ||
  boxes.any fun b => b.2.any fun c => c.ids.any (Nat.beq (2 * p.1)))
 bif nodup (rn.map (·.1)) && nodup (rn.map (·.2)) && rn.all (fun p => Nat.beq p.1 p.2 || Nat.ble 1000 p.2) then
  some { tmps := tmps.map (normV rn boxes)
         rows := keepR c.w c.z rn st.rows
         boxes := boxes.map fun p => (p.1, p.2.map (normC rn boxes)) }
 else none
def cleanK (l : List (Nat × Cl1)) (i : Nat) (st : St) (K : St → Option Res) : Option Res := match aget l i with
 | some c => match clean c st with
  | some st => K st
  | none => none
 | none => K st
/-- a region -/
def regK (X : Ctx) (i : Nat) (ops : Array Oper) (d : Bool) (st : St) (K : St → Option Res) : Option Res :=
 bif freeAt i st && Nat.ble ops.size 128 then
  (match d with
   | false => opsK X i ops 0 ops.toList st K
   | true => bif allPairs (fun _ p q => apartT ops p q) (waits ops.toList []) 0 ops.toList && backE 0 ops.toList then
    opsD X i ops (waits ops.toList []) 0 ops.toList st [] K else none)
  else none
/-- ahead of a region: what a cell of a row leads to is taken out and is a row of its own -/
def openK (X : Ctx) (i : Nat) (p : Nat × Nat × Nat) (st : St) (K : Nat → St → Option Res) : Option Res :=
 match ev1 st (.tmp p.1), ev1 st (.tmp p.2.1) with
 | .ow r, .int _ n => match aget st.rows r with
  | some R => (match R.e[p.2.2]? with
   | some (.ints k) => bif Nat.beq R.live 0 && R.eu && !X.nk && freeAt (200000 + i) st then
    bif decide (0 ≤ n) && decide (n < (R.q.len : Int)) then
     K r (applyU [.kill, .row r { R with live := 3, hole := some (n.toNat, p.2.2, site (200000 + i) 0 0) },
      .row (site (200000 + i) 0 0) ⟨[.int k], .ints (((R.q.get n.toNat).getD p.2.2 (.i 0)).toL), true, 0, none⟩] st) else none
    else none
   | _ => none)
  | none => none
 | _, _ => none
/-- behind it: it is back, if nothing else was put there -/
def closeK (r : Nat) (st : St) (K : St → Option Res) : Option Res :=
 match aget st.rows r with
 | some R => bif Nat.beq R.live 0 then K st else bif Nat.beq R.live 3 then
  (match R.hole with
  | some (i, o, r1) => (match aget st.rows r1 with
   | some R1 => (match R1.q, R.e[o]? with
    | .ints l, some (.ints k) => bif Nat.beq R1.live 0 && ctsBeq R1.e [.int k] then
     K (applyU [.row r { R with q := R.q.put i o (Nat.beq 1 R.e.length) [.l l], live := 0, hole := none }, .del r1] st) else none
    | _, _ => none)
   | none => none)
  | none => none) else none
 | none => none
/-- what a row leads to is shared from here on -/
def shrK (t : Nat) (st : St) (K : St → Option Res) : Option Res := match ev1 st (.tmp t) with
 | .ow r => match aget st.rows r with
  | some R => bif Nat.ble R.live 1 then K (applyU [.row r { R with eu := false }] st) else none
  | none => none
 | _ => none
def exec (X : Ctx) : Code → St → KL → Option Res
 | .skip, st, K => K .normal st
 | .region i ops d, st, K => match aget X.opn i with
  | none => (match aget X.shr i with
   | none => regK X i ops d st fun st => K .normal st
   | some t => shrK t st fun st => regK X i ops d st fun st => K .normal st)
  | some p => openK X i p st fun r st => regK X i ops d st fun st => closeK r st fun st => K .normal st
 | .seq a b, st, K => exec X a st fun e st => match e with
  | .normal => exec X b st K
  | e => K e st
 | .cond c a b, st, K => match ev1 st c with
  | .bool t => bif t then exec X a (knowO c true st) K else exec X b (knowO c false st) K
  | _ => none
 | .block id body, st, K => match body with
  | .loop _ => cleanK X.cin id st fun st => X.lp id st fun st => K .normal st
  | body => exec X body st fun e st => match e with
   | .normal => K .normal st
   | .exit b => bif Nat.beq b id then K .normal st else K (.exit b) st
 | .exit id, st, K => K (.exit id) st
 | .ret, st, _ => X.fin st
 | _, _, _ => none
/-- what is handed back as rows of its own (and whose it was); rows that are told as trees -/
structure Acc where
 nw : List (Option Nat × Row)
 sh : List Nat
def Acc.new (a : Acc) (src : Option Nat) (R : Row) : C × Acc := (.ow (1000 + a.nw.length), { a with nw := a.nw ++ [(src, R)] })
def mayShare (r : Nat) (R : Row) : Bool := Nat.ble R.live 1 && (Nat.ble 1000 r || (Nat.beq R.live 1 && !(R.eu && nested R.e)))
/-- how a result's cell is handed back: 0: shared; 1: as a row of its own; 2: a row that came in; 3: as a row of its own, even if it came in; 4: shared, weakly; 8 more: what it leads to is shared -/
def outC (st : St) (bt : Bt) (we : Bool) : Nat → C → Acc → Option (C × Acc)
 | _, .int k n, a => some (.int k n, a)
 | _, .bool b, a => some (.bool b, a)
 | _, .str s, a => some (.str s, a)
 | p, .nil, a => match bt with
  | .sl e _ => bif !(Sq.nil e).fits e then none else bif Nat.beq p 0 then some (.tr 2 2 e (Sq.nil e), a) else bif Nat.beq p 4 then some (.tr 1 1 e (Sq.nil e), a)
   else bif Nat.beq p 1 || Nat.beq p 3 then some (a.new none ⟨e, Sq.nil e, !(we && nested e), 0, none⟩) else none
  | _ => none
 | p, .tr x y e q, a => bif Nat.beq p 0 then (bif Nat.beq x 2 && (Nat.beq y 2 || !nested e) then some (.tr 2 2 e q, a) else none)
  else bif Nat.beq p 4 && Nat.ble 1 x && Nat.ble 1 y then some (.tr 1 1 e q, a) else none
 | p, .ow r, a => match aget st.rows r with
  | some R => bif Nat.beq p 0 then (bif mayShare r R then some (.tr 2 2 R.e R.q, { a with sh := r :: a.sh }) else none)
   else bif Nat.beq p 4 then (bif Nat.ble 1000 r && Nat.ble R.live 1 then some (.tr 1 1 R.e R.q, { a with sh := r :: a.sh }) else none)
   else bif Nat.beq p 1 || Nat.beq p 3 then (bif Nat.beq R.live 0 && (Nat.beq p 3 || Nat.ble 1000 r) then some (a.new (some r) { R with eu := R.eu && !(we && nested R.e) }) else none)
   else bif Nat.ble (r + 1) 1000 then some (.ow r, a) else none
  | none => none
 | p, .os r o n, a => match aget st.rows r with
  | some R => bif Nat.beq p 0 then (bif mayShare r R then some (.tr 2 2 R.e (R.q.sub o n), { a with sh := r :: a.sh }) else none)
   else bif Nat.beq p 4 then (bif Nat.ble 1000 r && Nat.ble R.live 1 then some (.tr 1 1 R.e (R.q.sub o n), { a with sh := r :: a.sh }) else none) else none
  | none => none
 | p, .bp b o, a => bif Nat.ble (b + 1) 1000 then some (.bp b o, a) else bif Nat.beq p 5 then some (.dead, a) else none
 | _, .fn f caps, a => bif caps.all (fun b => Nat.ble (b + 1) 1000) then some (.fn f caps, a) else none
 | _, _, _ => none
def outCs (st : St) : List Bt → List Nat → List C → Acc → Option (List C × Acc)
 | [], _, [], a => some ([], a)
 | t :: ts, ps, c :: cs, a =>
  let p := ps.headD 1
  match outC st t (Nat.ble 8 p) (p % 8) c a with
  | some (r, a) => match outCs st ts ps.tail cs a with
   | some (rs, a) => some (r :: rs, a)
   | none => none
  | none => none
 | _, _, _, _ => none
structure Fin where
 Γ : List (Nat × TI)
 res : List (ResultVar × TypeId)
 pol : List (List Nat)
 /-- the rows that came in: which are told behind the call -/
 rk : List Bool
 /-- the boxes that came in: their cells' kinds and ways -/
 bx : List (List Bt × List Nat)
 /-- the slots that point to boxes that are handed back -/
 nb : List (Nat × List Bt × List Nat)
def resV (Γ : List (Nat × TI)) (st : St) : ResultVar → TypeId → Option V1
 | .tmp t, _ => oneV (st.tmps.getD t TV.undef)
 | .cell a _, t => match aget Γ t with
  | some ti => loadC st ti (ev1 st (.tmp a))
  | none => none
def finVs (Γ : List (Nat × TI)) (nb : List Nat) (st : St) : List (ResultVar × TypeId) → List (List Nat) → Acc → Option (List V1 × Acc)
 | [], _, a => some ([], a)
 | r :: rs, ps, a =>
  let out : Option (V1 × Acc) := match (match r.1 with | .tmp t => pos nb t | _ => none) with
   | some k => some (⟨false, [.bp (1000 + k) 0]⟩, a)
   | none => match resV Γ st r.1 r.2, aget Γ r.2 with
    | some v, some ti => match outCs st ti.cs (ps.headD []) v.cs a with
     | some (cs, a) => some (⟨v.agg, cs⟩, a)
     | none => none
    | _, _ => none
  match out with
  | some (v, a) => match finVs Γ nb st rs ps.tail a with
   | some (l, a) => some (v :: l, a)
   | none => none
  | none => none
def finRows (st : St) : Nat → List Bool → List (Option Row)
 | _, [] => []
 | j, k :: ks => (bif k then (aget st.rows j).map Row.shut else none) :: finRows st (j + 1) ks
/-- boxes of its own that are handed back -/
def finNb (st : St) : List (Nat × List Bt × List Nat) → Acc → Option (List (List C) × List Nat × Acc)
 | [], a => some ([], [], a)
 | p :: ps, a => match ev1 st (.tmp p.1) with
  | .bp b 0 => match aget st.boxes b with
   | some cs => match outCs st p.2.1 p.2.2 cs a with
    | some (l, a) => match finNb st ps a with
     | some (ls, bs, a) => bif Nat.ble 1000 b then some (l :: ls, b :: bs, a) else none
     | none => none
    | none => none
   | none => none
  | _ => none
def finBoxes (st : St) : Nat → List (List Bt × List Nat) → Acc → Option (List (List C) × Acc)
 | _, [], a => some ([], a)
 | j, p :: ps, a => match aget st.boxes j with
  | some cs => match outCs st p.1 p.2 cs a with
   | some (l, a) => match finBoxes st (j + 1) ps a with
    | some (ls, a) => some (l :: ls, a)
    | none => none
   | none => none
  | none => none
def finR (F : Fin) (st : St) : Option Res :=
 match finVs F.Γ (F.nb.map (·.1)) st F.res F.pol ⟨[], []⟩ with
 | some (v, a) => match finBoxes st 0 F.bx a with
  | some (bs, a) => match finNb st F.nb a with
   | some (nbs, ids, a) =>
    let l := a.nw.filterMap (·.1)
    bif nodup l && l.all (fun r => !(F.rk.getD r false)) && a.sh.all (fun r => !l.any (Nat.beq r)) && nodup ids then
     some ⟨v, finRows st 0 F.rk, a.nw.map (·.2), bs, nbs⟩ else none
   | none => none
  | none => none
 | none => none
/-- the rounds of a loop -/
def iter (X : Ctx) (id : Nat) (body : Code) : Nat → St → (St → Option Res) → Option Res
 | 0, _, _ => none
 | n + 1, st, K => exec X body st fun e st => match e with
  | .normal => cleanK X.cin id st fun st => iter X id body n st K
  | .exit b => bif Nat.beq b id then cleanK X.cout id st K else none
def codeAt : Code → List Nat → Code
 | c, [] => c
 | .seq a b, d :: ds => bif Nat.beq d 0 then codeAt a ds else codeAt b ds
 | .cond _ a b, d :: ds => bif Nat.beq d 0 then codeAt a ds else codeAt b ds
 | .block _ c, _ :: ds => codeAt c ds
 | .loop c, _ :: ds => codeAt c ds
 | c, _ => c
def bodyOf (f : Func) : Code := match f.body with | some c => c | none => .skip
/-- slots: all undef but some -/
def mkT (n : Nat) (l : List (Nat × TV)) : List TV := l.foldl (fun t p => t.set p.1 p.2) (List.replicate n TV.dead)
/-- leaves: what of a state is no name and no kind -/
inductive Lf where
 | i (n : Int) | b (x : Bool) | s (x : ByteArray) | n (n : Nat) | q (q : Sq)
def C.leaves : C → List Lf
 | .int _ n => [.i n] | .bool b => [.b b] | .str s => [.s s]
 | .tr _ _ _ q => [.q q]
 | .os _ o n => [.n o, .n n]
 | .ep _ i _ => [.n i]
 | .rp _ _ q i _ => [.q q, .n i]
 | _ => []
def TV.leaves : TV → List Lf
 | .v x => x.cs.flatMap C.leaves
 | .tp xs => xs.flatMap fun x => x.cs.flatMap C.leaves
 | .bn cs => cs.flatMap C.leaves
 | .be cs _ => cs.flatMap C.leaves
def St.leaves (st : St) : List Lf :=
 st.tmps.flatMap TV.leaves ++ st.rows.map (fun p => .q p.2.q) ++ st.boxes.flatMap fun p => p.2.flatMap C.leaves
def C.like : C → C → Bool
 | .dead, .dead => true | .undef, .undef => true | .nil, .nil => true
 | .int k _, .int k' _ => decide (k = k')
 | .bool _, .bool _ => true | .str _, .str _ => true
 | .tr x y e _, .tr x' y' e' _ => Nat.beq x x' && Nat.beq y y' && ctsBeq e e'
 | .ow r, .ow r' => Nat.beq r r'
 | .os r _ _, .os r' _ _ => Nat.beq r r'
 | .bp b o, .bp b' o' => Nat.beq b b' && Nat.beq o o'
 | .ep r _ o, .ep r' _ o' => Nat.beq r r' && Nat.beq o o'
 | .rp x e _ _ o, .rp x' e' _ _ o' => Nat.beq x x' && ctsBeq e e' && Nat.beq o o'
 | .fn f c, .fn f' c' => Nat.beq f f' && likeL Nat.beq c c'
 | _, _ => false
 where likeL {α : Type} (f : α → α → Bool) : List α → List α → Bool
 | [], [] => true
 | x :: xs, y :: ys => f x y && likeL f xs ys
 | _, _ => false
def V1.like (x y : V1) : Bool := (x.agg == y.agg) && C.like.likeL C.like x.cs y.cs
def TV.like : TV → TV → Bool
 | .v x, .v y => x.like y
 | .tp xs, .tp ys => C.like.likeL V1.like xs ys
 | .bn xs, .bn ys => C.like.likeL C.like xs ys
 | .be xs i, .be ys j => C.like.likeL C.like xs ys && Nat.beq i j
 | _, _ => false
def Row.like (x y : Row) : Bool := ctsBeq x.e y.e && (x.eu == y.eu) && Nat.beq x.live y.live && x.hole.isNone && y.hole.isNone
def St.like (x y : St) : Bool :=
 C.like.likeL TV.like x.tmps y.tmps && C.like.likeL (fun p q => Nat.beq p.1 q.1 && p.2.like q.2) x.rows y.rows &&
 C.like.likeL (fun p q => Nat.beq p.1 q.1 && C.like.likeL C.like p.2 q.2) x.boxes y.boxes
/-- a loop by its state's leaves -/
def mkLp (fr : List Lf → Option St) (run : List Lf → (St → Option Res) → Option Res) (st : St) (K : St → Option Res) : Option Res :=
 match fr st.leaves with
 | some st' => bif st.like st' then run st.leaves K else none
 | none => none
/-- a function by its arguments' leaves -/
def mkOrc (fr : List Lf → Option St) (run : List Lf → (Res → Option Res) → Option Res) (as : List TV) (rows : List Row) (boxes : List (List C)) (K : Res → Option Res) : Option Res :=
 let st : St := ⟨as, rows.map fun R => (0, R), boxes.map fun b => (0, b)⟩
 match fr st.leaves with
 | some st' => bif st.like st' then run st.leaves K else none
 | none => none
end Go.Tv
set_option autoImplicit false
namespace Go.Tv
open Go
/-- whose a block is: told for ever; told weakly; lent; a row's; what a row leads to; a box -/
inductive Tag where
 | imm | nst | bor | row (r : Nat) | nest (r i j : Nat) | box (b : Nat)
def Tag.owner : Tag → Option Nat
 | .row r => some (2 * r) | .nest r _ _ => some (2 * r) | .box b => some (2 * b + 1) | _ => none
/-- which blocks a tree of a level may lie in -/
def lvl (x : Nat) : Tag → Prop
 | .imm => True | .nst => x ≤ 1 | .nest _ _ _ => x = 1 | .bor => x = 0 | _ => False
/-- a row's header -/
structure Hd where
 g : Option Nat
 len : Nat
 cap : Nat
 sz : Nat
def Hd.addr (h : Hd) (o : Nat) : Option Addr := h.g.map fun g => ⟨g, o, none⟩
def Hd.val (h : Hd) : Value := .slice (h.addr 0) h.len h.cap
structure Gh where
 κ : Nat → Hd
 β : Nat → Nat
 who : Nat → Tag
 w : World
/-- a cell's content; N says it of slices of ints -/
def CellV (N : IntKind → List Int → Value → Prop) : Ct → Cl → Value → Prop
 | .int k, .i n, v => v = .int k n
 | .bool, .b x, v => v = .bool x
 | .str, .s x, v => v = .string x
 | .ints k, .l xs, v => N k xs v
 | _, _, _ => False
/-- ints that are read in blocks of a level -/
def IntsV (G : Gh) (x : Nat) (k : IntKind) (xs : List Int) (v : Value) : Prop :=
 ∃ A cap, v = .slice A xs.length cap ∧ xs.length ≤ cap ∧ (xs = [] ∨ ∃ g o, A = some ⟨g, o, none⟩ ∧ lvl x (G.who g) ∧
  ∀ i n, xs[i]? = some n → G.w.cell? ⟨g, o + i, none⟩ = some (.int k n))
/-- a block of its own -/
def Blk (G : Gh) (t : Tag) (h : Hd) (cells : List Value) : Prop :=
 cells.length = h.len * h.sz ∧ h.len ≤ h.cap ∧ h.cap ≤ maxLen ∧ match h.g with
 | none => h.cap = 0
 | some g => G.who g = t ∧ ∃ cur te, G.w.heap[g]? = some (.cells cur te (0, 0)) ∧ cur.size = h.cap * h.sz ∧ cur.toList.take (h.len * h.sz) = cells
def OwnV (G : Gh) (t : Tag) (k : IntKind) (xs : List Int) (v : Value) : Prop :=
 ∃ h : Hd, h.sz = 1 ∧ v = h.val ∧ Blk G t h (xs.map (.int k ·))
/-- cells that hold a row's content -/
def ElsV (N : Nat → Nat → IntKind → List Int → Value → Prop) (e : List Ct) (q : Sq) (f : Nat → Option Value) : Prop :=
 ∀ i j t, i < q.len → e[j]? = some t → ∃ v c, f (i * e.length + j) = some v ∧ (q.get i)[j]? = some c ∧ CellV (N i j) t c v
def NN (G : Gh) (r : Nat) (eu : Bool) (i j : Nat) : IntKind → List Int → Value → Prop :=
 match eu with | true => OwnV G (.nest r i j) | false => IntsV G 2
def rtag (r live : Nat) : Tag := match live with | 0 => .row r | _ => .imm
/-- a row of which what one cell leads to is out -/
def HoleOk (G : Gh) (r : Nat) (R : Row) : Prop :=
 ∃ i o r1 k cells, R.hole = some (i, o, r1) ∧ R.eu = true ∧ i < R.q.len ∧ R.e[o]? = some (.ints k) ∧ r1 ≠ r ∧ Blk G (.row r) (G.κ r) cells ∧ cells[i * R.e.length + o]? = some (G.κ r1).val ∧
  ElsV (fun i' j' k xs v => (i' = i ∧ j' = o) ∨ OwnV G (.nest r i' j') k xs v) R.e R.q (cells[·]?)
def RowOk (G : Gh) (r : Nat) (R : Row) : Prop :=
 R.q.len = (G.κ r).len ∧ (G.κ r).sz = R.e.length ∧ R.q.fits R.e = true ∧ ((G.κ r).g = none → (G.κ r).cap = 0) ∧ (G.κ r).len ≤ (G.κ r).cap ∧
 (R.live ≤ 1 → ∃ cells, Blk G (rtag r R.live) (G.κ r) cells ∧ ElsV (NN G r R.eu) R.e R.q (cells[·]?)) ∧ (R.live = 3 → HoleOk G r R)
def TrV (G : Gh) (x y : Nat) (e : List Ct) (q : Sq) (v : Value) : Prop :=
 ∃ A cap, v = .slice A q.len cap ∧ (q.fits e = true ∧ q.len ≤ cap) ∧ (q.len = 0 ∨ ∃ g o, A = some ⟨g, o, none⟩ ∧ lvl x (G.who g) ∧
  ElsV (fun _ _ => IntsV G y) e q (fun n => G.w.cell? ⟨g, o + n, none⟩))
def RpV (G : Gh) (y : Nat) (e : List Ct) (q : Sq) (i off : Nat) (v : Value) : Prop :=
 ∃ g o x, v = .pointer (some ⟨g, o + off, none⟩) ∧ lvl x (G.who g) ∧ i < q.len ∧ q.fits e = true ∧ ∀ j t, e[j]? = some t →
  ∃ u c, G.w.cell? ⟨g, o + j, none⟩ = some u ∧ (q.get i)[j]? = some c ∧ CellV (IntsV G y) t c u
def RV (G : Gh) : C → Value → Prop
 | .dead, _ => True
 | .undef, v => v = undef
 | .int k n, v => v = .int k n
 | .bool b, v => v = .bool b
 | .str s, v => v = .string s
 | .nil, v => v = .slice none 0 0
 | .tr x y e q, v => TrV G x y e q v
 | .ow r, v => v = (G.κ r).val
 | .os r o n, v => ∃ A c, v = .slice A n c ∧ (o + n ≤ (G.κ r).len ∧ n ≤ c) ∧ (n = 0 ∨ ∃ g, (G.κ r).g = some g ∧ A = some ⟨g, o * (G.κ r).sz, none⟩) ∧ (o = 0 → A = (G.κ r).addr 0 ∧ c = (G.κ r).cap)
 | .bp b o, v => v = .pointer (some ⟨G.β b, o, none⟩)
 | .ep r i o, v => ∃ g, (G.κ r).g = some g ∧ i < (G.κ r).len ∧ v = .pointer (some ⟨g, i * (G.κ r).sz + o, none⟩)
 | .rp y e q i o, v => RpV G y e q i o v
 | .fn f caps, v => v = .func (.func f) #[] (caps.map fun b => .pointer (some ⟨G.β b, 0, none⟩)).toArray
/-- flat values, one a cell -/
def RVs (G : Gh) (cs : List C) (vs : List Value) : Prop :=
 vs.length = cs.length ∧ ∀ (j : Nat) (c : C), cs[j]? = some c → ∃ v, vs[j]? = some v ∧ RV G c v ∧ v.oneCell' = true
def V1V (G : Gh) (x : V1) (v : Value) : Prop :=
 match x.agg with
 | true => ∃ vs : List Value, v = .agg vs.toArray ∧ RVs G x.cs vs
 | false => ∃ c, x.cs = [c] ∧ RV G c v
def TVV (G : Gh) : TV → Value → Prop
 | .v x, v => V1V G x v
 | .tp xs, v => ∃ vs : List Value, v = .tuple vs.toArray ∧ vs.length = xs.length ∧ ∀ (j : Nat) (x : V1), xs[j]? = some x → ∃ u, vs[j]? = some u ∧ V1V G x u
 | .bn cs, v => ∃ A, v = .slice A cs.length cs.length ∧ (cs = [] ∨ ∃ g, A = some ⟨g, 0, none⟩ ∧ G.who g = .imm ∧
  ∀ (j : Nat) (c : C), cs[j]? = some c → ∃ u, G.w.cell? ⟨g, j, none⟩ = some u ∧ RV G c u)
 | .be cs i, v => ∃ g, v = .pointer (some ⟨g, i, none⟩) ∧ G.who g = .imm ∧ i < cs.length ∧ ∀ (j : Nat) (c : C), cs[j]? = some c → ∃ u, G.w.cell? ⟨g, j, none⟩ = some u ∧ RV G c u
def BoxOk (G : Gh) (b : Nat) (cs : List C) : Prop :=
 G.who (G.β b) = .box b ∧ ∃ (cur : List Value) (te : TypeId), G.w.heap[G.β b]? = some (.cells cur.toArray te (0, 0)) ∧ RVs G cs cur
/-- what holds of the world all along: it hangs on blocks that are told for ever -/
class Env where
 /-- functions that may write what their rows lead to -/
 kl : List FuncId
 inv : (Nat → Tag) → World → Prop
 keep : ∀ {t t' : Nat → Tag} {w w' : World}, w.heap.size ≤ w'.heap.size → (∀ b, b < w.heap.size → t b = .imm → w'.heap[b]? = w.heap[b]? ∧ t' b = .imm) → inv t w → inv t' w'
variable [Env]
def EnvOk (G : Gh) : Prop := Env.inv G.who G.w
structure Ok (G : Gh) (st : St) (a : Act) : Prop where
 env : EnvOk G
 size : st.tmps.length = a.tmps.size
 tmps : ∀ t, TVV G (st.tmps.getD t TV.undef) (a.tmps.getD t undef)
 rows : ∀ r R, aget st.rows r = some R → RowOk G r R
 boxes : ∀ b cs, aget st.boxes b = some cs → BoxOk G b cs
/-- what is turned: what belongs to U; named anew: F -/
structure Step (U F : Nat → Prop) (kl : Bool) (G G' : Gh) : Prop where
 os : G'.w.os = G.w.os
 tape : G'.w.tape = G.w.tape
 output : G'.w.output = G.w.output
 size : G.w.heap.size ≤ G'.w.heap.size
 blk : ∀ b, b < G.w.heap.size → (∀ n, (G.who b).owner = some n → ¬ U n) → G'.w.heap[b]? = G.w.heap[b]? ∧ G'.who b = G.who b
 nst : kl = false → ∀ b r i j, b < G.w.heap.size → G.who b = .nest r i j → G'.w.heap[b]? = G.w.heap[b]? ∧ lvl 1 (G'.who b)
 κ : ∀ r, ¬ F (2 * r) → G'.κ r = G.κ r
 β : ∀ b, ¬ F (2 * b + 1) → G'.β b = G.β b
section
variable {U F : Nat → Prop} {kl : Bool} {G G' : Gh}
theorem lt_of_cell {w : World} {a : Addr} {v : Value} (h : w.cell? a = some v) : a.block < w.heap.size := World.block_lt_of_cell? w a h
theorem lt_of_heap {w : World} {g : Nat} {o : Obj} (h : w.heap[g]? = some o) : g < w.heap.size := (Array.getElem?_eq_some_iff.1 h).1
/-- a block that is read stays so -/
theorem Step.read (s : Step U F kl G G') {x g : Nat} (hx : kl = true → x ≠ 1) (hl : lvl x (G.who g)) (hg : g < G.w.heap.size) :
 G'.w.heap[g]? = G.w.heap[g]? ∧ lvl x (G'.who g) := by
 cases ht : G.who g with
 | imm => obtain ⟨h1, h2⟩ := s.blk g hg (by rw [ht]; simp [Tag.owner]); rw [ht] at h2; exact ⟨h1, by rw [h2]; trivial⟩
 | nst => obtain ⟨h1, h2⟩ := s.blk g hg (by rw [ht]; simp [Tag.owner]); rw [ht] at h2 hl; exact ⟨h1, by rw [h2]; exact hl⟩
 | bor => obtain ⟨h1, h2⟩ := s.blk g hg (by rw [ht]; simp [Tag.owner]); rw [ht] at h2 hl; exact ⟨h1, by rw [h2]; exact hl⟩
 | row r => rw [ht] at hl; exact hl.elim
 | box b => rw [ht] at hl; exact hl.elim
 | nest r i j =>
  rw [ht] at hl
  have hl : x = 1 := hl
  subst hl
  cases kl with
  | true => exact absurd rfl (hx rfl)
  | false => exact s.nst rfl g r i j hg ht
theorem EnvOk.step (s : Step U F kl G G') (h : EnvOk G) : EnvOk G' := by
 refine Env.keep s.size (fun b hb ht => ?_) h
 obtain ⟨h1, h2⟩ := s.blk b hb (by rw [ht]; simp [Tag.owner])
 exact ⟨h1, by rw [h2]; exact ht⟩
theorem Step.cell (s : Step U F kl G G') {x g o : Nat} {v : Value} (hx : kl = true → x ≠ 1) (hl : lvl x (G.who g)) (hc : G.w.cell? ⟨g, o, none⟩ = some v) :
 G'.w.cell? ⟨g, o, none⟩ = some v := by
 have := (s.read hx hl (lt_of_cell hc)).1
 rw [World.cell?_of_block (w := G.w) (w' := G'.w) (a := ⟨g, o, none⟩) this]; exact hc
theorem CellV.mono {N N' : IntKind → List Int → Value → Prop} (h : ∀ k xs v, N k xs v → N' k xs v) : ∀ {t c v}, CellV N t c v → CellV N' t c v := by
 intro t c v hc
 cases t <;> cases c <;> simp only [CellV] at hc ⊢ <;> first | exact hc | exact h _ _ _ hc
theorem CellV.oneCell {N : IntKind → List Int → Value → Prop} (h : ∀ k xs v, N k xs v → v.oneCell' = true) {t : Ct} {c : Cl} {v : Value} (hc : CellV N t c v) : v.oneCell' = true := by
 cases t <;> cases c <;> simp only [CellV] at hc <;> first | (subst hc; rfl) | exact h _ _ _ hc
theorem IntsV.oneCell {x : Nat} {k : IntKind} {xs : List Int} {v : Value} (h : IntsV G x k xs v) : v.oneCell' = true := by
 obtain ⟨A, cap, rfl, _⟩ := h; rfl
theorem IntsV.step {x : Nat} (s : Step U F kl G G') (hx : kl = true → x ≠ 1) {k : IntKind} {xs : List Int} {v : Value} (h : IntsV G x k xs v) : IntsV G' x k xs v := by
 obtain ⟨A, cap, rfl, hcap, h⟩ := h
 refine ⟨A, cap, rfl, hcap, ?_⟩
 rcases h with h | ⟨g, o, rfl, hl, hc⟩
 ·exact .inl h
 ·cases xs with
  | nil => exact .inl rfl
  | cons n ns =>
   refine .inr ⟨g, o, rfl, (s.read hx hl (lt_of_cell (hc 0 n rfl))).2, fun i m hi => s.cell hx hl (hc i m hi)⟩
/-- ints that are read anywhere are read anywhere lower -/
theorem IntsV.lower {x y : Nat} (hxy : x = y ∨ 2 ≤ x) {k : IntKind} {xs : List Int} {v : Value} (h : IntsV G x k xs v) : IntsV G y k xs v := by
 rcases hxy with rfl | hx
 ·exact h
 ·obtain ⟨A, cap, rfl, hcap, h⟩ := h
  refine ⟨A, cap, rfl, hcap, ?_⟩
  rcases h with h | ⟨g, o, rfl, hl, hc⟩
  ·exact .inl h
  ·refine .inr ⟨g, o, rfl, ?_, hc⟩
   cases ht : G.who g <;> rw [ht] at hl <;> simp only [lvl] at hl ⊢ <;> omega
theorem Blk.cell {t : Tag} {h : Hd} {cells : List Value} (hb : Blk G t h cells) {g : Nat} (hg : h.g = some g) {j : Nat} {u : Value} (hu : cells[j]? = some u) :
 G.w.cell? ⟨g, j, none⟩ = some u := by
 obtain ⟨_, _, _, hb⟩ := hb
 rw [hg] at hb
 obtain ⟨_, cur, te, hh, _, rfl⟩ := hb
 rw [cell_of_row G.w g j cur te (0, 0) hh]
 rw [List.getElem?_take] at hu
 split at hu
 ·simpa using hu
 ·cases hu
theorem Blk.step {t : Tag} {h : Hd} {cells : List Value} (s : Step U F kl G G') (hU : ∀ n, t.owner = some n → ¬ U n) (hb : Blk G t h cells) : Blk G' t h cells := by
 obtain ⟨h1, h2, h3, hb⟩ := hb
 refine ⟨h1, h2, h3, ?_⟩
 cases hg : h.g with
 | none => rw [hg] at hb; exact hb
 | some g =>
  rw [hg] at hb
  obtain ⟨ht, cur, te, hh, hs, hc⟩ := hb
  obtain ⟨b1, b2⟩ := s.blk g (lt_of_heap hh) (by rw [ht]; exact hU)
  exact ⟨b2.trans ht, cur, te, b1.trans hh, hs, hc⟩
theorem OwnV.step {t : Tag} (s : Step U F kl G G') (hU : ∀ n, t.owner = some n → ¬ U n) {k : IntKind} {xs : List Int} {v : Value} (h : OwnV G t k xs v) : OwnV G' t k xs v := by
 obtain ⟨h, h1, h2, hb⟩ := h
 exact ⟨h, h1, h2, hb.step s hU⟩
theorem OwnV.oneCell {t : Tag} {k : IntKind} {xs : List Int} {v : Value} (h : OwnV G t k xs v) : v.oneCell' = true := by
 obtain ⟨h, _, rfl, _⟩ := h; rfl
/-- a slice of its own is read -/
theorem OwnV.ints {t : Tag} {x : Nat} (ht : lvl x t) {k : IntKind} {xs : List Int} {v : Value} (h : OwnV G t k xs v) : IntsV G x k xs v := by
 obtain ⟨h, h1, rfl, hb⟩ := h
 have hlen : h.len = xs.length := by have := hb.1; rw [h1] at this; simpa using this.symm
 refine ⟨h.addr 0, h.cap, by rw [← hlen]; rfl, by rw [← hlen]; exact hb.2.1, ?_⟩
 cases hg : h.g with
 | none =>
  left
  have h2 := hb.2.1
  have h3 := hb.2.2.2
  rw [hg] at h3
  have h3 : h.cap = 0 := h3
  exact List.length_eq_zero_iff.1 (by omega)
 | some g =>
  right
  refine ⟨g, 0, by simp [Hd.addr, hg], ?_, fun i n hi => ?_⟩
  ·have h3 := hb.2.2.2
   rw [hg] at h3
   rw [h3.1]; exact ht
  ·have := hb.cell hg (j := i) (u := .int k n) (by rw [List.getElem?_map, hi]; rfl)
   rw [Nat.zero_add]; exact this
theorem NN.step {r i j : Nat} {eu : Bool} (s : Step U F kl G G') (hU : ¬ U (2 * r)) {k : IntKind} {xs : List Int} {v : Value} (h : NN G r eu i j k xs v) : NN G' r eu i j k xs v := by
 cases eu with
 | true => exact OwnV.step s (by intro n hn; cases hn; exact hU) h
 | false => exact IntsV.step s (by intro _; decide) h
theorem NN.oneCell {r i j : Nat} {eu : Bool} {k : IntKind} {xs : List Int} {v : Value} (h : NN G r eu i j k xs v) : v.oneCell' = true := by
 cases eu with
 | true => exact OwnV.oneCell h
 | false => exact IntsV.oneCell h
theorem NN.ints {r i j : Nat} {eu : Bool} {k : IntKind} {xs : List Int} {v : Value} (h : NN G r eu i j k xs v) : IntsV G (bif eu then 1 else 2) k xs v := by
 cases eu with
 | true => exact OwnV.ints (x := 1) (t := .nest r i j) rfl h
 | false => exact h
theorem ElsV.mono {N N' : Nat → Nat → IntKind → List Int → Value → Prop} {e : List Ct} {q : Sq} {f f' : Nat → Option Value}
 (h : ∀ i j k xs v, N i j k xs v → N' i j k xs v) (hf : ∀ n v, f n = some v → f' n = some v) (he : ElsV N e q f) : ElsV N' e q f' := by
 intro i j t hi hj
 obtain ⟨v, c, h1, h2, h3⟩ := he i j t hi hj
 exact ⟨v, c, hf _ _ h1, h2, h3.mono (h i j)⟩
theorem HoleOk.step {r : Nat} {R : Row} (s : Step U F kl G G') (hU : ¬ U (2 * r)) (hF : ¬ F (2 * r)) (hH : ∀ n ∈ R.hids, ¬ F n) (h : HoleOk G r R) : HoleOk G' r R := by
 obtain ⟨i, o, r1, k, cells, h1, h2, h3, h4, h0, h5, h6, h7⟩ := h
 refine ⟨i, o, r1, k, cells, h1, h2, h3, h4, h0, by rw [s.κ r hF]; exact h5.step s (by intro n hn; cases hn; exact hU), by rw [s.κ r1 (hH _ (by simp [Row.hids, h1]))]; exact h6, h7.mono (fun i' j' k xs v hh => ?_) (fun _ _ h => h)⟩
 rcases hh with hh | hh
 ·exact .inl hh
 ·exact .inr (hh.step s (by intro n hn; cases hn; exact hU))
theorem RowOk.step {r : Nat} {R : Row} (s : Step U F kl G G') (hU : ¬ U (2 * r)) (hF : ¬ F (2 * r)) (hH : ∀ n ∈ R.hids, ¬ F n) (h : RowOk G r R) : RowOk G' r R := by
 obtain ⟨h1, h2, h3, h4, h5, h6, h7⟩ := h
 have hk := s.κ r hF
 refine ⟨by rw [hk]; exact h1, by rw [hk]; exact h2, h3, by rw [hk]; exact h4, by rw [hk]; exact h5, fun hl => ?_, fun hl => (h7 hl).step s hU hF hH⟩
 obtain ⟨cells, hb, he⟩ := h6 hl
 rw [hk]
 refine ⟨cells, hb.step s ?_, he.mono (fun i j k xs v => NN.step s hU) (fun _ _ h => h)⟩
 intro n hn
 unfold rtag at hn
 split at hn
 ·cases hn; exact hU
 ·cases hn
theorem TrV.step {x y : Nat} {e : List Ct} {q : Sq} {v : Value} (s : Step U F kl G G') (hx : kl = true → x ≠ 1) (hy : kl = true → y ≠ 1 ∨ nested e = false) (h : TrV G x y e q v) : TrV G' x y e q v := by
 obtain ⟨A, cap, rfl, hf, h⟩ := h
 refine ⟨A, cap, rfl, hf, ?_⟩
 rcases h with h | ⟨g, o, rfl, hl, he⟩
 ·exact .inl h
 by_cases h0 : q.len = 0
 ·exact .inl h0
 right
 have hne : ∃ t, e[0]? = some t := by
  cases e with
  | nil => exfalso; have hf := hf.1; revert hf; cases q <;> simp [Sq.fits]
  | cons t ts => exact ⟨t, rfl⟩
 obtain ⟨t0, ht0⟩ := hne
 obtain ⟨v0, c0, hc0, _, _⟩ := he 0 0 t0 (by omega) ht0
 refine ⟨g, o, rfl, (s.read hx hl (lt_of_cell hc0)).2, ?_⟩
 intro i j t hi hj
 obtain ⟨v, c, h1, h2, h3⟩ := he i j t hi hj
 refine ⟨v, c, s.cell hx hl h1, h2, ?_⟩
 by_cases hn : kl = true → y ≠ 1
 ·exact h3.mono fun k xs v => IntsV.step s hn
 ·have hn2 : nested e = false := by
   by_cases hk : kl = true
   ·rcases hy hk with h | h
    ·exact absurd (fun _ => h) hn
    ·exact h
   ·exact absurd (fun h => absurd h hk) hn
  have : t.nested = false := by
   have hm : t ∈ e := List.mem_of_getElem? hj
   unfold nested at hn2
   rw [List.any_eq_false] at hn2
   simpa using hn2 t hm
  cases t <;> cases c <;> simp only [CellV] at h3 ⊢ <;> first | exact h3 | (cases this)
theorem RpV.step {y : Nat} {e : List Ct} {q : Sq} {i o : Nat} {v : Value} (s : Step U F false G G') (h : RpV G y e q i o v) : RpV G' y e q i o v := by
 obtain ⟨g, b, x, rfl, hl, hi, hf, he⟩ := h
 have hne : ∃ t, e[0]? = some t := by
  cases e with
  | nil => exfalso; revert hf; cases q <;> simp [Sq.fits]
  | cons t ts => exact ⟨t, rfl⟩
 obtain ⟨t0, ht0⟩ := hne
 obtain ⟨u0, c0, hc0, _, _⟩ := he 0 t0 ht0
 refine ⟨g, b, x, rfl, (s.read (by intro h; cases h) hl (lt_of_cell hc0)).2, hi, hf, ?_⟩
 intro j t hj
 obtain ⟨u, c, h1, h2, h3⟩ := he j t hj
 exact ⟨u, c, s.cell (by intro h; cases h) hl h1, h2, h3.mono fun k xs v => IntsV.step s (by intro h; cases h)⟩
theorem RV.step (s : Step U F false G G') : ∀ {c : C} {v : Value}, (∀ n ∈ c.ids, ¬ F n) → RV G c v → RV G' c v := by
 intro c v hF h
 cases c with
 | tr x y e q => exact TrV.step s (by intro h; cases h) (by intro h; cases h) h
 | ow r => simp only [RV] at h ⊢; rw [s.κ r (hF _ (by simp [C.ids]))]; exact h
 | os r o n => simp only [RV] at h ⊢; rw [s.κ r (hF _ (by simp [C.ids]))]; exact h
 | ep r i o => simp only [RV] at h ⊢; rw [s.κ r (hF _ (by simp [C.ids]))]; exact h
 | bp b o => simp only [RV] at h ⊢; rw [s.β b (hF _ (by simp [C.ids]))]; exact h
 | rp y e q i o => exact RpV.step s h
 | fn f caps =>
  simp only [RV] at h ⊢
  rw [h]
  congr 2
  apply List.map_congr_left
  intro b hb
  rw [s.β b (hF _ (List.mem_map.2 ⟨b, hb, rfl⟩))]
 | _ => exact h
theorem RV.stepK (s : Step U F true G G') : ∀ {c : C} {v : Value}, (∀ n ∈ c.ids, ¬ F n) → RV G c v → RV G' c.kill v := by
 intro c v hF h
 cases c with
 | tr x y e q =>
  simp only [C.kill]
  cases hk : (Nat.beq x 1 || (Nat.beq y 1 && nested e)) with
  | true => exact trivial
  | false =>
   simp only [cond_false]
   simp only [Bool.or_eq_false_iff, Bool.and_eq_false_iff] at hk
   refine TrV.step s (fun _ => Nat.ne_of_beq_eq_false hk.1) (fun _ => hk.2.imp Nat.ne_of_beq_eq_false id) h
 | ow r => simp only [RV, C.kill] at h ⊢; rw [s.κ r (hF _ (by simp [C.ids]))]; exact h
 | os r o n => simp only [RV, C.kill] at h ⊢; rw [s.κ r (hF _ (by simp [C.ids]))]; exact h
 | ep r i o => simp only [RV, C.kill] at h ⊢; rw [s.κ r (hF _ (by simp [C.ids]))]; exact h
 | bp b o => simp only [RV, C.kill] at h ⊢; rw [s.β b (hF _ (by simp [C.ids]))]; exact h
 | rp y e q i o => exact trivial
 | fn f caps =>
  simp only [RV, C.kill] at h ⊢
  rw [h]
  congr 2
  apply List.map_congr_left
  intro b hb
  rw [s.β b (hF _ (List.mem_map.2 ⟨b, hb, rfl⟩))]
 | _ => exact h
end
end Go.Tv
set_option autoImplicit false
namespace Go.Tv
open Go
variable [Env]
theorem Step.refl (U F : Nat → Prop) (kl : Bool) (G : Gh) : Step U F kl G G :=
 ⟨rfl, rfl, rfl, Nat.le_refl _, fun _ _ _ => ⟨rfl, rfl⟩, fun _ b r i j _ h => ⟨rfl, by rw [h]; rfl⟩, fun _ _ => rfl, fun _ _ => rfl⟩
theorem Step.weak {U U' F F' : Nat → Prop} {kl kl' : Bool} {G G' : Gh} (s : Step U F kl G G') (hU : ∀ n, U n → U' n) (hF : ∀ n, F n → F' n) (hk : kl' = false → kl = false) : Step U' F' kl' G G' :=
 ⟨s.os, s.tape, s.output, s.size, fun b hb h => s.blk b hb (fun n hn hu => h n hn (hU n hu)), fun h => s.nst (hk h), fun r hr => s.κ r (fun h => hr (hF _ h)), fun b hb => s.β b (fun h => hb (hF _ h))⟩
theorem Step.trans {U F : Nat → Prop} {kl : Bool} {G G' G'' : Gh} (s : Step U F kl G G') (t : Step U F kl G' G'') : Step U F kl G G'' := by
 refine ⟨t.os.trans s.os, t.tape.trans s.tape, t.output.trans s.output, Nat.le_trans s.size t.size, ?_, ?_, fun r hr => (t.κ r hr).trans (s.κ r hr), fun b hb => (t.β b hb).trans (s.β b hb)⟩
 ·intro b hb h
  obtain ⟨h1, h2⟩ := s.blk b hb h
  obtain ⟨h3, h4⟩ := t.blk b (Nat.lt_of_lt_of_le hb s.size) (by rw [h2]; exact h)
  exact ⟨h3.trans h1, h4.trans h2⟩
 ·intro hk b r i j hb h
  obtain ⟨h1, h2⟩ := s.nst hk b r i j hb h
  have hb' := Nat.lt_of_lt_of_le hb s.size
  cases ht : G'.who b with
  | imm => obtain ⟨h3, h4⟩ := t.blk b hb' (by rw [ht]; simp [Tag.owner]); exact ⟨h3.trans h1, by rw [h4, ht]; trivial⟩
  | nst => obtain ⟨h3, h4⟩ := t.blk b hb' (by rw [ht]; simp [Tag.owner]); exact ⟨h3.trans h1, by rw [h4, ht]; exact Nat.le_refl 1⟩
  | nest r' i' j' => obtain ⟨h3, h4⟩ := t.nst hk b r' i' j' hb' ht; exact ⟨h3.trans h1, h4⟩
  | bor => rw [ht] at h2; cases h2
  | row _ => rw [ht] at h2; exact h2.elim
  | box _ => rw [ht] at h2; exact h2.elim
/-! ### association lists -/
theorem natBeq {a b : Nat} : Nat.beq a b = true ↔ a = b := ⟨Nat.eq_of_beq_eq_true, fun h => by subst h; exact Nat.beq_refl a⟩
theorem aget_aput {α : Type} (l : List (Nat × α)) (k j : Nat) (x : α) : aget (aput l k x) j = if j = k then some x else aget l j := by
 induction l with
 | nil =>
  simp only [aput, aget]
  cases h : Nat.beq k j with
  | true => have := natBeq.1 h; subst this; simp
  | false => have : j ≠ k := fun e => by subst e; rw [Nat.beq_refl] at h; cases h
             simp [this]
 | cons p l ih =>
  obtain ⟨m, v⟩ := p
  simp only [aput]
  cases h : Nat.beq m k with
  | true =>
   have := natBeq.1 h
   subst this
   simp only [cond_true, aget]
   cases h2 : Nat.beq m j with
   | true => have := natBeq.1 h2; subst this; simp
   | false => have : j ≠ m := fun e => by subst e; rw [Nat.beq_refl] at h2; cases h2
              simp [this]
  | false =>
   simp only [cond_false, aget]
   cases h2 : Nat.beq m j with
   | true =>
    have := natBeq.1 h2
    subst this
    have : m ≠ k := fun e => by subst e; rw [Nat.beq_refl] at h; cases h
    simp [this]
   | false => simp only [cond_false]; exact ih
theorem aget_adel {α : Type} (l : List (Nat × α)) (k j : Nat) : aget (adel l k) j = if j = k then none else aget l j := by
 induction l with
 | nil => simp [adel, aget]
 | cons p l ih =>
  obtain ⟨m, v⟩ := p
  simp only [adel]
  cases h : Nat.beq m k with
  | true =>
   have := natBeq.1 h
   subst this
   simp only [cond_true, aget, ih]
   cases h2 : Nat.beq m j with
   | true => have := natBeq.1 h2; subst this; simp
   | false => have : j ≠ m := fun e => by subst e; rw [Nat.beq_refl] at h2; cases h2
              simp [this]
  | false =>
   simp only [cond_false, aget, ih]
   cases h2 : Nat.beq m j with
   | true =>
    have := natBeq.1 h2
    subst this
    have : m ≠ k := fun e => by subst e; rw [Nat.beq_refl] at h; cases h
    simp [this]
   | false => rfl
theorem aget_map {α β : Type} (f : α → β) (l : List (Nat × α)) (j : Nat) : aget (l.map fun p => (p.1, f p.2)) j = (aget l j).map f := by
 induction l with
 | nil => rfl
 | cons p l ih =>
  obtain ⟨m, v⟩ := p
  simp only [List.map_cons, aget]
  cases Nat.beq m j <;> simp [ih]
/-! ### names -/
def St.Names (st : St) (n : Nat) : Prop :=
 (∃ (t : Nat) (v : TV), st.tmps[t]? = some v ∧ n ∈ v.ids) ∨ (∃ (r : Nat) (R : Row), aget st.rows r = some R ∧ (n = 2 * r ∨ n ∈ R.hids)) ∨
 (∃ (b : Nat) (cs : List C), aget st.boxes b = some cs ∧ (n = 2 * b + 1 ∨ ∃ c ∈ cs, n ∈ c.ids))
/-! ### values under a step -/
section
variable {U F : Nat → Prop} {kl : Bool} {G G' : Gh}
def killC (kl : Bool) (c : C) : C := bif kl then c.kill else c
def killT (kl : Bool) (v : TV) : TV := bif kl then v.kill else v
theorem RV.stepB (s : Step U F kl G G') {c : C} {v : Value} (hF : ∀ n ∈ c.ids, ¬ F n) (h : RV G c v) : RV G' (killC kl c) v := by
 cases kl with
 | true => exact RV.stepK s hF h
 | false => exact RV.step s hF h
theorem RVs.stepB (s : Step U F kl G G') {cs : List C} {vs : List Value} (hF : ∀ c ∈ cs, ∀ n ∈ c.ids, ¬ F n) (h : RVs G cs vs) : RVs G' (cs.map (killC kl)) vs := by
 obtain ⟨h1, h2⟩ := h
 refine ⟨by simpa using h1, fun j c hc => ?_⟩
 rw [List.getElem?_map] at hc
 cases hj : cs[j]? with
 | none => rw [hj] at hc; cases hc
 | some c0 =>
  rw [hj] at hc
  cases hc
  obtain ⟨v, hv, hr, ho⟩ := h2 j c0 hj
  exact ⟨v, hv, RV.stepB s (hF c0 (List.mem_of_getElem? hj)) hr, ho⟩
theorem V1V.stepB (s : Step U F kl G G') {x : V1} {v : Value} (hF : ∀ n ∈ x.ids, ¬ F n) (h : V1V G x v) : V1V G' ⟨x.agg, x.cs.map (killC kl)⟩ v := by
 obtain ⟨agg, cs⟩ := x
 cases agg with
 | true =>
  obtain ⟨vs, rfl, h⟩ := h
  exact ⟨vs, rfl, RVs.stepB s (fun c hc n hn => hF n (List.mem_flatMap.2 ⟨c, hc, hn⟩)) h⟩
 | false =>
  obtain ⟨c, hc, h⟩ := h
  simp only at hc
  subst hc
  exact ⟨_, rfl, RV.stepB s (fun n hn => hF n (List.mem_flatMap.2 ⟨c, by simp, hn⟩)) h⟩
theorem killC_false : killC false = fun c => c := rfl
theorem killT_false : killT false = fun c => c := rfl
theorem killC_map (cs : List C) : cs.map (killC kl) = bif kl then cs.map C.kill else cs := by
 cases kl with
 | true => rfl
 | false => exact List.map_id' cs
theorem killT_v (x : V1) : killT kl (.v x) = .v ⟨x.agg, x.cs.map (killC kl)⟩ := by
 cases kl with
 | true => rfl
 | false => simp [killT_false, killC_false]
theorem killT_tp (xs : List V1) : killT kl (.tp xs) = .tp (xs.map fun x => ⟨x.agg, x.cs.map (killC kl)⟩) := by
 cases kl with
 | true => rfl
 | false => simp [killT_false, killC_false]
theorem killT_bn (cs : List C) : killT kl (.bn cs) = .bn (cs.map (killC kl)) := by
 cases kl with
 | true => rfl
 | false => simp [killT_false, killC_false]
theorem killT_be (cs : List C) (i : Nat) : killT kl (.be cs i) = .be (cs.map (killC kl)) i := by
 cases kl with
 | true => rfl
 | false => simp [killT_false, killC_false]
theorem TVV.stepB (s : Step U F kl G G') {x : TV} {v : Value} (hF : ∀ n ∈ x.ids, ¬ F n) (h : TVV G x v) : TVV G' (killT kl x) v := by
 cases x with
 | v x => rw [killT_v]; exact V1V.stepB s hF h
 | tp xs =>
  rw [killT_tp]
  obtain ⟨vs, rfl, h1, h2⟩ := h
  refine ⟨vs, rfl, by simpa using h1, fun j x hx => ?_⟩
  rw [List.getElem?_map] at hx
  cases hj : xs[j]? with
  | none => rw [hj] at hx; cases hx
  | some x0 =>
   rw [hj] at hx
   cases hx
   obtain ⟨u, hu, hv⟩ := h2 j x0 hj
   exact ⟨u, hu, V1V.stepB s (fun n hn => hF n (List.mem_flatMap.2 ⟨x0, List.mem_of_getElem? hj, hn⟩)) hv⟩
 | bn cs =>
  rw [killT_bn]
  obtain ⟨A, rfl, h⟩ := h
  refine ⟨A, by simp, ?_⟩
  rcases h with rfl | ⟨g, rfl, hg, h⟩
  ·exact .inl rfl
  ·cases hcs : cs with
   | nil => exact .inl rfl
   | cons c0 cr =>
    right
    obtain ⟨u0, hu0, _⟩ := h 0 c0 (by rw [hcs]; rfl)
    have hr := s.read (x := 2) (by intro _; decide) (by rw [hg]; trivial) (lt_of_cell hu0)
    have hw : G'.who g = .imm := (s.blk g (lt_of_cell hu0) (by rw [hg]; simp [Tag.owner])).2.trans hg
    refine ⟨g, rfl, hw, fun j c hc => ?_⟩
    rw [← hcs] at hc
    rw [List.getElem?_map] at hc
    cases hj : cs[j]? with
    | none => rw [hj] at hc; cases hc
    | some c1 =>
     rw [hj] at hc
     cases hc
     obtain ⟨u, hu, hv⟩ := h j c1 hj
     exact ⟨u, s.cell (x := 2) (by intro _; decide) (by rw [hg]; trivial) hu, RV.stepB s (fun n hn => hF n (List.mem_flatMap.2 ⟨c1, List.mem_of_getElem? hj, hn⟩)) hv⟩
 | be cs i =>
  rw [killT_be]
  obtain ⟨g, rfl, hg, hi, h⟩ := h
  obtain ⟨u0, hu0, _⟩ := h i _ (List.getElem?_eq_getElem hi)
  have hr := s.read (x := 2) (by intro _; decide) (by rw [hg]; trivial) (lt_of_cell hu0)
  have hw : G'.who g = .imm := (s.blk g (lt_of_cell hu0) (by rw [hg]; simp [Tag.owner])).2.trans hg
  refine ⟨g, rfl, hw, by simpa using hi, fun j c hc => ?_⟩
  rw [List.getElem?_map] at hc
  cases hj : cs[j]? with
  | none => rw [hj] at hc; cases hc
  | some c1 =>
   rw [hj] at hc
   cases hc
   obtain ⟨u, hu, hv⟩ := h j c1 hj
   exact ⟨u, s.cell (x := 2) (by intro _; decide) (by rw [hg]; trivial) hu, RV.stepB s (fun n hn => hF n (List.mem_flatMap.2 ⟨c1, List.mem_of_getElem? hj, hn⟩)) hv⟩
theorem BoxOk.stepB (s : Step U F kl G G') {b : Nat} {cs : List C} (hU : ¬ U (2 * b + 1)) (hF : ¬ F (2 * b + 1)) (hFc : ∀ c ∈ cs, ∀ n ∈ c.ids, ¬ F n) (h : BoxOk G b cs) :
 BoxOk G' b (cs.map (killC kl)) := by
 obtain ⟨h1, cur, te, h2, h3⟩ := h
 have hb := s.β b hF
 obtain ⟨h4, h5⟩ := s.blk (G.β b) (lt_of_heap h2) (by rw [h1]; intro n hn; cases hn; exact hU)
 refine ⟨by rw [hb, h5, h1], cur, te, by rw [hb, h4, h2], RVs.stepB s hFc h3⟩
end
/-! ### updates -/
def isK (us : List Upd) : Bool := us.any Upd.isKill
def UpdsOk (G : Gh) (us : List Upd) : Prop :=
 (∀ r R, aget (applyU us ⟨[], [], []⟩).rows r = some R → RowOk G r R) ∧ (∀ b cs, aget (applyU us ⟨[], [], []⟩).boxes b = some cs → BoxOk G b cs)
def Us (us : List Upd) (n : Nat) : Prop := ∃ u ∈ us, u.isKill = false ∧ u.id = n
theorem applyU_tmps (us : List Upd) (st : St) : (applyU us st).tmps = st.tmps.map (killT (isK us)) := by
 induction us generalizing st with
 | nil => simp [applyU, isK, killT_false]
 | cons u us ih =>
  simp only [applyU]
  rw [ih]
  cases u with
  | kill =>
   simp only [apply1, St.kill, List.map_map]
   apply List.map_congr_left
   intro v _
   have : isK (.kill :: us) = true := rfl
   rw [this]
   simp only [Function.comp, killT, cond_true]
   cases isK us with
   | false => rfl
   | true =>
    have hc : ∀ c : C, c.kill.kill = c.kill := by
     intro c
     cases c with
     | tr x y e q => simp only [C.kill]; cases h : (Nat.beq x 1 || (Nat.beq y 1 && nested e)) <;> simp [h, C.kill]
     | _ => rfl
    cases v <;> simp [TV.kill, hc]
  | _ => rfl
theorem aget_rows (us : List Upd) (st st' : St) (r : Nat) :
 (Us us (2 * r) → aget (applyU us st).rows r = aget (applyU us st').rows r) ∧ (¬ Us us (2 * r) → aget (applyU us st).rows r = aget st.rows r) := by
 suffices H : ∀ us : List Upd, ∀ st st' : St, (aget st.rows r = aget st'.rows r → aget (applyU us st).rows r = aget (applyU us st').rows r) ∧
  (Us us (2 * r) → aget (applyU us st).rows r = aget (applyU us st').rows r) ∧ (¬ Us us (2 * r) → aget (applyU us st).rows r = aget st.rows r) from (H us st st').2
 intro us
 induction us with
 | nil => intro st st'; exact ⟨fun h => h, fun h => (by obtain ⟨_, h, _⟩ := h; cases h), fun _ => rfl⟩
 | cons u us ih =>
  intro st st'
  simp only [applyU]
  have hs : ∀ {n}, Us us n → Us (u :: us) n := fun ⟨v, hv, h⟩ => ⟨v, List.mem_cons_of_mem _ hv, h⟩
  obtain ⟨i1, i2, i3⟩ := ih (apply1 st u) (apply1 st' u)
  have hrow : ∀ st : St, (∀ R, u ≠ .row r R) → u ≠ .del r → aget (apply1 st u).rows r = aget st.rows r := by
   intro st h1 h2
   cases u with
   | row id R => simp only [apply1]; rw [aget_aput]; split; · rename_i e; subst e; exact absurd rfl (h1 R)
                 ·rfl
   | del id => simp only [apply1]; rw [aget_adel]; split; · rename_i e; subst e; exact absurd rfl h2
               ·rfl
   | box id cs => rfl
   | kill => rfl
  refine ⟨fun h => i1 ?_, fun h => ?_, fun h => ?_⟩
  ·cases u with
   | row id R => simp only [apply1, aget_aput, h]
   | del id => simp only [apply1, aget_adel, h]
   | box id cs => exact h
   | kill => exact h
  ·by_cases hu : Us us (2 * r)
   ·exact i2 hu
   ·apply i1
    obtain ⟨v, hv, hk, hid⟩ := h
    rcases List.mem_cons.1 hv with rfl | hv
    ·cases v with
     | row id R => have : id = r := by simp [Upd.id] at hid; omega
                   subst this; simp only [apply1, aget_aput, if_true]
     | del id => have : id = r := by simp [Upd.id] at hid; omega
                 subst this; simp only [apply1, aget_adel, if_true]
     | box id cs => simp [Upd.id] at hid; omega
     | kill => cases hk
    ·exact absurd ⟨v, hv, hk, hid⟩ hu
  ·rw [i3 (fun hu => h (hs hu))]
   apply hrow
   ·intro R e; subst e; exact h ⟨_, List.mem_cons_self .., rfl, rfl⟩
   ·intro e; subst e; exact h ⟨_, List.mem_cons_self .., rfl, rfl⟩
theorem C.kill_kill (c : C) : c.kill.kill = c.kill := by
 cases c with
 | tr x y e q => simp only [C.kill]; cases h : (Nat.beq x 1 || (Nat.beq y 1 && nested e)) <;> simp [h, C.kill]
 | _ => rfl
theorem aget_boxes (us : List Upd) (st st' : St) (b : Nat) :
 (Us us (2 * b + 1) → aget (applyU us st).boxes b = aget (applyU us st').boxes b) ∧
 (¬ Us us (2 * b + 1) → aget (applyU us st).boxes b = (aget st.boxes b).map (·.map (killC (isK us)))) := by
 suffices H : ∀ us : List Upd, ∀ st st' : St, (aget st.boxes b = aget st'.boxes b → aget (applyU us st).boxes b = aget (applyU us st').boxes b) ∧
  (Us us (2 * b + 1) → aget (applyU us st).boxes b = aget (applyU us st').boxes b) ∧
  (¬ Us us (2 * b + 1) → aget (applyU us st).boxes b = (aget st.boxes b).map (·.map (killC (isK us)))) from (H us st st').2
 intro us
 induction us with
 | nil => intro st st'; exact ⟨fun h => h, fun h => (by obtain ⟨_, h, _⟩ := h; cases h), fun _ => by simp [applyU, isK, killC_false]⟩
 | cons u us ih =>
  intro st st'
  simp only [applyU]
  have hs : ∀ {n}, Us us n → Us (u :: us) n := fun ⟨v, hv, h⟩ => ⟨v, List.mem_cons_of_mem _ hv, h⟩
  obtain ⟨i1, i2, i3⟩ := ih (apply1 st u) (apply1 st' u)
  refine ⟨fun h => i1 ?_, fun h => ?_, fun h => ?_⟩
  ·cases u with
   | row id R => exact h
   | del id => exact h
   | box id cs => simp only [apply1, aget_aput, h]
   | kill => simp only [apply1, St.kill, aget_map, h]
  ·by_cases hu : Us us (2 * b + 1)
   ·exact i2 hu
   ·apply i1
    obtain ⟨v, hv, hk, hid⟩ := h
    rcases List.mem_cons.1 hv with rfl | hv
    ·cases v with
     | row id R => simp [Upd.id] at hid; omega
     | del id => simp [Upd.id] at hid; omega
     | box id cs => have : id = b := by simp [Upd.id] at hid; omega
                    subst this; simp only [apply1, aget_aput, if_true]
     | kill => cases hk
    ·exact absurd ⟨v, hv, hk, hid⟩ hu
  ·rw [i3 (fun hu => h (hs hu))]
   cases u with
   | row id R => rfl
   | del id => rfl
   | box id cs =>
    have hne : b ≠ id := fun e => by subst e; exact h ⟨_, List.mem_cons_self .., rfl, rfl⟩
    simp only [apply1, aget_aput, if_neg hne]
    rfl
   | kill =>
    simp only [apply1, St.kill, aget_map]
    cases aget st.boxes b with
    | none => rfl
    | some cs =>
     have : isK (.kill :: us) = true := rfl
     rw [this]
     simp only [Option.map_some, List.map_map]
     congr 1
     apply List.map_congr_left
     intro c _
     simp only [Function.comp, killC, cond_true]
     cases isK us with
     | false => rfl
     | true => exact C.kill_kill c
theorem getD_map_kill (l : List TV) (f : TV → TV) (hf : f TV.undef = TV.undef) (t : Nat) : (l.map f).getD t TV.undef = f (l.getD t TV.undef) := by
 simp only [List.getD_eq_getElem?_getD, List.getElem?_map]
 cases l[t]? <;> simp [hf]
/-- a state, behind its updates -/
theorem Ok.apply {G G' : Gh} {st : St} {a : Act} {us : List Upd} {F : Nat → Prop} (h : Ok G st a) (hF : ∀ n, st.Names n → ¬ F n)
 (s : Step (Us us) F (isK us) G G') (hu : UpdsOk G' us) : Ok G' (applyU us st) a := by
 refine ⟨h.env.step s, by rw [applyU_tmps, List.length_map]; exact h.size, fun t => ?_, fun r R hr => ?_, fun b cs hb => ?_⟩
 ·rw [applyU_tmps, getD_map_kill _ _ (by cases isK us <;> rfl)]
  refine TVV.stepB s (fun n hn => ?_) (h.tmps t)
  cases ht : st.tmps[t]? with
  | none => rw [List.getD_eq_getElem?_getD, ht] at hn; simp [TV.undef, TV.ids, V1.ids, C.ids] at hn
  | some v => rw [List.getD_eq_getElem?_getD, ht] at hn; exact hF n (.inl ⟨t, v, ht, hn⟩)
 ·by_cases hU : Us us (2 * r)
  ·rw [(aget_rows us st ⟨[], [], []⟩ r).1 hU] at hr; exact hu.1 r R hr
  ·rw [(aget_rows us st st r).2 hU] at hr
   exact (h.rows r R hr).step s hU (hF _ (.inr (.inl ⟨r, R, hr, .inl rfl⟩))) (fun n hn => hF n (.inr (.inl ⟨r, R, hr, .inr hn⟩)))
 ·by_cases hU : Us us (2 * b + 1)
  ·rw [(aget_boxes us st ⟨[], [], []⟩ b).1 hU] at hb; exact hu.2 b cs hb
  ·rw [(aget_boxes us st st b).2 hU] at hb
   cases hc : aget st.boxes b with
   | none => rw [hc] at hb; cases hb
   | some cs0 =>
    rw [hc] at hb
    cases hb
    exact (h.boxes b cs0 hc).stepB s hU (hF _ (.inr (.inr ⟨b, cs0, hc, .inl rfl⟩))) (fun c hc' n hn => hF n (.inr (.inr ⟨b, cs0, hc, .inr ⟨c, hc', hn⟩⟩)))
theorem Act.getD_put (a : Act) (d : Option Tmp) (v : Value) (t : Nat) :
 ((a.put d v).tmps.getD t undef = if d = some t ∧ t < a.tmps.size then v else a.tmps.getD t undef) := by
 cases d with
 | none => simp [Act.put]
 | some x =>
  simp only [Act.put, Array.getD_eq_getD_getElem?, Array.getElem?_setIfInBounds]
  by_cases hx : x = t
  ·subst hx
   by_cases hl : x < a.tmps.size
   ·simp [hl]
   ·simp [hl]
  ·simp [hx]
theorem Ok.put {G : Gh} {st : St} {a : Act} (h : Ok G st a) (d : Option Tmp) {v : TV} {val : Value} (hv : TVV G v val) : Ok G (putT d v st) (a.put d val) := by
 cases d with
 | none => exact h
 | some x =>
  refine ⟨h.env, by simp [putT, Act.put]; exact h.size, fun t => ?_, h.rows, h.boxes⟩
  rw [Act.getD_put]
  simp only [putT, List.getD_eq_getElem?_getD, List.getElem?_set]
  by_cases hx : x = t
  ·subst hx
   by_cases hl : x < a.tmps.size
   ·simp only [hl, and_self, if_true]; rw [if_pos (by rw [h.size]; exact hl)]; exact hv
   ·simp only [hl, and_false, if_false, if_true]; rw [if_neg (by rw [h.size]; exact hl)]
    have := h.tmps x
    rw [List.getD_eq_getElem?_getD, List.getElem?_eq_none (Nat.le_trans (Nat.le_of_eq h.size) (Nat.le_of_not_lt hl))] at this
    exact this
  ·rw [if_neg (show ¬ (some x = some t ∧ t < a.tmps.size) from fun h => hx (Option.some.inj h.1)), if_neg hx, ← List.getD_eq_getElem?_getD]; exact h.tmps t
end Go.Tv
set_option autoImplicit false
namespace Go.Tv
open Go
variable [Env]
/-- an operation, run in any world that the state tells of, gives the value and makes the updates -/
def ActOk (P : Program) (F : Nat → Prop) (o : Oper) (st : St) (v : TV) (us : List Upd) : Prop :=
 ∀ (G : Gh) (a : Act), Ok G st a → ∀ (next : Act → World → Prop) (Q : Exit → Act → World → Prop),
  (∀ G' val, Step (Us us) F (isK us) G G' → TVV G' v val → UpdsOk G' us → next (a.put o.dst val) G'.w) → o.wp P a G.w next Q
theorem UpdsOk.nil (G : Gh) : UpdsOk G [] := ⟨fun r R h => by simp [applyU, aget] at h, fun b cs h => by simp [applyU, aget] at h⟩
variable {P : Program}
theorem wp_value {o : Oper} {a : Act} {w w' : World} {val : Value} {next : Act → World → Prop} {Q : Exit → Act → World → Prop}
 (h : (execOp a.eval o).run P w = .ok (.value val) w') (hn : next (a.put o.dst val) w') : o.wp P a w next Q := by
 unfold Oper.wp; rw [h]; exact hn
theorem wp_skip' {o : Oper} {a : Act} {w w' : World} {next : Act → World → Prop} {Q : Exit → Act → World → Prop}
 (h : (execOp a.eval o).run P w = .ok .skip w') (hn : next (a.put o.dst undef) w') : o.wp P a w next Q := by
 unfold Oper.wp; rw [h]; exact hn
/-- nothing is turned -/
theorem ActOk.pure {F : Nat → Prop} {o : Oper} {st : St} {v : TV}
 (h : ∀ G a, Ok G st a → ∃ val, (execOp a.eval o).run P G.w = .ok (.value val) G.w ∧ TVV G v val) : ActOk P F o st v [] := by
 intro G a hG next Q hn
 obtain ⟨val, h1, h2⟩ := h G a hG
 exact wp_value h1 (hn G val (Step.refl _ _ _ _) h2 (UpdsOk.nil G))
/-! ### operands -/
theorem TVV.undef (G : Gh) : TVV G TV.undef Go.undef := ⟨_, rfl, rfl⟩
theorem TVV.dead (G : Gh) (v : Value) : TVV G TV.dead v := ⟨_, rfl, trivial⟩
theorem TVV.one {G : Gh} {c : C} {v : Value} (h : RV G c v) : TVV G (one c) v := ⟨_, rfl, h⟩
theorem ofConst_ok (G : Gh) (v : Value) : RV G (ofConst v) v := by
 unfold ofConst
 split <;> first | rfl | trivial
theorem ev_ok {G : Gh} {st : St} {a : Act} (h : Ok G st a) (x : Operand) : TVV G (ev st x) (a.eval x) := by
 cases x with
 | tmp t => exact h.tmps t
 | const v => exact TVV.one (ofConst_ok G v)
 | func f => exact TVV.one rfl
 | «global» g => exact TVV.dead G _
theorem ev1_ok {G : Gh} {st : St} {a : Act} (h : Ok G st a) (x : Operand) : RV G (ev1 st x) (a.eval x) := by
 have := ev_ok h x
 unfold ev1
 split
 ·rename_i c hc
  rw [hc] at this
  obtain ⟨c', h1, h2⟩ := this
  cases h1
  exact h2
 ·trivial
/-- a value of one cell -/
theorem ev_one {G : Gh} {st : St} {a : Act} (h : Ok G st a) {x : Operand} {c : C} (hx : ev st x = .v ⟨false, [c]⟩) : RV G c (a.eval x) := by
 have := ev_ok h x
 rw [hx] at this
 obtain ⟨c', h1, h2⟩ := this
 cases h1
 exact h2
theorem ev1_bool {G : Gh} {st : St} {a : Act} (h : Ok G st a) {x : Operand} {b : Bool} (hx : ev1 st x = .bool b) : a.eval x = .bool b := by
 have := ev1_ok h x; rw [hx] at this; exact this
theorem ev1_int {G : Gh} {st : St} {a : Act} (h : Ok G st a) {x : Operand} {k : IntKind} {n : Int} (hx : ev1 st x = .int k n) : a.eval x = .int k n := by
 have := ev1_ok h x; rw [hx] at this; exact this
section ops
variable {F : Nat → Prop} {o : Oper} {st : St}
theorem act_move {x : Operand} (ho : o.op = .move x ∨ o.op = .assign x) : ActOk P F o st (ev st x) [] :=
 .pure fun G a h => ⟨a.eval x, by unfold execOp; rcases ho with ho | ho <;> rw [ho] <;> rfl, ev_ok h x⟩
theorem act_pick {c x y : Operand} {t : Bool} (ho : o.op = .pick c x y) (hc : ev1 st c = .bool t) : ActOk P F o st (bif t then ev st x else ev st y) [] :=
 .pure fun G a h => ⟨if t then a.eval x else a.eval y, by
  unfold execOp
  rw [ho]
  simp [asBool, ev1_bool h hc], by cases t <;> exact ev_ok h _⟩
theorem act_nilCheck {x : Operand} {b i : Nat} (ho : o.op = .nilCheck x) (hx : ev1 st x = .bp b i) : ActOk P F o st (one (.bp b i)) [] :=
 .pure fun G a h => by
  have hv := ev1_ok h x
  rw [hx] at hv
  refine ⟨a.eval x, ?_, TVV.one hv⟩
  have hv : a.eval x = .pointer (some ⟨G.β b, i, none⟩) := hv
  unfold execOp
  rw [ho]
  simp [hv]
theorem act_unNot {x : Operand} {b : Bool} {t : TypeId} (ho : o.op = .unOp .not t x) (hx : ev1 st x = .bool b) : ActOk P F o st (one (.bool !b)) [] :=
 .pure fun G a h => ⟨.bool !b, by unfold execOp; rw [ho]; simp [Op.unary, ev1_bool h hx], TVV.one rfl⟩
theorem act_unNeg {x : Operand} {k : IntKind} {n : Int} {t : TypeId} (ho : o.op = .unOp .neg t x) (hx : ev1 st x = .int k n) : ActOk P F o st (one (.int k (k.wrap (0 - n)))) [] :=
 .pure fun G a h => ⟨.int k (k.wrap (0 - n)), by unfold execOp; rw [ho]; simp [Op.unary, Op.intArith, ev1_int h hx], TVV.one rfl⟩
theorem act_extract {x : Operand} {k : Nat} {vs : List V1} {v : V1} (ho : o.op = .extract x k) (hx : ev st x = .tp vs) (hv : vs[k]? = some v) : ActOk P F o st (.v v) [] :=
 .pure fun G a h => by
  have ht := ev_ok h x
  rw [hx] at ht
  obtain ⟨us, he, _, hu⟩ := ht
  obtain ⟨u, hu, hok⟩ := hu k v hv
  refine ⟨u, ?_, hok⟩
  unfold execOp
  rw [ho]
  simp [Instr.extract, he, hu]
/-- '+' and the like: ints -/
theorem arith_ok {op : BinOp} {k k' : IntKind} {x y : Int} {K : C → Option Res} {r : Res} (hk : (isShift op || decide (k = k')) = true)
 (h : arith op k x y K = some r) : ∃ c val, K c = some r ∧ (∀ G, RV G c val) ∧ ∀ w, (binOp op 0 (.int k x) (.int k' y)).run P w = .ok val w := by
 unfold arith at h
 cases op <;> simp only [isShift, Bool.true_or, Bool.false_or, decide_eq_true_eq] at hk <;> try subst hk
 all_goals first
  | exact ⟨_, _, h, fun G => rfl, fun w => by simp [binOp, Op.intArith, Op.intBits, Op.intCmp, arith.bits]⟩
  | (cases hd : decide (y = 0) with
   | true => rw [hd] at h; cases h
   | false => rw [hd] at h; simp only [decide_eq_false_iff_not] at hd; exact ⟨_, _, h, fun G => rfl, fun w => by simp [binOp, Op.intDiv, hd]⟩)
  | (cases hd : decide (y < 0) with
   | true => rw [hd] at h; cases h
   | false => rw [hd] at h; simp only [decide_eq_false_iff_not] at hd; exact ⟨_, _, h, fun G => rfl, fun w => by simp [binOp, Op.shift, hd]⟩)
  | cases h
theorem eqGuard_ok {op : BinOp} {t : TypeId} {x y : Operand} {a b : Value} {w : World} (h : (match a, b with | .nilIface, .nilIface => false | .agg _, .agg _ => false | _, _ => true) = true) :
 (eqGuard op t x y a b).run P w = .ok () w := by
 unfold eqGuard
 cases op <;> first | rfl | (cases a <;> cases b <;> first | rfl | cases h)
theorem binOp_int_ty (op : BinOp) (t t' : TypeId) (k k' : IntKind) (x y : Int) : binOp op t (.int k x) (.int k' y) = binOp op t' (.int k x) (.int k' y) := by
 cases op <;> rfl
theorem act_binInt {op : BinOp} {t t' : TypeId} {x y : Operand} {k k' : IntKind} {n m : Int} {K : C → Option Res} {r : Res} (ho : ∃ i, o.op = .binOp op t x y i)
 (hx : ev st x = .v ⟨false, [.int k n]⟩) (hy : ev st y = .v ⟨false, [.int k' m]⟩)
 (hk : (isShift op || decide (k = k')) = true) (h : arith op k n m K = some r) :
 ∃ c, K c = some r ∧ ActOk P F o st (one c) [] := by
 obtain ⟨c, val, h1, h2, h3⟩ := arith_ok (P := P) hk h
 refine ⟨c, h1, .pure fun G a hG => ⟨val, ?_, TVV.one (h2 G)⟩⟩
 have e1 : a.eval x = .int k n := ev_one hG hx
 have e2 : a.eval y = .int k' m := ev_one hG hy
 obtain ⟨i, ho⟩ := ho
 unfold execOp
 rw [ho]
 simp only [e1, e2, Sem.run_bind, eqGuard_ok (P := P) (w := G.w) (a := .int k n) (b := .int k' m) rfl, Result.andThen_ok, binOp_int_ty op t 0, h3, Sem.run_pure]
theorem act_binStr {op : BinOp} {t : TypeId} {x y : Operand} {s u : ByteArray} {K : C → Option Res} {r : Res} (ho : ∃ i, o.op = .binOp op t x y i)
 (hx : ev st x = .v ⟨false, [.str s]⟩) (hy : ev st y = .v ⟨false, [.str u]⟩) (h : strOp op s u K = some r) :
 ∃ c, K c = some r ∧ ActOk P F o st (one c) [] := by
 obtain ⟨i, ho⟩ := ho
 have key : ∃ c val, K c = some r ∧ (∀ G, RV G c val) ∧ ∀ w, (binOp op t (.string s) (.string u)).run P w = .ok val w := by
  unfold strOp at h
  split at h
  ·cases hd : decide (s.size + u.size ≤ 9223372036854775807) with
   | false => rw [hd] at h; cases h
   | true =>
    rw [hd] at h
    simp only [decide_eq_true_eq] at hd
    refine ⟨_, _, h, fun G => rfl, fun w => ?_⟩
    have : ¬ (((s.size + u.size : Nat) : Int) > IntKind.i64.max) := by
     have : IntKind.i64.max = 9223372036854775807 := by decide
     rw [this]; omega
    simp only [binOp, Op.stringOp]
    rw [if_neg this]
    rfl
  ·exact ⟨_, _, h, fun G => rfl, fun w => rfl⟩
  ·exact ⟨_, _, h, fun G => rfl, fun w => rfl⟩
  ·cases h
 obtain ⟨c, val, h1, h2, h3⟩ := key
 refine ⟨c, h1, .pure fun G a hG => ⟨val, ?_, TVV.one (h2 G)⟩⟩
 have e1 : a.eval x = .string s := ev_one hG hx
 have e2 : a.eval y = .string u := ev_one hG hy
 unfold execOp
 rw [ho]
 simp only [e1, e2, Sem.run_bind, eqGuard_ok (P := P) (w := G.w) (a := .string s) (b := .string u) rfl, Result.andThen_ok, h3, Sem.run_pure]
end ops
end Go.Tv
set_option autoImplicit false
namespace Go.Tv
open Go
variable [Env]
def Bt.zeroV : Bt → Value
 | .int k => .int k 0 | .bool => .bool false | .str => .string ByteArray.empty | .sl _ _ => .slice none 0 0 | .ptr => .pointer none | .fn => .nilFunc
def Ct.zeroV : Ct → Value
 | .int k => .int k 0 | .bool => .bool false | .str => .string ByteArray.empty | .ints _ => .slice none 0 0
def isAggD : TypeDesc → Bool | .struct _ => true | .array _ _ => true | _ => false
structure SlOk (P : Program) (t : TypeId) (e : List Ct) (eb : Nat) : Prop where
 pos : 0 < eb
 ok : ∃ el ie z, P.underlying t = some (.slice el) ∧ P.info? el = some ie ∧ ie.size = e.length ∧ ie.bytes = eb ∧ ie.zero = some z ∧ z.cells.toList = e.map Ct.zeroV ∧ e ≠ []
def BtOk (P : Program) (t : TypeId) : Bt → Prop
 | .int k => P.underlying t = some (.int k)
 | .bool => P.underlying t = some .bool
 | .str => P.underlying t = some .string
 | .sl e eb => SlOk P t e eb
 | .ptr => True
 | .fn => True
structure TIok (P : Program) (t : TypeId) (ti : TI) : Prop where
 info : ∃ i z, P.info? t = some i ∧ i.size = ti.cs.length ∧ i.zero = some z ∧ z.cells.toList = ti.cs.map Bt.zeroV
 desc : ∃ d, P.underlying t = some d ∧ isAggD d = ti.agg
 flat : ti.agg = false → ∃ b, ti.cs = [b] ∧ BtOk P t b
 flds : ti.agg = true → ∃ fs, P.underlying t = some (.struct fs) ∧ fs.size = ti.flds.length ∧ ∀ (k : Nat) (f : Field), fs[k]? = some f →
  ∃ fi d, P.info? f.type = some fi ∧ P.underlying f.type = some d ∧ ti.flds[k]? = some (f.offset, fi.size, isAggD d) ∧ fi.size ≠ 0 ∧ (isAggD d = false → fi.size = 1) ∧ f.offset + fi.size ≤ ti.cs.length
theorem Addr.add_none (g o n : Nat) : (⟨g, o, none⟩ : Addr).add n = ⟨g, o + n, none⟩ := by
 unfold Addr.add; split <;> simp_all
variable {P : Program} {G : Gh}
/-- a variable that is read, cell by cell -/
theorem run_loadVar {t : TypeId} {ti : TI} (h : TIok P t ti) {w : World} {g o : Nat} {vs : List Value} (hl : vs.length = ti.cs.length)
 (hc : ∀ j v, vs[j]? = some v → w.cell? ⟨g, o + j, none⟩ = some v) :
 (loadVar t ⟨g, o, none⟩).run P w = .ok (if ti.agg then .agg vs.toArray else vs.headD undef) w := by
 obtain ⟨i, z, hi, hs, _, _⟩ := h.info
 obtain ⟨d, hd, ha⟩ := h.desc
 have hagg : (isAgg t).run P w = .ok ti.agg w := by
  unfold isAgg
  rw [Sem.run_bind, run_underlying hd w, ← ha]
  cases d <;> simp [isAggD]
 cases hg : ti.agg with
 | true =>
  have hl2 : (loadCells ⟨g, o, none⟩ vs.length).run P w = .ok vs.toArray w :=
   run_loadCells_list (P := P) w ⟨g, o, none⟩ vs (fun j v hv => by rw [Addr.add_none]; exact hc j v hv)
  rw [hl, ← hs] at hl2
  rw [hg] at hagg
  simp [loadVar, Sem.run_bind, hagg, sizeOf, typeInfo, hi, hl2]
 | false =>
  obtain ⟨b, hb, _⟩ := h.flat hg
  rw [hb] at hl
  match vs, hl with
  | [v], _ =>
   have := hc 0 v rfl
   rw [Nat.add_zero] at this
   rw [hg] at hagg
   simp [loadVar, Sem.run_bind, hagg, this]
theorem V1V.mk {ti : TI} {t : TypeId} (h : TIok P t ti) {cs : List C} {vs : List Value} (hl : cs.length = ti.cs.length) (hv : RVs G cs vs) :
 V1V G ⟨ti.agg, cs⟩ (if ti.agg then .agg vs.toArray else vs.headD undef) := by
 unfold V1V
 cases hg : ti.agg with
 | true => exact ⟨vs, rfl, hv⟩
 | false =>
  obtain ⟨b, hb, _⟩ := h.flat hg
  rw [hb] at hl
  match cs, hl with
  | [c], _ =>
   obtain ⟨h1, h2⟩ := hv
   obtain ⟨v, hv, hr, _⟩ := h2 0 c rfl
   refine ⟨c, rfl, ?_⟩
   match vs, h1 with
   | [u], _ => cases hv; exact hr
theorem RVs.sub {cs : List C} {vs : List Value} (h : RVs G cs vs) (o n : Nat) : RVs G ((cs.drop o).take n) ((vs.drop o).take n) := by
 obtain ⟨h1, h2⟩ := h
 refine ⟨by simp [h1], fun j c hc => ?_⟩
 rw [List.getElem?_take] at hc
 split at hc
 ·rename_i hj
  rw [List.getElem?_drop] at hc
  obtain ⟨v, hv, hr, ho⟩ := h2 _ c hc
  refine ⟨v, ?_, hr, ho⟩
  rw [List.getElem?_take, if_pos hj, List.getElem?_drop]
  exact hv
 ·cases hc
theorem ofCl_ok {x : Nat} {N : IntKind → List Int → Value → Prop} (hN : ∀ k xs v, N k xs v → IntsV G x k xs v) {t : Ct} {c : Cl} {v : Value} (h : CellV N t c v) :
 RV G (ofCl x t c) v ∧ v.oneCell' = true := by
 cases t <;> cases c <;> simp only [CellV] at h
 ·subst h; exact ⟨rfl, rfl⟩
 ·subst h; exact ⟨rfl, rfl⟩
 ·subst h; exact ⟨rfl, rfl⟩
 ·rename_i k xs
  have h' := hN _ _ _ h
  clear h
  refine ⟨?_, h'.oneCell⟩
  obtain ⟨A, cap, rfl, hcap, h''⟩ := h'
  refine ⟨A, cap, rfl, ⟨rfl, hcap⟩, ?_⟩
  rcases h'' with rfl | ⟨g, o, rfl, hl, hc⟩
  ·exact .inl rfl
  ·refine .inr ⟨g, o, rfl, hl, ?_⟩
   intro i j t hi hj
   have hi : i < xs.length := hi
   cases j with
   | succ j => simp at hj
   | zero =>
    simp only [List.getElem?_cons_zero, Option.some.injEq] at hj
    subst hj
    have hx : xs[i]? = some (xs[i]) := List.getElem?_eq_getElem hi
    refine ⟨.int k xs[i], .i xs[i], ?_, ?_, rfl⟩
    ·have := hc i _ hx
     simpa using this
    ·show ([Cl.i ((xs).getD i 0)])[0]? = _
     simp [List.getD_eq_getElem?_getD, hx]
theorem ofCls_len (x : Nat) (l : List Cl) : ∀ (ts : List Ct) (j : Nat), (ofCls x l ts j).length = ts.length
 | [], _ => rfl
 | t :: ts, j => by simp [ofCls, ofCls_len x l ts (j + 1)]
theorem ofCls_get (x : Nat) (l : List Cl) : ∀ (ts : List Ct) (j k : Nat), (ofCls x l ts j)[k]? = (ts[k]?).map fun t => ofCl x t (l.getD (j + k) (.i 0))
 | [], _, _ => rfl
 | t :: ts, j, 0 => rfl
 | t :: ts, j, k + 1 => by
  simp only [ofCls, List.getElem?_cons_succ]
  rw [ofCls_get x l ts (j + 1) k]
  have : j + 1 + k = j + (k + 1) := by omega
  rw [this]
/-- an element's cells, from one on -/
theorem ofCls_ok {x : Nat} {N : Nat → IntKind → List Int → Value → Prop} (hN : ∀ j k xs v, N j k xs v → IntsV G x k xs v) {e : List Ct} {l : List Cl} {f : Nat → Option Value} {o n : Nat}
 (hn : o + n ≤ e.length) (h : ∀ j t, e[j]? = some t → ∃ v c, f j = some v ∧ l[j]? = some c ∧ CellV (N j) t c v) :
 ∃ vs : List Value, vs.length = n ∧ (∀ j v, vs[j]? = some v → f (o + j) = some v) ∧ RVs G (ofCls x l ((e.drop o).take n) o) vs := by
 refine ⟨(List.range n).map fun j => (f (o + j)).getD undef, by simp, ?_, ?_, ?_⟩
 ·intro j v hv
  rw [List.getElem?_map] at hv
  by_cases hj : j < n
  ·rw [List.getElem?_range hj] at hv
   have ht : e[o + j]? = some (e[o + j]'(by omega)) := List.getElem?_eq_getElem (by omega)
   obtain ⟨u, c, h1, _, _⟩ := h (o + j) _ ht
   simp only [Option.map_some, h1, Option.getD_some, Option.some.injEq] at hv
   rw [h1, hv]
  ·rw [List.getElem?_eq_none (by simpa using hj)] at hv
   cases hv
 ·rw [ofCls_len]; simp; omega
 ·intro j c hc
  rw [ofCls_get] at hc
  by_cases hj : j < n
  ·rw [List.getElem?_take, if_pos hj, List.getElem?_drop] at hc
   have ht : e[o + j]? = some (e[o + j]'(by omega)) := List.getElem?_eq_getElem (by omega)
   rw [ht] at hc
   cases hc
   obtain ⟨u, c, h1, h2, h3⟩ := h (o + j) _ ht
   refine ⟨u, ?_, ?_⟩
   ·rw [List.getElem?_map, List.getElem?_range hj]; simp [h1]
   ·have : l.getD (o + j) (.i 0) = c := by rw [List.getD_eq_getElem?_getD, h2]; rfl
    rw [this]
    exact ofCl_ok (hN _) h3
  ·rw [List.getElem?_take, if_neg hj] at hc
   cases hc
section acts
variable {F : Nat → Prop} {o : Oper} {st : St}
theorem ble_le {a b : Nat} : Nat.ble a b = true → a ≤ b := Nat.le_of_ble_eq_true
/-- what loadC tells is what is loaded -/
theorem loadC_ok {a : Act} (h : Ok G st a) {t : TypeId} {ti : TI} (hti : TIok P t ti) {c : C} {v : V1} {val : Value} (hc : RV G c val) (hl : loadC st ti c = some v) :
 ∃ addr u, val = .pointer (some addr) ∧ (loadVar t addr).run P G.w = .ok u G.w ∧ V1V G v u := by
 unfold loadC at hl
 split at hl
 ·rename_i b p
  split at hl
  ·rename_i cs hb
   cases hle : Nat.ble (p + ti.cs.length) cs.length with
   | false => rw [hle] at hl; cases hl
   | true =>
    rw [hle] at hl
    cases hl
    have hle := ble_le hle
    obtain ⟨hw, cur, te, hh, hr⟩ := h.boxes b cs hb
    refine ⟨_, _, hc, run_loadVar hti (vs := (cur.drop p).take ti.cs.length) ?_ ?_, V1V.mk hti ?_ (hr.sub p ti.cs.length)⟩
    ·have := hr.1; simp; omega
    ·intro j u hu
     rw [cell_of_row _ _ _ _ _ _ hh]
     rw [List.getElem?_take] at hu
     split at hu
     ·rw [List.getElem?_drop] at hu; simpa using hu
     ·cases hu
    ·simp; omega
  ·cases hl
 ·rename_i r i p
  split at hl
  ·rename_i R hR
   cases hle : (Nat.ble R.live 1 && Nat.ble (p + ti.cs.length) R.e.length) with
   | false => rw [hle] at hl; cases hl
   | true =>
    rw [hle] at hl
    cases hl
    rw [Bool.and_eq_true] at hle
    obtain ⟨hlv, hle⟩ := hle
    have hle := ble_le hle
    obtain ⟨g, hg, hi, rfl⟩ := hc
    obtain ⟨h1, h2, h3, h4, h5, h6, h7⟩ := h.rows r R hR
    obtain ⟨cells, hb, he⟩ := h6 (ble_le hlv)
    obtain ⟨vs, hv1, hv2, hv3⟩ := ofCls_ok (G := G) (x := bif R.eu then 1 else 2) (N := NN G r R.eu i) (fun j k xs v => NN.ints) (e := R.e) (l := R.q.get i)
     (f := fun n => cells[i * R.e.length + n]?) (o := p) (n := ti.cs.length) hle (fun j t hj => he i j t (by omega) hj)
    refine ⟨_, _, rfl, run_loadVar hti hv1 ?_, V1V.mk hti ?_ hv3⟩
    ·intro j u hu
     have := hv2 j u hu
     rw [h2]
     have e : i * R.e.length + p + j = i * R.e.length + (p + j) := by omega
     rw [e]
     exact hb.cell hg this
    ·rw [ofCls_len]; simp; omega
  ·cases hl
 ·rename_i y e q i p
  cases hle : Nat.ble (p + ti.cs.length) e.length with
  | false => rw [hle] at hl; cases hl
  | true =>
   rw [hle] at hl
   cases hl
   have hle := ble_le hle
   obtain ⟨g, b, x, rfl, hlv, hi, hf, he⟩ := hc
   obtain ⟨vs, hv1, hv2, hv3⟩ := ofCls_ok (G := G) (x := y) (N := fun _ => IntsV G y) (fun j k xs v h => h) (e := e) (l := q.get i)
    (f := fun n => G.w.cell? ⟨g, b + n, none⟩) (o := p) (n := ti.cs.length) hle he
   refine ⟨_, _, rfl, run_loadVar hti hv1 ?_, V1V.mk hti ?_ hv3⟩
   ·intro j u hu
    have e : b + p + j = b + (p + j) := by omega
    rw [e]
    exact hv2 j u hu
   ·rw [ofCls_len]; simp; omega
 ·cases hl
theorem act_load {t : TypeId} {ti : TI} {p : Operand} {v : V1} (ho : o.op = .load t p) (hti : TIok P t ti) (h : loadC st ti (ev1 st p) = some v) : ActOk P F o st (.v v) [] :=
 .pure fun G a hG => by
  obtain ⟨addr, u, e1, e2, e3⟩ := loadC_ok hG hti (ev1_ok hG p) h
  refine ⟨u, ?_, e3⟩
  unfold execOp
  rw [ho]
  simp [Instr.loadAt, Instr.sureAddr, e1, e2]
theorem fieldP_ok {c : C} {val : Value} {n : Nat} (hc : RV G c val) (hp : (fieldP n c).isPl = true) :
 ∃ g b, val = .pointer (some ⟨g, b, none⟩) ∧ RV G (fieldP n c) (.pointer (some ⟨g, b + n, none⟩)) := by
 cases c <;> simp only [fieldP, C.isPl] at hp ⊢
 all_goals first | cases hp | skip
 ·exact ⟨_, _, hc, rfl⟩
 ·obtain ⟨g, hg, hi, rfl⟩ := hc
  exact ⟨_, _, rfl, g, hg, hi, by rw [Nat.add_assoc]⟩
 ·obtain ⟨g, b, x, rfl, hc⟩ := hc
  exact ⟨_, _, rfl, g, b, x, by rw [Nat.add_assoc], hc⟩
theorem act_fieldAddr {t : TypeId} {ti : TI} {x : Operand} {f : Nat} {fl : Nat × Nat × Bool} (ho : o.op = .fieldAddr t x f) (hti : TIok P t ti) (hag : ti.agg = true) (hf : ti.flds[f]? = some fl)
 (hp : (fieldP fl.1 (ev1 st x)).isPl = true) : ActOk P F o st (one (fieldP fl.1 (ev1 st x))) [] :=
 .pure fun G a hG => by
  obtain ⟨g, b, e1, e2⟩ := fieldP_ok (ev1_ok hG x) hp
  refine ⟨_, ?_, TVV.one e2⟩
  obtain ⟨fs, hu, hs, hfs⟩ := hti.flds hag
  have hlt : f < fs.size := by rw [hs]; exact (List.getElem?_eq_some_iff.1 hf).1
  obtain ⟨fi, d, h1, h2, h3, h4, _⟩ := hfs f fs[f] (Array.getElem?_eq_getElem hlt)
  rw [hf] at h3
  cases h3
  have hsz : (sizeOf fs[f].type).run P G.w = .ok fi.size G.w := by simp [sizeOf, typeInfo, h1]
  unfold execOp
  rw [ho]
  simp [Instr.fieldAt, run_underlying hu, Array.getElem?_eq_getElem hlt, Instr.sureAddr, e1, fieldPlace, hsz, h4, Addr.add_none]
theorem act_field {t : TypeId} {ti : TI} {x : Operand} {f : Nat} {fl : Nat × Nat × Bool} {v : V1} (ho : o.op = .field t x f) (hti : TIok P t ti) (hx : ev st x = .v v) (hag : ti.agg = true) (hva : v.agg = true)
 (hl : v.cs.length = ti.cs.length) (hf : ti.flds[f]? = some fl) : ActOk P F o st (.v (field1 v.cs fl)) [] :=
 .pure fun G a hG => by
  have hv := ev_ok hG x
  rw [hx] at hv
  have hv : V1V G v (a.eval x) := hv
  unfold V1V at hv
  rw [hva] at hv
  obtain ⟨vs, e1, hvs⟩ := hv
  obtain ⟨fs, hu, hs, hfs⟩ := hti.flds hag
  have hlt : f < fs.size := by rw [hs]; exact (List.getElem?_eq_some_iff.1 hf).1
  obtain ⟨fi, d, h1, h2, h3, h4, h5, h6⟩ := hfs f fs[f] (Array.getElem?_eq_getElem hlt)
  rw [hf] at h3
  cases h3
  have hsz : (sizeOf fs[f].type).run P G.w = .ok fi.size G.w := by simp [sizeOf, typeInfo, h1]
  have hag2 : (isAgg fs[f].type).run P G.w = .ok (isAggD d) G.w := by
   unfold isAgg
   rw [Sem.run_bind, run_underlying h2 G.w]
   cases d <;> simp [isAggD]
  have hsub := hvs.sub fs[f].offset fi.size
  cases hd : isAggD d with
  | true =>
   refine ⟨.agg ((vs.drop fs[f].offset).take fi.size).toArray, ?_, ?_⟩
   ·unfold execOp
    rw [ho]
    simp [Instr.field, run_underlying hu, Array.getElem?_eq_getElem hlt, part, hag2, hsz, hd, e1, asAgg, List.drop_take]
   ·exact ⟨_, rfl, hsub⟩
  | false =>
   have h1s := h5 hd
   rw [h1s] at h6 hsub
   have hlv : fs[f].offset < vs.length := by have := hvs.1; omega
   refine ⟨vs[fs[f].offset], ?_, ?_⟩
   ·unfold execOp
    rw [ho]
    simp [Instr.field, run_underlying hu, Array.getElem?_eq_getElem hlt, part, hag2, hd, e1, asAgg, hlv]
   ·have hlc : fs[f].offset < v.cs.length := by have := hvs.1; omega
    obtain ⟨u, hu', hr, _⟩ := hvs.2 fs[f].offset _ (List.getElem?_eq_getElem hlc)
    refine ⟨v.cs[fs[f].offset], ?_, ?_⟩
    ·simp [field1, h1s, List.take_one, List.head?_drop, List.getElem?_eq_getElem hlc]
    ·rw [List.getElem?_eq_getElem hlv] at hu'
     cases hu'
     exact hr
end acts
end Go.Tv
set_option autoImplicit false
namespace Go.Tv
open Go
variable [Env]
variable {P : Program} {G : Gh} {X : Ctx} {F : Nat → Prop} {o : Oper} {st : St}
def ΓOk (P : Program) (X : Ctx) : Prop := ∀ t ti, aget X.Γ t = some ti → TIok P t ti
theorem slSz_ok (h : ΓOk P X) {t : TypeId} {n : Nat} (hs : slSz X t = some n) : ∃ e eb, SlOk P t e eb ∧ e.length = n := by
 unfold slSz at hs
 split at hs
 ·rename_i e eb fl hg
  cases hs
  obtain ⟨b, hb, hok⟩ := (h t _ hg).flat rfl
  cases hb
  exact ⟨e, eb, hok, rfl⟩
 ·cases hs
theorem isStr_ok (h : ΓOk P X) {t : TypeId} (hs : isStr X t = true) : P.underlying t = some .string := by
 unfold isStr at hs
 split at hs
 ·rename_i fl hg
  obtain ⟨b, hb, hok⟩ := (h t _ hg).flat rfl
  cases hb
  exact hok
 ·cases hs
theorem isBt_ok (h : ΓOk P X) {t : TypeId} (hs : isBt X t = true) : P.underlying t = some .bool := by
 unfold isBt at hs
 split at hs
 ·rename_i fl hg
  obtain ⟨b, hb, hok⟩ := (h t _ hg).flat rfl
  cases hb
  exact hok
 ·cases hs
theorem isSl_ok (h : ΓOk P X) {t : TypeId} (hs : isSl X t = true) : ∃ el, P.underlying t = some (.slice el) := by
 unfold isSl at hs
 split at hs
 ·rename_i fl hg
  obtain ⟨b, hb, hok⟩ := (h t _ hg).flat rfl
  cases hb
  obtain ⟨el, _, _, h1, _⟩ := hok.ok
  exact ⟨el, h1⟩
 ·cases hs
/-- how many cells an element has -/
def szC (G : Gh) : C → Nat
 | .tr _ _ e _ => e.length | .ow r => (G.κ r).sz | .os r _ _ => (G.κ r).sz | _ => 0
def isStrC : C → Bool | .str _ => true | _ => false
def isNilC : C → Bool | .nil => true | _ => false
theorem szOk_ok (h : ΓOk P X) {a : Act} (hG : Ok G st a) {t : TypeId} {c : C} (hs : szOk X st t c = true) :
 (isStrC c = true ∧ P.underlying t = some .string) ∨ (isStrC c = false ∧ ∃ e eb, SlOk P t e eb ∧ (isNilC c = true ∨ e.length = szC G c)) := by
 unfold szOk at hs
 split at hs
 ·exact .inl ⟨rfl, isStr_ok h hs⟩
 ·right
  refine ⟨rfl, ?_⟩
  cases hn : slSz X t with
  | none => rw [hn] at hs; cases hs
  | some n => obtain ⟨e, eb, h1, _⟩ := slSz_ok h hn; exact ⟨e, eb, h1, .inl rfl⟩
 ·right
  refine ⟨rfl, ?_⟩
  split at hs
  ·rename_i n hn
   obtain ⟨e, eb, h1, h2⟩ := slSz_ok h hn
   exact ⟨e, eb, h1, .inr (h2.trans (Nat.eq_of_beq_eq_true hs))⟩
  ·cases hs
 ·right
  refine ⟨rfl, ?_⟩
  split at hs
  ·rename_i n R hn hr
   obtain ⟨e, eb, h1, h2⟩ := slSz_ok h hn
   exact ⟨e, eb, h1, .inr (h2.trans ((Nat.eq_of_beq_eq_true hs).trans (hG.rows _ _ hr).2.1.symm))⟩
  ·cases hs
 ·right
  refine ⟨rfl, ?_⟩
  split at hs
  ·rename_i n R hn hr
   obtain ⟨e, eb, h1, h2⟩ := slSz_ok h hn
   exact ⟨e, eb, h1, .inr (h2.trans ((Nat.eq_of_beq_eq_true hs).trans (hG.rows _ _ hr).2.1.symm))⟩
  ·cases hs
 ·cases hs
/-- a length that is told is the value's -/
theorem lenC_ok {a : Act} (hG : Ok G st a) {c : C} {n : Nat} {v : Value} (hl : lenC st c = some n) (hc : RV G c v) :
 (∃ s : ByteArray, c = .str s ∧ v = .string s ∧ s.size = n) ∨ (isStrC c = false ∧ ∃ A cap, v = .slice A n cap) := by
 cases c with
 | str s => cases hl; exact .inl ⟨_, rfl, hc, rfl⟩
 | nil => cases hl; exact .inr ⟨rfl, _, _, hc⟩
 | tr x y e q => cases hl; obtain ⟨A, cap, rfl, _⟩ := hc; exact .inr ⟨rfl, _, _, rfl⟩
 | ow r =>
  simp only [lenC] at hl
  cases hR : aget st.rows r with
  | none => rw [hR] at hl; cases hl
  | some R =>
   rw [hR] at hl
   cases hl
   have hc : v = (G.κ r).val := hc
   refine .inr ⟨rfl, (G.κ r).addr 0, (G.κ r).cap, ?_⟩
   rw [hc, Hd.val, (hG.rows r R hR).1]
 | os r o n => cases hl; obtain ⟨A, cp, rfl, _⟩ := hc; exact .inr ⟨rfl, _, _, rfl⟩
 | _ => cases hl
theorem run_len {t : TypeId} {ty : TypeId} {c : C} {v : Value} {n : Nat} {w : World}
 (h1 : (isStrC c = true ∧ P.underlying t = some .string) ∨ (isStrC c = false ∧ ∃ e eb, SlOk P t e eb ∧ (isNilC c = true ∨ e.length = szC G c)))
 (h2 : (∃ s : ByteArray, c = .str s ∧ v = .string s ∧ s.size = n) ∨ (isStrC c = false ∧ ∃ A cap, v = .slice A n cap)) :
 (Builtin.len_ #[t] ty #[v]).run P w = .ok (goInt n) w := by
 rcases h2 with ⟨s, rfl, rfl, rfl⟩ | ⟨hs, A, cap, rfl⟩
 ·rcases h1 with ⟨_, hu⟩ | ⟨h, _⟩
  ·simp [Builtin.len_, run_underlying hu]
  ·cases h
 ·rcases h1 with ⟨h, _⟩ | ⟨_, e, eb, hsl, _⟩
  ·rw [h] at hs; cases hs
  ·obtain ⟨el, ie, z, hu, _⟩ := hsl.ok
   simp [Builtin.len_, run_underlying hu]
theorem act_len (hΓ : ΓOk P X) {x : Operand} {t : TypeId} {n : Nat} {cl : Call} (ho : o.op = .call cl) (hb : cl.callee = .builtin .len) (ha : cl.args.toList = [x]) (ht : cl.argTypes.toList = [t])
 (hl : lenC st (ev1 st x) = some n) (hs : szOk X st t (ev1 st x) = true) : ActOk P F o st (one (.int .i64 n)) [] :=
 .pure fun G a hG => by
  refine ⟨goInt n, ?_, TVV.one rfl⟩
  have h1 := szOk_ok hΓ hG hs
  have h2 := lenC_ok hG hl (ev1_ok hG x)
  have ea : cl.args = #[x] := by rw [← Array.toArray_toList (xs := cl.args), ha]
  have et : cl.argTypes = #[t] := by rw [← Array.toArray_toList (xs := cl.argTypes), ht]
  unfold execOp
  rw [ho]
  simp [resolve, hb, ea, et, invoke, builtin, run_len (P := P) (ty := o.type) (w := G.w) h1 h2]
theorem act_cap (hΓ : ΓOk P X) {x : Operand} {t : TypeId} {cl : Call} (ho : o.op = .call cl) (hb : cl.callee = .builtin .cap) (ha : cl.args.toList = [x]) (ht : cl.argTypes.toList = [t])
 (hx : ev1 st x = .nil) (hs : isSl X t = true) : ActOk P F o st (one (.int .i64 0)) [] :=
 .pure fun G a hG => by
  refine ⟨goInt 0, ?_, TVV.one rfl⟩
  have hv : a.eval x = .slice none 0 0 := by have := ev1_ok hG x; rw [hx] at this; exact this
  have hu : ∃ el, P.underlying t = some (.slice el) := by
   unfold isSl at hs
   split at hs
   ·rename_i e eb fl h
    obtain ⟨b, hb', hok⟩ := (hΓ t _ h).flat rfl
    cases hb'
    obtain ⟨el, _, _, hu, _⟩ := hok.ok
    exact ⟨el, hu⟩
   ·cases hs
  obtain ⟨el, hu⟩ := hu
  have ea : cl.args = #[x] := by rw [← Array.toArray_toList (xs := cl.args), ha]
  have et : cl.argTypes = #[t] := by rw [← Array.toArray_toList (xs := cl.argTypes), ht]
  unfold execOp
  rw [ho]
  simp [resolve, hb, ea, et, invoke, builtin, Builtin.cap_, run_underlying hu, hv]
/-! ### places in slices -/
theorem indexP_ok (hΓ : ΓOk P X) {a : Act} (hG : Ok G st a) {t : TypeId} {c : C} {v : Value} {i : Int} {kd : IntKind} {K : TV → List Upd → Option Res} {r : Res}
 (hs : szOk X st t c = true) (hc : RV G c v) (h : indexP st c i K = some r) :
 ∃ c', K (one c') [] = some r ∧ ∃ u, (Instr.indexAt t v (.int kd i)).run P G.w = .ok u G.w ∧ RV G c' u := by
 unfold indexP at h
 cases hl : lenC st c with
 | none => rw [hl] at h; cases h
 | some n =>
  rw [hl] at h
  simp only at h
  cases hd : (decide (0 ≤ i) && decide (i < (n : Int))) with
  | false => rw [hd] at h; cases h
  | true =>
   rw [hd] at h
   simp only [Bool.and_eq_true, decide_eq_true_eq, cond_true] at hd h
   obtain ⟨h0, h1⟩ := hd
   have hlen := lenC_ok hG hl hc
   have hsz := szOk_ok hΓ hG hs
   have hidx : i.toNat < n := by omega
   have key : ∀ (g b cap : Nat) (e : List Ct) (eb : Nat), SlOk P t e eb → (Instr.indexAt t (.slice (some ⟨g, b, none⟩) n cap) (.int kd i)).run P G.w = .ok (.pointer (some ⟨g, b + i.toNat * e.length, none⟩)) G.w := by
    intro g b cap e eb hsl
    obtain ⟨el, ie, z, hu, hi, hie, _⟩ := hsl.ok
    have hsz : (sizeOf el).run P G.w = .ok e.length G.w := by simp [sizeOf, typeInfo, hi, hie]
    simp [Instr.indexAt, asIntOf, run_underlying hu, h0, h1, hsz, Addr.add_none]
   cases c with
   | tr x y e q =>
    refine ⟨_, h, ?_⟩
    rcases hsz with ⟨h, _⟩ | ⟨_, e', eb, hsl, he⟩
    ·cases h
    ·rcases he with he | he
     ·cases he
     ·have he : e'.length = e.length := he
      cases hl
      obtain ⟨A, cap, rfl, hf, hq⟩ := hc
      rcases hq with hq | ⟨g, b, rfl, hlv, hq⟩
      ·omega
      ·refine ⟨_, key g b cap e' eb hsl, g, b + i.toNat * e'.length, x, rfl, hlv, hidx, hf.1, ?_⟩
       intro j t hj
       obtain ⟨u, cl, e1, e2, e3⟩ := hq i.toNat j t hidx hj
       refine ⟨u, cl, ?_, e2, e3⟩
       rw [he, Nat.add_assoc]
       exact e1
   | ow r =>
    refine ⟨_, h, ?_⟩
    rcases hsz with ⟨h, _⟩ | ⟨_, e', eb, hsl, he⟩
    ·cases h
    ·rcases he with he | he
     ·cases he
     ·have he : e'.length = (G.κ r).sz := he
      simp only [lenC] at hl
      cases hR : aget st.rows r with
      | none => rw [hR] at hl; cases hl
      | some R =>
       rw [hR] at hl
       cases hl
       obtain ⟨r1, r2, r3, r4, r5, _⟩ := hG.rows r R hR
       have hc : v = (G.κ r).val := hc
       cases hg : (G.κ r).g with
       | none => have := r4 hg; omega
       | some g =>
        have e1 : v = .slice (some ⟨g, 0, none⟩) R.q.len (G.κ r).cap := by rw [hc, Hd.val, Hd.addr, hg, r1]; rfl
        rw [e1]
        refine ⟨_, key g 0 _ e' eb hsl, g, hg, by omega, ?_⟩
        rw [he]
        simp
   | os r b n' =>
    refine ⟨_, h, ?_⟩
    rcases hsz with ⟨h, _⟩ | ⟨_, e', eb, hsl, he⟩
    ·cases h
    ·rcases he with he | he
     ·cases he
     ·have he : e'.length = (G.κ r).sz := he
      cases hl
      obtain ⟨A, cap, rfl, ⟨hle, _⟩, hA, _⟩ := hc
      unfold szOk at hs
      simp only at hs
      split at hs
      ·rename_i m R hm hR
       obtain ⟨r1, r2, r3, r4, r5, _⟩ := hG.rows r R hR
       rcases hA with hA | ⟨g, hg, e1⟩
       ·omega
       ·rw [e1]
        refine ⟨_, key g _ _ e' eb hsl, g, hg, by omega, ?_⟩
        rw [he, Nat.add_mul]
        rfl
      ·cases hs
   | _ => cases h
theorem act_indexAddr (hΓ : ΓOk P X) {t : TypeId} {x i : Operand} {k : IntKind} {n : Int} {K : TV → List Upd → Option Res} {r : Res} (ho : o.op = .indexAddr t x i)
 (hi : ev1 st i = .int k n) (hs : szOk X st t (ev1 st x) = true) (h : indexP st (ev1 st x) n K = some r) :
 ∃ v us, K v us = some r ∧ ActOk P F o st v us := by
 -- the place is the same in every world
 have hex : ∀ (K' : TV → List Upd → Option Res) r', indexP st (ev1 st x) n K' = some r' → ∃ c', K' (one c') [] = some r' ∧ ∀ (K'' : TV → List Upd → Option Res) , indexP st (ev1 st x) n K'' = K'' (one c') [] := by
  intro K' r' h
  unfold indexP at h ⊢
  cases hl : lenC st (ev1 st x) with
  | none => rw [hl] at h; cases h
  | some m =>
   rw [hl] at h
   simp only at h ⊢
   cases hd : (decide (0 ≤ n) && decide (n < (m : Int))) with
   | false => rw [hd] at h; cases h
   | true =>
    rw [hd] at h
    simp only [cond_true] at h ⊢
    cases hx : ev1 st x <;> rw [hx] at h <;> first | exact ⟨_, h, fun _ => rfl⟩ | cases h
 obtain ⟨c', h1, h2⟩ := hex K r h
 refine ⟨one c', [], h1, .pure fun G a hG => ?_⟩
 obtain ⟨c'', e1, u, e2, e3⟩ := indexP_ok (P := P) (X := X) (kd := k) (K := fun v us => some ⟨[match v with | .v x => x | _ => ⟨false, []⟩], [], [], [], []⟩) hΓ hG hs (ev1_ok hG x) (h2 _)
 have : c'' = c' := by
  simp only [one, Option.some.injEq, Res.mk.injEq, List.cons.injEq, V1.mk.injEq, and_true, true_and] at e1
  exact e1
 subst this
 refine ⟨u, ?_, TVV.one e3⟩
 unfold execOp
 rw [ho]
 simp [ev1_int hG hi, e2]
end Go.Tv
set_option autoImplicit false
namespace Go.Tv
open Go
variable [Env]
variable {P : Program} {G : Gh} {X : Ctx} {F : Nat → Prop} {o : Oper} {st : St}
theorem act_binBool (hΓ : ΓOk P X) {op : BinOp} {t : TypeId} {x y : Operand} {s u b : Bool} (ho : ∃ i, o.op = .binOp op t x y i)
 (hx : ev st x = .v ⟨false, [.bool s]⟩) (hy : ev st y = .v ⟨false, [.bool u]⟩) (ht : isBt X t = true) (hb : (op = .eql ∧ b = (s == u)) ∨ (op = .neq ∧ b = (s != u))) :
 ActOk P F o st (one (.bool b)) [] :=
 .pure fun G a hG => by
  obtain ⟨i, ho⟩ := ho
  have e1 : a.eval x = .bool s := ev_one hG hx
  have e2 : a.eval y = .bool u := ev_one hG hy
  have hu := isBt_ok hΓ ht
  refine ⟨.bool b, ?_, TVV.one rfl⟩
  unfold execOp
  rw [ho]
  rcases hb with ⟨rfl, rfl⟩ | ⟨rfl, rfl⟩ <;>
   simp [e1, e2, eqGuard_ok (P := P) (w := G.w) (a := .bool s) (b := .bool u) rfl, binOp, Op.equal, Op.maxDepth, run_equalIn_bool, hu, bne]
theorem isNil_ok {a : Act} (hG : Ok G st a) {c : C} {b : Bool} {v : Value} (hn : isNil st c = some b) (hc : RV G c v) : ∃ A n cap, v = .slice A n cap ∧ b = A.isNone := by
 cases c with
 | nil => cases hn; exact ⟨_, _, _, hc, rfl⟩
 | str s => cases hn
 | tr x y e q =>
  simp only [isNil, lenC] at hn
  cases hd : decide (0 < q.len) with
  | false => rw [hd] at hn; cases hn
  | true =>
   rw [hd] at hn
   cases hn
   simp only [decide_eq_true_eq] at hd
   obtain ⟨A, cap, rfl, _, h⟩ := hc
   rcases h with h | ⟨g, o, rfl, _⟩
   ·omega
   ·exact ⟨_, _, _, rfl, rfl⟩
 | ow r =>
  simp only [isNil, lenC] at hn
  cases hR : aget st.rows r with
  | none => rw [hR] at hn; cases hn
  | some R =>
   rw [hR] at hn
   simp only at hn
   cases hd : decide (0 < R.q.len) with
   | false => rw [hd] at hn; cases hn
   | true =>
    rw [hd] at hn
    cases hn
    simp only [decide_eq_true_eq] at hd
    obtain ⟨r1, r2, r3, r4, r5, _⟩ := hG.rows r R hR
    have hc : v = (G.κ r).val := hc
    cases hg : (G.κ r).g with
    | none => have := r4 hg; omega
    | some g => exact ⟨_, _, _, hc, by simp [Hd.addr, hg]⟩
 | os r b n =>
  simp only [isNil, lenC] at hn
  cases hd : decide (0 < n) with
  | false => rw [hd] at hn; cases hn
  | true =>
   rw [hd] at hn
   cases hn
   simp only [decide_eq_true_eq] at hd
   obtain ⟨A, cap, rfl, ⟨hle, _⟩, hA, _⟩ := hc
   cases A with
   | some A => exact ⟨_, _, _, rfl, rfl⟩
   | none =>
    exfalso
    rcases hA with hA | ⟨g, hg, hA⟩
    ·omega
    ·cases hA
 | _ => cases hn
theorem run_equal_nil {t el : TypeId} (hu : P.underlying t = some (.slice el)) (A : Option Addr) (n cap : Nat) (w : World) :
 (Op.equal t (.slice A n cap) (.slice none 0 0)).run P w = .ok A.isNone w := by
 have : ∀ d, (Op.equalIn (d + 1) t (.slice A n cap) (.slice none 0 0)).run P w = .ok A.isNone w := by
  intro d
  cases A <;> simp only [Op.equalIn, Sem.run_bind, run_underlying hu, Result.andThen_ok, Sem.run_pure] <;> rfl
 exact this 9999
theorem act_binNil (hΓ : ΓOk P X) {op : BinOp} {t : TypeId} {x y : Operand} {c : C} {b b' : Bool} (ho : ∃ i, o.op = .binOp op t x y i)
 (hx : ev st x = .v ⟨false, [c]⟩) (hy : ev st y = .v ⟨false, [.nil]⟩) (ht : isSl X t = true) (hn : isNil st c = some b) (hb : (op = .eql ∧ b' = b) ∨ (op = .neq ∧ b' = !b)) :
 ActOk P F o st (one (.bool b')) [] :=
 .pure fun G a hG => by
  obtain ⟨i, ho⟩ := ho
  obtain ⟨A, n, cap, e1, rfl⟩ := isNil_ok hG hn (ev_one hG hx)
  have e2 : a.eval y = .slice none 0 0 := ev_one hG hy
  obtain ⟨el, hu⟩ := isSl_ok hΓ ht
  refine ⟨.bool b', ?_, TVV.one rfl⟩
  unfold execOp
  rw [ho]
  rcases hb with ⟨rfl, rfl⟩ | ⟨rfl, rfl⟩ <;>
   simp only [e1, e2, Sem.run_bind, eqGuard_ok (P := P) (w := G.w) (a := .slice A n cap) (b := .slice none 0 0) rfl, Result.andThen_ok, binOp, run_equal_nil hu, Sem.run_pure]
theorem act_index (hΓ : ΓOk P X) {t : TypeId} {x i : Operand} {s : ByteArray} {k : IntKind} {n : Int} (ho : o.op = .index t x i) (hx : ev1 st x = .str s) (hi : ev1 st i = .int k n)
 (ht : isStr X t = true) (h0 : 0 ≤ n) (h1 : n < (s.size : Int)) : ActOk P F o st (one (.int .u8 ((bytesOf s).getD n.toNat 0))) [] :=
 .pure fun G a hG => by
  have e1 : a.eval x = .string s := by have := ev1_ok hG x; rw [hx] at this; exact this
  have e2 := ev1_int hG hi
  have hu := isStr_ok hΓ ht
  refine ⟨_, ?_, TVV.one rfl⟩
  have hlt : n.toNat < s.size := by omega
  unfold execOp
  rw [ho]
  have hb : s[n.toNat]? = some (s[n.toNat]) := getElem?_pos s n.toNat hlt
  have hb2 : (bytesOf s).getD n.toNat 0 = ((s[n.toNat]).toNat : Int) := by
   unfold bytesOf
   rw [List.getD_eq_getElem?_getD, List.getElem?_map]
   have : s.data.toList[n.toNat]? = some (s[n.toNat]) := by
    rw [Array.getElem?_toList]
    exact getElem?_pos s.data n.toNat hlt
   rw [this]
   rfl
  rw [hb2]
  simp [Instr.index, asIntOf, e1, e2, run_underlying hu, h0, hb]
theorem act_minmax {mx : Bool} {x y : Operand} {k k' : IntKind} {n m : Int} {cl : Call} (ho : o.op = .call cl) (hb : cl.callee = .builtin (bif mx then .max else .min)) (ha : cl.args.toList = [x, y])
 (hx : ev1 st x = .int k n) (hy : ev1 st y = .int k' m) : ActOk P F o st (one (.int k (minmax mx n m))) [] :=
 .pure fun G a hG => by
  have ea : cl.args = #[x, y] := by rw [← Array.toArray_toList (xs := cl.args), ha]
  have e1 := ev1_int hG hx
  have e2 := ev1_int hG hy
  refine ⟨.int k (minmax mx n m), ?_, TVV.one rfl⟩
  unfold execOp
  rw [ho]
  cases mx
  ·have hb : cl.callee = .builtin .min := hb
   simp [resolve, hb, ea, invoke, builtin, Builtin.min_, e1, e2, Builtin.min2, minmax]
  ·have hb : cl.callee = .builtin .max := hb
   simp [resolve, hb, ea, invoke, builtin, Builtin.max_, e1, e2, Builtin.max2, minmax]
theorem act_convInt (hΓ : ΓOk P X) {s t : TypeId} {x : Operand} {k k' : IntKind} {n : Int} {fl : List (Nat × Nat × Bool)} (ho : o.op = .convert s t x) (ht : aget X.Γ t = some ⟨false, [.int k], fl⟩) (hx : ev1 st x = .int k' n)
 (hs : ∃ d, P.underlying s = some d) : ActOk P F o st (one (.int k (k.wrap n))) [] :=
 .pure fun G a hG => by
  obtain ⟨b, hb, hok⟩ := (hΓ t _ ht).flat rfl
  cases hb
  have hok : P.underlying t = some (.int k) := hok
  obtain ⟨d, hd⟩ := hs
  refine ⟨.int k (k.wrap n), ?_, TVV.one rfl⟩
  unfold execOp
  rw [ho]
  simp [convert, run_underlying hd, run_underlying hok, ev1_int hG hx, Conv.intToInt]
end Go.Tv
set_option autoImplicit false
namespace Go.Tv
open Go
variable [Env]
theorem Sq.len_sub (q : Sq) (o n : Nat) (h : o + n ≤ q.len) : (q.sub o n).len = n := by
 cases q <;> simp only [Sq.sub, Sq.len] at h ⊢ <;> simp <;> omega
theorem Sq.get_sub (q : Sq) (o n i : Nat) (h : o + n ≤ q.len) (hi : i < n) : (q.sub o n).get i = q.get (o + i) := by
 cases q <;> simp only [Sq.sub, Sq.len, Sq.get] at h ⊢ <;> simp [List.getElem?_take, hi]
theorem Sq.fits_sub (e : List Ct) (q : Sq) (o n : Nat) : (q.sub o n).fits e = q.fits e := by cases q <;> rfl
theorem Sq.from_eq (q : Sq) (o : Nat) (h : o ≤ q.len) : q.from_ o = q.sub o (q.len - o) := by
 cases q <;> simp only [Sq.sub, Sq.len, Sq.from_] <;> congr 1 <;> rw [List.take_of_length_le] <;> simp
theorem Sq.upto_eq (q : Sq) (n : Nat) : q.upto n = q.sub 0 n := by cases q <;> simp [Sq.sub, Sq.upto]
theorem Sq.sub_all (q : Sq) : q.sub 0 q.len = q := by cases q <;> simp [Sq.sub, Sq.len]
variable {P : Program} {G : Gh} {X : Ctx} {F : Nat → Prop} {o : Oper} {st : St}
theorem ElsV.sub {N : Nat → Nat → IntKind → List Int → Value → Prop} {e : List Ct} {q : Sq} {f : Nat → Option Value} (h : ElsV N e q f) (b n : Nat) (hb : b + n ≤ q.len) :
 ElsV (fun i => N (b + i)) e (q.sub b n) (fun k => f (b * e.length + k)) := by
 intro i j t hi hj
 rw [Sq.len_sub q b n hb] at hi
 obtain ⟨v, c, h1, h2, h3⟩ := h (b + i) j t (by omega) hj
 refine ⟨v, c, ?_, by rw [Sq.get_sub q b n i hb hi]; exact h2, h3⟩
 have : b * e.length + (i * e.length + j) = (b + i) * e.length + j := by rw [Nat.add_mul]; omega
 show f (b * e.length + (i * e.length + j)) = some v
 rw [this]; exact h1
theorem TrV.sub {x y : Nat} {e : List Ct} {q : Sq} {A : Option Addr} {m cap l n : Nat} (h : TrV G x y e q (.slice A m cap)) (hl : l + n ≤ q.len) (B : Option Addr) (cap' : Nat) (hcap' : n ≤ cap')
 (hB : n = 0 ∨ B = A.map (·.add (l * e.length))) : TrV G x y e (q.sub l n) (.slice B n cap') := by
 obtain ⟨A', cap'', he, hf, hq⟩ := h
 cases he
 refine ⟨B, cap', by rw [Sq.len_sub q l n hl], ⟨by rw [Sq.fits_sub]; exact hf.1, by rw [Sq.len_sub q l n hl]; exact hcap'⟩, ?_⟩
 rw [Sq.len_sub q l n hl]
 rcases hB with hB | hB
 ·exact .inl hB
 ·rcases hq with hq | ⟨g, b, rfl, hlv, hq⟩
  ·left; omega
  ·right
   refine ⟨g, b + l * e.length, by rw [hB]; simp [Addr.add_none], hlv, ?_⟩
   have := hq.sub l n hl
   intro i j t hi hj
   obtain ⟨v, c, h1, h2, h3⟩ := this i j t hi hj
   exact ⟨v, c, by show G.w.cell? ⟨g, b + l * e.length + (i * e.length + j), none⟩ = some v; rw [Nat.add_assoc]; exact h1, h2, h3⟩
/-- the bounds of a part -/
def boundsOk (n : Nat) : Option C → Option C → Option (Nat × Nat)
 | none, none => some (0, n)
 | some (.int _ l), none => bif decide (0 ≤ l) && decide (l ≤ n) then some (l.toNat, n) else none
 | none, some (.int _ h) => bif decide (0 ≤ h) && decide (h ≤ n) then some (0, h.toNat) else none
 | some (.int _ l), some (.int _ h) => bif decide (0 ≤ l) && decide (l ≤ h) && decide (h ≤ n) then some (l.toNat, h.toNat) else none
 | _, _ => none
theorem boundsOk_le {n l h : Nat} {lo hi : Option C} (hb : boundsOk n lo hi = some (l, h)) : l ≤ h ∧ h ≤ n := by
 unfold boundsOk at hb
 split at hb
 ·cases hb; omega
 ·rename_i k i
  cases hd : (decide (0 ≤ i) && decide (i ≤ (n : Int))) with
  | false => rw [hd] at hb; cases hb
  | true => rw [hd] at hb; cases hb; simp only [Bool.and_eq_true, decide_eq_true_eq] at hd; omega
 ·rename_i k i
  cases hd : (decide (0 ≤ i) && decide (i ≤ (n : Int))) with
  | false => rw [hd] at hb; cases hb
  | true => rw [hd] at hb; cases hb; simp only [Bool.and_eq_true, decide_eq_true_eq] at hd; omega
 ·rename_i k i k' i'
  cases hd : (decide (0 ≤ i) && decide (i ≤ i') && decide (i' ≤ (n : Int))) with
  | false => rw [hd] at hb; cases hb
  | true => rw [hd] at hb; cases hb; simp only [Bool.and_eq_true, decide_eq_true_eq] at hd; omega
 ·cases hb
theorem run_sliceBounds {isS : Bool} {n cap l h : Nat} {lo hi : Option C} {lv hv : Option Value} {w : World} (hb : boundsOk n lo hi = some (l, h)) (hc : n ≤ cap)
 (h1 : ∀ c, lo = some c → ∃ v, lv = some v ∧ RV G c v) (h1' : lo = none → lv = none) (h2 : ∀ c, hi = some c → ∃ v, hv = some v ∧ RV G c v) (h2' : hi = none → hv = none) :
 (Instr.sliceBounds isS n cap lv hv none).run P w = .ok (l, h, cap) w := by
 unfold boundsOk at hb
 split at hb
 ·cases hb
  rw [h1' rfl, h2' rfl]
  simp [Instr.sliceBounds]
 ·rename_i k i
  cases hd : (decide (0 ≤ i) && decide (i ≤ (n : Int))) with
  | false => rw [hd] at hb; cases hb
  | true =>
   rw [hd] at hb; cases hb; simp only [Bool.and_eq_true, decide_eq_true_eq] at hd
   obtain ⟨v, e1, e2⟩ := h1 _ rfl
   have e2 : v = .int k i := e2
   rw [e1, e2, h2' rfl]
   simp [Instr.sliceBounds, Instr.sliceBound, asIntOf, hd.1, hd.2]
 ·rename_i k i
  cases hd : (decide (0 ≤ i) && decide (i ≤ (n : Int))) with
  | false => rw [hd] at hb; cases hb
  | true =>
   rw [hd] at hb; cases hb; simp only [Bool.and_eq_true, decide_eq_true_eq] at hd
   obtain ⟨v, e1, e2⟩ := h2 _ rfl
   have e2 : v = .int k i := e2
   rw [e1, e2, h1' rfl]
   have : i ≤ (cap : Int) := by omega
   simp [Instr.sliceBounds, Instr.sliceBound, asIntOf, hd.1, this]
 ·rename_i k i k' i'
  cases hd : (decide (0 ≤ i) && decide (i ≤ i') && decide (i' ≤ (n : Int))) with
  | false => rw [hd] at hb; cases hb
  | true =>
   rw [hd] at hb; cases hb; simp only [Bool.and_eq_true, decide_eq_true_eq] at hd
   obtain ⟨v, e1, e2⟩ := h1 _ rfl
   obtain ⟨v', e3, e4⟩ := h2 _ rfl
   have e2 : v = .int k i := e2
   have e4 : v' = .int k' i' := e4
   rw [e1, e2, e3, e4]
   have a1 : i' ≤ (cap : Int) := by omega
   have a2 : 0 ≤ i' := by omega
   have a3 : i ≤ ((i'.toNat : Nat) : Int) := by omega
   simp only [Instr.sliceBounds, Instr.sliceBound, asIntOf, Sem.run_bind, Sem.run_pure, Result.andThen_ok]
   rw [if_pos ⟨a2, a1⟩]
   simp only [Sem.run_pure, Result.andThen_ok, Option.isSome]
   rw [if_pos ⟨hd.1.1, a3⟩]
   rfl
 ·cases hb
/-- what a slice expression tells, apart from a cut -/
def partC (l h : Nat) (flo fhi : Bool) : C → Option C
 | .str s => some (.str (s.extract l h))
 | .nil => some .nil
 | .tr x y e q => some (.tr x y e (bif flo then (bif fhi then q else q.upto h) else bif fhi then q.from_ l else q.sub l (h - l)))
 | .ow r => some (bif flo && fhi then .ow r else .os r (bif flo then 0 else l) (h - (bif flo then 0 else l)))
 | .os r o _ => some (.os r (o + l) (h - l))
 | _ => none
theorem sliceK_ok {st0 : Nat} {c : C} {lo hi : Option C} {K : TV → List Upd → Option Res} {r : Res} (h : sliceK st0 false st c lo hi K = some r) :
 ∃ n l h' c', lenC st c = some n ∧ boundsOk n lo hi = some (l, h') ∧ partC l h' lo.isNone hi.isNone c = some c' ∧ K (one c') [] = some r := by
 unfold sliceK at h
 cases hl : lenC st c with
 | none => rw [hl] at h; cases h
 | some n =>
  rw [hl] at h
  simp only at h
  refine ⟨n, ?_⟩
  unfold boundsOk
  split at h
  ·refine ⟨0, n, ?_⟩
   cases c <;> first | cases h | exact ⟨_, rfl, rfl, rfl, by simpa using h⟩
  ·rename_i k i
   cases hd : (decide (0 ≤ i) && decide (i ≤ (n : Int))) with
   | false => rw [hd] at h; cases h
   | true =>
    rw [hd] at h
    refine ⟨i.toNat, n, ?_⟩
    cases c <;> first | cases h | exact ⟨_, rfl, by first | (rw [hd]; rfl) | (simp only [hd]; rfl) | (simp [hd]), rfl, by simpa using h⟩
  ·rename_i k i
   cases hd : (decide (0 ≤ i) && decide (i ≤ (n : Int))) with
   | false => rw [hd] at h; cases h
   | true =>
    rw [hd] at h
    refine ⟨0, i.toNat, ?_⟩
    cases c <;> first | cases h | exact ⟨_, rfl, by first | (rw [hd]; rfl) | (simp only [hd]; rfl) | (simp [hd]), rfl, by simpa using h⟩
  ·rename_i k i k' i'
   cases hd : (decide (0 ≤ i) && decide (i ≤ i') && decide (i' ≤ (n : Int))) with
   | false => rw [hd] at h; cases h
   | true =>
    rw [hd] at h
    refine ⟨i.toNat, i'.toNat, ?_⟩
    cases c <;> first | cases h | exact ⟨_, rfl, by first | (rw [hd]; rfl) | (simp only [hd]; rfl) | (simp [hd]), rfl, by simpa using h⟩
  ·cases h
theorem part_ok (hΓ : ΓOk P X) {a : Act} (hG : Ok G st a) {t : TypeId} {c c' : C} {v : Value} {n l h : Nat} {lo hi : Option C} {lv hv : Option Value}
 (hs : szOk X st t c = true) (hc : RV G c v) (hl : lenC st c = some n) (hb : boundsOk n lo hi = some (l, h)) (hp : partC l h lo.isNone hi.isNone c = some c')
 (h1 : ∀ c, lo = some c → ∃ v, lv = some v ∧ RV G c v) (h1' : lo = none → lv = none) (h2 : ∀ c, hi = some c → ∃ v, hv = some v ∧ RV G c v) (h2' : hi = none → hv = none) :
 ∃ u, (Instr.sliceAt t v lv hv none).run P G.w = .ok u G.w ∧ RV G c' u := by
 have hle := boundsOk_le hb
 have hsz := szOk_ok hΓ hG hs
 have hlo : lo.isNone = true → l = 0 := by
  intro e
  cases lo with
  | some _ => cases e
  | none =>
   unfold boundsOk at hb
   cases hi with
   | none => cases hb; rfl
   | some x =>
    cases x <;> first | cases hb | skip
    rename_i k i
    simp only at hb
    cases hd : (decide (0 ≤ i) && decide (i ≤ (n : Int))) with
    | false => rw [hd] at hb; cases hb
    | true => rw [hd] at hb; cases hb; rfl
 have hhi : hi.isNone = true → h = n := by
  intro e
  cases hi with
  | some _ => cases e
  | none =>
   unfold boundsOk at hb
   cases lo with
   | none => cases hb; rfl
   | some x =>
    cases x <;> first | cases hb | skip
    rename_i k i
    simp only at hb
    cases hd : (decide (0 ≤ i) && decide (i ≤ (n : Int))) with
    | false => rw [hd] at hb; cases hb
    | true => rw [hd] at hb; cases hb; rfl
 have key : ∀ (A : Option Addr) (cap : Nat) (e : List Ct) (eb : Nat), SlOk P t e eb → n ≤ cap →
  (Instr.sliceAt t (.slice A n cap) lv hv none).run P G.w = .ok (.slice (if cap = l then A else A.map (·.add (l * e.length))) (h - l) (cap - l)) G.w := by
  intro A cap e eb hsl hcap
  obtain ⟨el, ie, z, hu, hi', hie, _⟩ := hsl.ok
  have hsz : (sizeOf el).run P G.w = .ok e.length G.w := by simp [sizeOf, typeInfo, hi', hie]
  have := run_sliceBounds (P := P) (G := G) (isS := true) (w := G.w) hb hcap h1 h1' h2 h2'
  simp [Instr.sliceAt, Instr.slice, run_underlying hu, this, hsz]
 cases c with
 | str s =>
  cases hp
  have hc : v = .string s := hc
  cases hl
  rcases hsz with ⟨_, hu⟩ | ⟨h, _⟩
  ·have := run_sliceBounds (P := P) (G := G) (isS := false) (w := G.w) hb (Nat.le_refl _) h1 h1' h2 h2'
   refine ⟨.string (s.extract l h), ?_, rfl⟩
   simp [Instr.sliceAt, Instr.slice, run_underlying hu, hc, this]
  ·cases h
 | nil =>
  cases hp
  cases hl
  have hc : v = .slice none 0 0 := hc
  rcases hsz with ⟨h, _⟩ | ⟨_, e, eb, hsl, _⟩
  ·cases h
  ·refine ⟨_, by rw [hc]; exact key none 0 e eb hsl (Nat.le_refl _), ?_⟩
   have e1 : h - l = 0 := by omega
   have e2 : 0 - l = 0 := by omega
   show Value.slice _ _ _ = _
   rw [e1, e2]
   simp
 | tr x y e q =>
  cases hl
  rcases hsz with ⟨h, _⟩ | ⟨_, e', eb, hsl, he⟩
  ·cases h
  ·rcases he with he | he
   ·cases he
   ·have he : e'.length = e.length := he
    obtain ⟨A, cap, rfl, hf, hq⟩ := id hc
    refine ⟨_, key A cap e' eb hsl hf.2, ?_⟩
    have hq' : c' = .tr x y e (q.sub l (h - l)) := by
     simp only [partC, Option.some.injEq] at hp
     rw [← hp]
     congr 1
     cases hln : lo.isNone <;> cases hhn : hi.isNone <;> simp only [cond_true, cond_false]
     ·rw [Sq.from_eq q l (by omega), hhi hhn]
     ·rw [Sq.upto_eq, hlo hln, Nat.sub_zero]
     ·rw [hlo hln, hhi hhn, Nat.sub_zero, Sq.sub_all]
    rw [hq']
    refine TrV.sub hc (by omega) _ _ (by omega) ?_
    rw [he]
    by_cases hm : cap = l
    ·left; have := hf.2; omega
    ·right; rw [if_neg hm]
 | ow r =>
  rcases hsz with ⟨h, _⟩ | ⟨_, e', eb, hsl, he⟩
  ·cases h
  ·rcases he with he | he
   ·cases he
   ·have he : e'.length = (G.κ r).sz := he
    have hc : v = (G.κ r).val := hc
    have hlen : (G.κ r).len = n ∧ (G.κ r).len ≤ (G.κ r).cap ∧ ((G.κ r).g = none → (G.κ r).cap = 0) := by
     simp only [lenC] at hl
     cases hR : aget st.rows r with
     | none => rw [hR] at hl; cases hl
     | some R =>
      rw [hR] at hl; cases hl
      obtain ⟨r1, r2, r3, r4, r5, _⟩ := hG.rows r R hR
      exact ⟨r1.symm, r5, r4⟩
    obtain ⟨hlen, hcap, hnone⟩ := hlen
    have e1 : v = .slice ((G.κ r).addr 0) n (G.κ r).cap := by rw [hc, Hd.val, hlen]
    refine ⟨_, by rw [e1]; exact key _ _ e' eb hsl (by omega), ?_⟩
    simp only [partC, Option.some.injEq] at hp
    cases hb1 : (lo.isNone && hi.isNone) with
    | true =>
     rw [hb1] at hp
     simp only [Bool.and_eq_true] at hb1
     have h0 := hlo hb1.1
     have h1 := hhi hb1.2
     subst h0
     rw [← hp]
     show Value.slice _ _ _ = (G.κ r).val
     rw [Hd.val, h1, hlen]
     simp [Addr.add]
    | false =>
     rw [hb1] at hp
     have hl0 : (bif lo.isNone then 0 else l) = l := by
      cases hln : lo.isNone with
      | true => exact (hlo hln).symm
      | false => rfl
     rw [← hp, hl0]
     refine ⟨_, _, rfl, ⟨by omega, by omega⟩, ?_, ?_⟩
     ·by_cases hz : h - l = 0
      ·exact .inl hz
      ·right
       cases hg : (G.κ r).g with
       | none => have := hnone hg; omega
       | some g =>
        refine ⟨g, rfl, ?_⟩
        rw [if_neg (by omega), he]
        simp [Hd.addr, hg, Addr.add_none]
     ·intro h0
      subst h0
      simp [Addr.add]
 | os r b n' =>
  cases hl
  rcases hsz with ⟨h, _⟩ | ⟨_, e', eb, hsl, he⟩
  ·cases h
  ·rcases he with he | he
   ·cases he
   ·have he : e'.length = (G.κ r).sz := he
    obtain ⟨A, cap, rfl, ⟨hle1, hcap⟩, hA, hA0⟩ := hc
    refine ⟨_, key A cap e' eb hsl hcap, ?_⟩
    cases hp
    refine ⟨_, _, rfl, ⟨by omega, by omega⟩, ?_, ?_⟩
    ·by_cases hz : h - l = 0
     ·exact .inl hz
     ·right
      rcases hA with hA | ⟨g, hg, rfl⟩
      ·omega
      ·refine ⟨g, hg, ?_⟩
       rw [if_neg (by omega), he, Nat.add_mul]
       simp [Addr.add_none]
    ·intro h0
     obtain ⟨a1, a2⟩ := hA0 (by omega)
     have : l = 0 := by omega
     subst this
     simp [Addr.add, a1, a2]
 | _ => cases hp
end Go.Tv
set_option autoImplicit false
namespace Go.Tv
open Go
variable [Env]
variable {P : Program} {G : Gh} {X : Ctx} {F U : Nat → Prop} {kl : Bool} {o : Oper} {st : St}
/-- a new block -/
def Gh.alloc (G : Gh) (T : Tag) (cells : Array Value) (te : TypeId) : Gh :=
 { G with w := G.w.alloc (.cells cells te), who := fun b => if b = G.w.heap.size then T else G.who b }
def Gh.setK (G : Gh) (r : Nat) (h : Hd) : Gh := { G with κ := fun x => if x = r then h else G.κ x }
def Gh.setB (G : Gh) (b g : Nat) : Gh := { G with β := fun x => if x = b then g else G.β x }
def Gh.ren (G : Gh) (f : Tag → Tag) : Gh := { G with who := fun b => f (G.who b) }
def Gh.row (G : Gh) (g : Nat) (cs : Array Value) : Gh := { G with w := G.w.setRow g cs }
theorem Step.alloc (G : Gh) (T : Tag) (cells : Array Value) (te : TypeId) : Step U F kl G (G.alloc T cells te) where
 os := rfl
 tape := rfl
 output := rfl
 size := by show G.w.heap.size ≤ (G.w.heap.push _).size; rw [Array.size_push]; omega
 blk := fun b hb _ => ⟨heap_alloc_old _ _ _ hb, by simp [Gh.alloc, Nat.ne_of_lt hb]⟩
 nst := fun _ b r i j hb h => ⟨heap_alloc_old _ _ _ hb, by simp only [Gh.alloc, Nat.ne_of_lt hb, if_false]; rw [h]; rfl⟩
 κ := fun _ _ => rfl
 β := fun _ _ => rfl
theorem Step.setK (G : Gh) (r : Nat) (h : Hd) (hF : F (2 * r)) : Step U F kl G (G.setK r h) :=
 ⟨rfl, rfl, rfl, Nat.le_refl _, fun _ _ _ => ⟨rfl, rfl⟩, fun _ b r i j _ h => ⟨rfl, by show lvl 1 (G.who b); rw [h]; rfl⟩,
  fun x hx => by simp only [Gh.setK]; rw [if_neg (by intro e; subst e; exact hx hF)], fun _ _ => rfl⟩
theorem Step.setB (G : Gh) (b g : Nat) (hF : F (2 * b + 1)) : Step U F kl G (G.setB b g) :=
 ⟨rfl, rfl, rfl, Nat.le_refl _, fun _ _ _ => ⟨rfl, rfl⟩, fun _ b r i j _ h => ⟨rfl, by show lvl 1 (G.who b); rw [h]; rfl⟩,
  fun _ _ => rfl, fun x hx => by simp only [Gh.setB]; rw [if_neg (by intro e; subst e; exact hx hF)]⟩
/-- named anew -/
theorem Step.ren (G : Gh) (f : Tag → Tag) (h : ∀ t, (∀ n, t.owner = some n → ¬ U n) → f t = t) (hn : kl = false → ∀ r i j, lvl 1 (f (.nest r i j))) : Step U F kl G (G.ren f) :=
 ⟨rfl, rfl, rfl, Nat.le_refl _, fun b _ hb => ⟨rfl, h _ hb⟩, fun hk b r i j _ e => ⟨rfl, by show lvl 1 (f (G.who b)); rw [e]; exact hn hk r i j⟩, fun _ _ => rfl, fun _ _ => rfl⟩
/-- written: a block that belongs to U, and is no row's content -/
theorem Step.row (G : Gh) (g : Nat) (cs : Array Value) {n : Nat} (ho : (G.who g).owner = some n) (hU : U n) (hnn : ∀ r i j, G.who g ≠ .nest r i j) : Step U F kl G (G.row g cs) where
 os := rfl
 tape := rfl
 output := rfl
 size := by simp [Gh.row]
 blk := fun b hb h => ⟨setRow_other _ _ _ _ (by intro e; subst e; exact h n ho hU), rfl⟩
 nst := fun _ b r i j hb h => ⟨setRow_other _ _ _ _ (by intro e; subst e; exact hnn r i j h), by show lvl 1 (G.who b); rw [h]; rfl⟩
 κ := fun _ _ => rfl
 β := fun _ _ => rfl
theorem Names.tmp {st : St} {x : Operand} {n : Nat} (h : n ∈ (ev st x).ids) : st.Names n := by
 cases x with
 | tmp t =>
  simp only [ev, List.getD_eq_getElem?_getD] at h
  cases ht : st.tmps[t]? with
  | none => rw [ht] at h; simp [TV.undef, TV.ids, V1.ids, C.ids] at h
  | some v => rw [ht] at h; exact .inl ⟨t, v, ht, h⟩
 | const v =>
  exfalso
  simp only [ev, one, TV.ids, V1.ids, List.flatMap_cons, List.flatMap_nil, List.append_nil] at h
  unfold ofConst at h
  split at h <;> simp [C.ids] at h
 | func f => simp [ev, one, TV.ids, V1.ids, C.ids] at h
 | «global» g => simp [ev, TV.dead, TV.ids, V1.ids, C.ids] at h
theorem ev1_ids {st : St} {x : Operand} {n : Nat} (h : n ∈ (ev1 st x).ids) : st.Names n := by
 apply Names.tmp (x := x)
 unfold ev1 at h
 split at h
 ·rename_i c hc; rw [hc]; simp [TV.ids, V1.ids]; exact h
 ·simp [C.ids] at h
theorem RV.oneCell {c : C} {v : Value} (hs : c.solid = true) (h : RV G c v) : v.oneCell' = true := by
 cases c <;> simp only [C.solid, Bool.false_eq_true] at hs <;> simp only [RV] at h
 ·subst h; rfl
 ·subst h; rfl
 ·subst h; rfl
 ·subst h; rfl
 ·obtain ⟨A, cap, rfl, _⟩ := h; rfl
 ·subst h; rfl
 ·obtain ⟨A, cap, rfl, _⟩ := h; rfl
 ·subst h; rfl
 ·obtain ⟨g, _, _, rfl⟩ := h; rfl
 ·obtain ⟨g, _, _, rfl, _⟩ := h; rfl
 ·subst h; rfl
/-- a value, cell by cell -/
theorem V1V.cells {v : V1} {val : Value} (hs : v.solid = true) (h : V1V G v val) : ∃ vs : List Value, val.cells = vs.toArray ∧ RVs G v.cs vs := by
 unfold V1V at h
 obtain ⟨agg, cs⟩ := v
 cases agg with
 | true => obtain ⟨vs, rfl, h⟩ := h; exact ⟨vs, rfl, h⟩
 | false =>
  obtain ⟨c, hc, h⟩ := h
  simp only at hc
  subst hc
  simp only [V1.solid, Bool.false_or, List.all_cons, List.all_nil, Bool.and_true] at hs
  have ho := RV.oneCell hs h
  refine ⟨[val], ?_, rfl, ?_⟩
  ·cases val <;> first | rfl | cases ho
  ·intro j c' hj
   cases j with
   | zero => cases hj; exact ⟨val, rfl, h, ho⟩
   | succ j => simp at hj
theorem UpdsOk.box {b : Nat} {cs : List C} (h : BoxOk G b cs) : UpdsOk G [.box b cs] := by
 refine ⟨fun r R hr => by simp [applyU, apply1, aget] at hr, fun b' cs' hb => ?_⟩
 simp only [applyU, apply1, aget_aput] at hb
 split at hb
 ·rename_i e; subst e; cases hb; exact h
 ·simp [aget] at hb
theorem BoxOk.new {b : Nat} {cs : List C} {vs : List Value} {te : TypeId} (h : RVs G cs vs) (hF : ∀ c ∈ cs, ∀ n ∈ c.ids, ¬ F n) (hb : F (2 * b + 1)) :
 BoxOk ((G.alloc (.box b) vs.toArray te).setB b G.w.heap.size) b cs := by
 have hβ : ((G.alloc (.box b) vs.toArray te).setB b G.w.heap.size).β b = G.w.heap.size := by simp [Gh.setB]
 refine ⟨?_, vs, te, ?_, ?_⟩
 ·rw [hβ]; simp [Gh.setB, Gh.alloc]
 ·rw [hβ]; exact heap_alloc_new _ _
 ·have := RVs.stepB (U := fun _ => False) (F := F) (kl := false) (Step.alloc G (.box b) vs.toArray te) hF h
  rw [killC_false, List.map_id'] at this
  have := RVs.stepB (U := fun _ => False) (F := F) (kl := false) (Step.setB (G.alloc (.box b) vs.toArray te) b G.w.heap.size hb) hF this
  rw [killC_false, List.map_id'] at this
  exact this
theorem act_box (hN : ∀ n, st.Names n → ¬ F n) {t : TypeId} {x : Operand} {v : V1} {b : Nat} (ho : o.op = .box t x) (hx : ev st x = .v v) (hs : v.solid = true) (hb : F (2 * b + 1)) :
 ActOk P F o st (one (.bp b 0)) [.box b v.cs] := by
 intro G a hG next Q hn
 have hv := ev_ok hG x
 rw [hx] at hv
 obtain ⟨vs, hc, hr⟩ := V1V.cells hs hv
 have hFc : ∀ c ∈ v.cs, ∀ n ∈ c.ids, ¬ F n := fun c hc n hn => hN n (Names.tmp (x := x) (by rw [hx]; exact List.mem_flatMap.2 ⟨c, hc, hn⟩))
 refine wp_value (val := .pointer (some ⟨G.w.heap.size, 0, none⟩)) (w' := ((G.alloc (.box b) vs.toArray t).setB b G.w.heap.size).w) ?_ (hn ((G.alloc (.box b) vs.toArray t).setB b G.w.heap.size) _ ?_ ?_ ?_)
 ·unfold execOp
  rw [ho]
  simp [Instr.box, newVar, newRow, hc]
  rfl
 ·exact (Step.alloc G _ _ _).trans (Step.setB _ _ _ hb)
 ·exact TVV.one (by simp [RV, Gh.setB])
 ·exact UpdsOk.box (BoxOk.new hr hFc hb)
theorem RVs.over {cs ds : List C} {vs us : List Value} (h : RVs G cs vs) (h' : RVs G ds us) (p : Nat) (hp : p + ds.length ≤ cs.length) :
 RVs G (cs.take p ++ ds ++ cs.drop (p + ds.length)) (vs.take p ++ us ++ vs.drop (p + us.length)) := by
 obtain ⟨h1, h2⟩ := h
 obtain ⟨h3, h4⟩ := h'
 refine ⟨by simp; omega, fun j c hc => ?_⟩
 have e1 : (cs.take p).length = p := by simp; omega
 have e2 : (vs.take p).length = p := by simp; omega
 by_cases hj : j < p
 ·rw [List.append_assoc, List.getElem?_append_left (by rw [e1]; exact hj), List.getElem?_take, if_pos hj] at hc
  obtain ⟨v, hv, hr⟩ := h2 j c hc
  refine ⟨v, ?_, hr⟩
  rw [List.append_assoc, List.getElem?_append_left (by rw [e2]; exact hj), List.getElem?_take, if_pos hj]
  exact hv
 ·by_cases hj2 : j < p + ds.length
  ·rw [List.append_assoc, List.getElem?_append_right (by rw [e1]; omega), List.getElem?_append_left (by rw [e1]; omega), e1] at hc
   obtain ⟨v, hv, hr⟩ := h4 _ c hc
   refine ⟨v, ?_, hr⟩
   rw [List.append_assoc, List.getElem?_append_right (by rw [e2]; omega), List.getElem?_append_left (by rw [e2]; omega), e2]
   exact hv
  ·rw [List.getElem?_append_right (by simp; omega), List.getElem?_drop] at hc
   obtain ⟨v, hv, hr⟩ := h2 _ c hc
   refine ⟨v, ?_, hr⟩
   rw [List.getElem?_append_right (by simp; omega), List.getElem?_drop]
   rw [← hv]
   congr 1
   simp only [List.length_append, e1, e2, h3]
theorem run_storeVar {t : TypeId} {ti : TI} (hti : TIok P t ti) {w : World} {g p : Nat} {val : Value} {vs : List Value} {cur : Array Value} {te : TypeId} (hv : val.cells = vs.toArray) (hl : vs.length = ti.cs.length)
 (hg : w.heap[g]? = some (.cells cur te (0, 0))) (hp : p + vs.length ≤ cur.size) (h1 : ∀ v ∈ vs, v.oneCell' = true) :
 (storeVar t ⟨g, p, none⟩ val).run P w = .ok () (w.setRow g (cur.toList.take p ++ vs ++ cur.toList.drop (p + vs.length)).toArray) := by
 obtain ⟨i, z, hi, hs, _, _⟩ := hti.info
 have hsz : (sizeOf t).run P w = .ok vs.length w := by simp [sizeOf, typeInfo, hi, hs, hl]
 have := run_storeCells_at (P := P) g p te vs 0 cur w hg (by omega) h1
 simp only [storeVar, Sem.run_bind, hsz, Result.andThen_ok, hv]
 simp only [List.size_toArray, ne_eq, not_true_eq_false, if_false, Sem.run_pure, Result.andThen_ok]
 simpa using this
theorem RVs.one {cs : List C} {vs : List Value} (h : RVs G cs vs) : ∀ v ∈ vs, v.oneCell' = true := by
 intro v hv
 obtain ⟨j, hj, rfl⟩ := List.mem_iff_getElem.1 hv
 obtain ⟨u, hu, _, ho⟩ := h.2 j _ (List.getElem?_eq_getElem (by have := h.1; omega))
 rw [List.getElem?_eq_getElem hj] at hu
 cases hu
 exact ho
theorem RVs.row {cs : List C} {vs : List Value} {g n : Nat} {cells : Array Value} (ho : (G.who g).owner = some n) (hnn : ∀ r i j, G.who g ≠ .nest r i j) (h : RVs G cs vs) : RVs (G.row g cells) cs vs := by
 have := RVs.stepB (U := fun m => m = n) (F := fun _ => False) (kl := false) (Step.row G g cells ho rfl hnn) (fun _ _ _ _ h => h) h
 rw [killC_false, List.map_id'] at this
 exact this
theorem act_storeBox {t : TypeId} {ti : TI} {p x : Operand} {v : V1} {b q : Nat} {cs : List C} (ho : o.op = .store t p x) (hti : TIok P t ti) (hp : ev1 st p = .bp b q) (hx : ev st x = .v v)
 (hs : v.solid = true) (hl : v.cs.length = ti.cs.length) (hb : aget st.boxes b = some cs) (hle : q + v.cs.length ≤ cs.length) :
 ActOk P F o st TV.undef [.box b (cs.take q ++ v.cs ++ cs.drop (q + v.cs.length))] := by
 intro G a hG next Q hn
 have hv := ev_ok hG x
 rw [hx] at hv
 obtain ⟨vs, hc, hr⟩ := V1V.cells hs hv
 have hpv : a.eval p = .pointer (some ⟨G.β b, q, none⟩) := by have := ev1_ok hG p; rw [hp] at this; exact this
 obtain ⟨hw, cur, te, hh, hbr⟩ := hG.boxes b cs hb
 have hlen : vs.length = v.cs.length := hr.1
 have hst := run_storeVar (P := P) hti hc (by rw [hlen, hl]) hh (by simp only [List.size_toArray]; have := hbr.1; omega) hr.one (p := q)
 have how : (G.who (G.β b)).owner = some (2 * b + 1) := by rw [hw]; rfl
 have hnn : ∀ r i j, G.who (G.β b) ≠ .nest r i j := by rw [hw]; intro r i j h; cases h
 refine wp_skip' (w' := (G.row (G.β b) (cur.take q ++ vs ++ cur.drop (q + vs.length)).toArray).w) ?_ (hn (G.row (G.β b) (cur.take q ++ vs ++ cur.drop (q + vs.length)).toArray) undef ?_ (TVV.undef _) ?_)
 ·unfold execOp
  rw [ho]
  simp only [Instr.storeAt, Instr.sureAddr, hpv, Sem.run_bind, Sem.run_pure, Result.andThen_ok, hst]
  rfl
 ·exact Step.row G _ _ how ⟨_, List.mem_singleton.2 rfl, rfl, rfl⟩ hnn
 ·refine UpdsOk.box ⟨hw, cur.take q ++ vs ++ cur.drop (q + vs.length), te, setRow_heap _ _ _ _ _ _ hh, ?_⟩
  refine RVs.row how hnn ?_
  have := hbr.over hr q hle
  rw [hlen] at this ⊢
  exact this
end Go.Tv
set_option autoImplicit false
namespace Go.Tv
open Go
variable [Env]
variable {P : Program} {G G' : Gh} {X : Ctx} {F U : Nat → Prop} {kl : Bool} {o : Oper} {st : St}
theorem applyU_append (us us' : List Upd) (st : St) : applyU (us ++ us') st = applyU us' (applyU us st) := by
 induction us generalizing st with
 | nil => rfl
 | cons u us ih => simp only [List.cons_append, applyU]; exact ih _
theorem Us_append {us us' : List Upd} {n : Nat} : Us (us ++ us') n ↔ Us us n ∨ Us us' n := by
 constructor
 ·rintro ⟨u, hu, h⟩
  rcases List.mem_append.1 hu with hu | hu
  ·exact .inl ⟨u, hu, h⟩
  ·exact .inr ⟨u, hu, h⟩
 ·rintro (⟨u, hu, h⟩ | ⟨u, hu, h⟩)
  ·exact ⟨u, List.mem_append_left _ hu, h⟩
  ·exact ⟨u, List.mem_append_right _ hu, h⟩
theorem isK_append (us us' : List Upd) : isK (us ++ us') = (isK us || isK us') := List.any_append
/-- updates hold one behind the other -/
theorem UpdsOk.append {us us' : List Upd} (h : UpdsOk G us) (h' : UpdsOk G us') (hk : isK us' = false) : UpdsOk G (us ++ us') := by
 refine ⟨fun r R hr => ?_, fun b cs hb => ?_⟩
 ·rw [applyU_append] at hr
  by_cases hu : Us us' (2 * r)
  ·rw [(aget_rows us' _ ⟨[], [], []⟩ r).1 hu] at hr; exact h'.1 r R hr
  ·rw [(aget_rows us' _ ⟨[], [], []⟩ r).2 hu] at hr; exact h.1 r R hr
 ·rw [applyU_append] at hb
  by_cases hu : Us us' (2 * b + 1)
  ·rw [(aget_boxes us' _ ⟨[], [], []⟩ b).1 hu] at hb; exact h'.2 b cs hb
  ·rw [(aget_boxes us' _ ⟨[], [], []⟩ b).2 hu, hk, killC_false] at hb
   cases hc : aget (applyU us ⟨[], [], []⟩).boxes b with
   | none => rw [hc] at hb; cases hb
   | some cs0 => rw [hc] at hb; simp only [Option.map_some, List.map_id', Option.some.injEq] at hb; subst hb; exact h.2 b cs0 hc
/-- the names in updates' boxes -/
theorem mem_boxes {us : List Upd} : ∀ {st : St} {b : Nat} {cs : List C}, aget (applyU us st).boxes b = some cs → (∀ c ∈ cs, ∀ n ∈ c.ids, (∃ u ∈ us, n ∈ u.ids) ∨ ∃ cs', aget st.boxes b = some cs' ∧ ∃ c' ∈ cs', n ∈ c'.ids) := by
 induction us with
 | nil => intro st b cs h c hc n hn; exact .inr ⟨cs, h, c, hc, hn⟩
 | cons u us ih =>
  intro st b cs h c hc n hn
  rcases ih h c hc n hn with ⟨u', hu', hn'⟩ | ⟨cs', hcs, c', hc', hn'⟩
  ·exact .inl ⟨u', List.mem_cons_of_mem _ hu', hn'⟩
  ·cases u with
   | row id R => exact .inr ⟨cs', hcs, c', hc', hn'⟩
   | del id => exact .inr ⟨cs', hcs, c', hc', hn'⟩
   | box id ds =>
    simp only [apply1, aget_aput] at hcs
    split at hcs
    ·cases hcs
     exact .inl ⟨_, List.mem_cons_self .., by simp only [Upd.ids, List.mem_cons, List.mem_flatMap]; exact .inr ⟨c', hc', hn'⟩⟩
    ·exact .inr ⟨cs', hcs, c', hc', hn'⟩
   | kill =>
    simp only [apply1, St.kill, aget_map] at hcs
    cases hb : aget st.boxes b with
    | none => rw [hb] at hcs; cases hcs
    | some ds =>
     rw [hb] at hcs
     cases hcs
     obtain ⟨d, hd, rfl⟩ := List.mem_map.1 hc'
     refine .inr ⟨ds, rfl, d, hd, ?_⟩
     revert hn'
     cases d with
     | tr x y e q => simp only [C.kill]; cases (Nat.beq x 1 || (Nat.beq y 1 && nested e)) <;> simp [C.ids]
     | rp _ _ _ _ _ => simp [C.kill, C.ids]
     | _ => exact id
theorem mem_rows : ∀ {us : List Upd} {st : St} {r : Nat} {R : Row}, aget (applyU us st).rows r = some R → Upd.row r R ∈ us ∨ aget st.rows r = some R
 | [], st, r, R, h => .inr h
 | u :: us, st, r, R, h => by
  rcases mem_rows (us := us) (st := apply1 st u) h with h' | h'
  ·exact .inl (List.mem_cons_of_mem _ h')
  ·clear h
   have h := h'
   clear h'
   cases u with
   | row id Q =>
    simp only [apply1, aget_aput] at h
    split at h
    ·rename_i e; subst e; cases h; exact .inl (List.mem_cons_self ..)
    ·exact .inr h
   | del id =>
    simp only [apply1, aget_adel] at h
    split at h
    ·cases h
    ·exact .inr h
   | box id cs => exact .inr h
   | kill => exact .inr h
/-- updates hold on, where others are made -/
theorem UpdsOk.step {us : List Upd} (h : UpdsOk G us) (s : Step U F false G G') (hU : ∀ n, Us us n → ¬ U n) (hF : ∀ u ∈ us, ∀ n ∈ u.ids, ¬ F n) : UpdsOk G' us := by
 have hid : ∀ n, Us us n → ¬ F n := by
  rintro n ⟨u, hu, hk, rfl⟩
  refine hF u hu _ ?_
  cases u <;> simp [Upd.ids, Upd.id] <;> cases hk
 refine ⟨fun r R hr => ?_, fun b cs hb => ?_⟩
 ·by_cases hu : Us us (2 * r)
  ·exact (h.1 r R hr).step s (hU _ hu) (hid _ hu) fun n hn => (mem_rows hr).elim (fun hm => hF _ hm n (List.mem_cons_of_mem _ hn)) (fun h => by cases h)
  ·rw [(aget_rows us _ ⟨[], [], []⟩ r).2 hu] at hr; cases hr
 ·by_cases hu : Us us (2 * b + 1)
  ·have := (h.2 b cs hb).stepB s (hU _ hu) (hid _ hu) (fun c hc n hn => by
    rcases mem_boxes hb c hc n hn with ⟨u, hu, hn⟩ | ⟨_, hx, _⟩
    ·exact hF u hu n hn
    ·cases hx)
   rw [killC_false, List.map_id'] at this
   exact this
  ·rw [(aget_boxes us _ ⟨[], [], []⟩ b).2 hu] at hb; cases hb
/-! ### nil values that become rows -/
def NilRow (u : Upd) : Prop := ∃ id e, u = .row id ⟨e, Sq.nil e, true, 0, none⟩ ∧ (Sq.nil e).fits e = true
def Gh.nils (G : Gh) (us : List Upd) : Gh :=
 { G with κ := fun x => match aget (applyU us ⟨[], [], []⟩).rows x with | some R => ⟨none, 0, 0, R.e.length⟩ | none => G.κ x }
theorem nil_rows {us : List Upd} (h : ∀ u ∈ us, NilRow u) : ∀ {st : St} {x : Nat} {R : Row}, aget (applyU us st).rows x = some R → aget st.rows x = some R ∨ (NilRow (.row x R) ∧ Us us (2 * x)) := by
 induction us with
 | nil => intro st x R hr; exact .inl hr
 | cons u us ih =>
  intro st x R hr
  rcases ih (fun u hu => h u (List.mem_cons_of_mem _ hu)) hr with hr' | ⟨hr', v, hv, hk⟩
  ·obtain ⟨id, e, rfl, hf⟩ := h u (List.mem_cons_self ..)
   clear hr
   simp only [apply1, aget_aput] at hr'
   split at hr'
   ·rename_i e'; subst e'; cases hr'; exact .inr ⟨⟨_, _, rfl, hf⟩, _, List.mem_cons_self .., rfl, rfl⟩
   ·exact .inl hr'
  ·exact .inr ⟨hr', v, List.mem_cons_of_mem _ hv, hk⟩
theorem nil_some {us : List Upd} (h : ∀ u ∈ us, NilRow u) {x : Nat} (hu : Us us (2 * x)) : ∃ R, aget (applyU us ⟨[], [], []⟩).rows x = some R := by
 revert hu
 suffices H : ∀ st, Us us (2 * x) ∨ (∃ R, aget st.rows x = some R) → ∃ R, aget (applyU us st).rows x = some R from fun hu => H _ (.inl hu)
 induction us with
 | nil => rintro st (⟨u, hu, _⟩ | h); · cases hu
          ·exact h
 | cons u us ih =>
  intro st hu
  apply ih (fun u hu => h u (List.mem_cons_of_mem _ hu))
  obtain ⟨id, e, rfl, hf⟩ := h u (List.mem_cons_self ..)
  rcases hu with ⟨v, hv, hk, hid⟩ | ⟨R, hR⟩
  ·rcases List.mem_cons.1 hv with rfl | hv
   ·right
    have : id = x := by simp only [Upd.id] at hid; omega
    subst this
    exact ⟨_, by simp only [apply1, aget_aput, if_true]; rfl⟩
   ·exact .inl ⟨v, hv, hk, hid⟩
  ·right
   simp only [apply1, aget_aput]
   split
   ·exact ⟨_, rfl⟩
   ·exact ⟨R, hR⟩
theorem nils_step {us : List Upd} (h : ∀ u ∈ us, NilRow u) : Step U (Us us) kl G (G.nils us) :=
 ⟨rfl, rfl, rfl, Nat.le_refl _, fun _ _ _ => ⟨rfl, rfl⟩, fun _ b r i j _ h => ⟨rfl, by show lvl 1 (G.who b); rw [h]; rfl⟩,
  fun x hx => by
   simp only [Gh.nils]
   cases hr : aget (applyU us ⟨[], [], []⟩).rows x with
   | none => rfl
   | some R => exfalso; rcases nil_rows h hr with hr | ⟨_, hu⟩; · cases hr
               ·exact hx hu,
  fun _ _ => rfl⟩
theorem Sq.len_nil (e : List Ct) : (Sq.nil e).len = 0 := by
 unfold Sq.nil; split <;> rfl
theorem nils_upds {us : List Upd} (h : ∀ u ∈ us, NilRow u) : UpdsOk (G.nils us) us := by
 refine ⟨fun r R hr => ?_, fun b cs hb => ?_⟩
 ·have hk : (G.nils us).κ r = ⟨none, 0, 0, R.e.length⟩ := by simp only [Gh.nils, hr]
  rcases nil_rows h hr with hr | ⟨⟨id, e, he, hf⟩, _⟩
  ·cases hr
  ·cases he
   refine ⟨by rw [hk]; exact Sq.len_nil e, by rw [hk], hf, by rw [hk]; intro _; rfl, by rw [hk]; exact Nat.le_refl _, fun _ => ?_, nofun⟩
   rw [hk]
   refine ⟨[], ⟨by simp, Nat.le_refl _, by simp [maxLen], rfl⟩, ?_⟩
   intro i j t hi _
   have hi : i < (Sq.nil e).len := hi
   rw [Sq.len_nil] at hi; omega
 ·exfalso
  have : ∀ (us : List Upd), (∀ u ∈ us, NilRow u) → ∀ st : St, (applyU us st).boxes = st.boxes := by
   intro us
   induction us with
   | nil => intro _ st; rfl
   | cons u us ih =>
    intro h st
    obtain ⟨id, e, rfl, _⟩ := h u (List.mem_cons_self ..)
    exact ih (fun u hu => h u (List.mem_cons_of_mem _ hu)) _
  rw [this us h] at hb
  cases hb
theorem nils_ow {us : List Upd} (h : ∀ u ∈ us, NilRow u) {r : Nat} (hu : Us us (2 * r)) : RV (G.nils us) (.ow r) (.slice none 0 0) := by
 obtain ⟨R, hR⟩ := nil_some h hu
 simp only [RV, Gh.nils, hR, Hd.val, Hd.addr, Option.map_none]
end Go.Tv
set_option autoImplicit false
namespace Go.Tv
open Go
variable [Env]
variable {P : Program} {G G' : Gh} {X : Ctx} {F U : Nat → Prop} {kl : Bool} {o : Oper} {st : St}
theorem ownC_ok {i j k : Nat} : ∀ (own : List (Nat × Nat × Nat × List Ct)) (c : C), (∀ u ∈ (ownC i j k own c).2, NilRow u ∧ u.id = 2 * site i j (8 + k)) ∧
 ((ownC i j k own c).1 = c ∧ (ownC i j k own c).2 = [] ∨ (c = .nil ∧ (ownC i j k own c).1 = .ow (site i j (8 + k)) ∧ Us (ownC i j k own c).2 (2 * site i j (8 + k))))
 | [], c => ⟨fun u hu => (by cases hu), .inl ⟨rfl, rfl⟩⟩
 | (i', j', k', e) :: l, c => by
  simp only [ownC]
  cases Nat.beq i i' && Nat.beq j j' && Nat.beq k k' with
  | false => exact ownC_ok l c
  | true =>
   simp only [cond_true]
   cases c <;> try exact ⟨fun u hu => (by cases hu), .inl ⟨rfl, rfl⟩⟩
   cases hf : (Sq.nil e).fits e with
   | false => exact ⟨fun u hu => (by cases hu), .inl ⟨rfl, rfl⟩⟩
   | true =>
    refine ⟨fun u hu => ?_, .inr ⟨rfl, rfl, _, List.mem_singleton.2 rfl, rfl, rfl⟩⟩
    simp only [cond_true, List.mem_singleton] at hu
    subst hu
    exact ⟨⟨_, _, rfl, hf⟩, rfl⟩
theorem ownCs_ok {own : List (Nat × Nat × Nat × List Ct)} {i j : Nat} : ∀ (k : Nat) (cs : List C), (∀ u ∈ (ownCs own i j k cs).2, NilRow u ∧ ∃ k', u.id = 2 * site i j (8 + k')) ∧
 (ownCs own i j k cs).1.length = cs.length ∧
 ∀ (m : Nat) (c : C), (ownCs own i j k cs).1[m]? = some c → cs[m]? = some c ∨ (cs[m]? = some .nil ∧ ∃ r, c = .ow r ∧ Us (ownCs own i j k cs).2 (2 * r))
 | k, [] => ⟨fun u hu => (by cases hu), rfl, fun m c h => (by simp [ownCs] at h)⟩
 | k, c :: cs => by
  obtain ⟨h1, h2, h3⟩ := ownCs_ok (own := own) (i := i) (j := j) (k + 1) cs
  obtain ⟨h4, h5⟩ := ownC_ok (i := i) (j := j) (k := k) own c
  simp only [ownCs]
  refine ⟨fun u hu => ?_, by simp [h2], fun m d hm => ?_⟩
  ·rcases List.mem_append.1 hu with hu | hu
   ·exact ⟨(h4 u hu).1, k, (h4 u hu).2⟩
   ·exact h1 u hu
  ·cases m with
   | zero =>
    simp only [List.getElem?_cons_zero, Option.some.injEq] at hm ⊢
    subst hm
    rcases h5 with ⟨h5, _⟩ | ⟨h5, h6, h7⟩
    ·left; exact h5.symm
    ·right; exact ⟨h5, _, h6, Us_append.2 (.inl h7)⟩
   | succ m =>
    simp only [List.getElem?_cons_succ] at hm ⊢
    rcases h3 m d hm with h | ⟨h, r, rfl, hu⟩
    ·exact .inl h
    ·exact .inr ⟨h, r, rfl, Us_append.2 (.inr hu)⟩
/-- cells, some of whose nil values become rows -/
theorem ownRVs {own : List (Nat × Nat × Nat × List Ct)} {i j : Nat} {cs : List C} {vs : List Value} (h : RVs G cs vs) (hF : ∀ c ∈ cs, ∀ n ∈ c.ids, ¬ Us (ownCs own i j 0 cs).2 n) :
 RVs (G.nils (ownCs own i j 0 cs).2) (ownCs own i j 0 cs).1 vs := by
 obtain ⟨h1, h2, h3⟩ := ownCs_ok (own := own) (i := i) (j := j) 0 cs
 have hn : ∀ u ∈ (ownCs own i j 0 cs).2, NilRow u := fun u hu => (h1 u hu).1
 refine ⟨by rw [h2]; exact h.1, fun m c hm => ?_⟩
 rcases h3 m c hm with h' | ⟨h', r, rfl, hu⟩
 ·obtain ⟨v, hv, hr, ho⟩ := h.2 m c h'
  exact ⟨v, hv, RV.step (U := fun _ => False) (nils_step hn) (hF c (List.mem_of_getElem? h')) hr, ho⟩
 ·obtain ⟨v, hv, hr, ho⟩ := h.2 m _ h'
  have hr : v = .slice none 0 0 := hr
  subst hr
  exact ⟨_, hv, nils_ow hn hu, ho⟩
theorem NilRow.isK {us : List Upd} (h : ∀ u ∈ us, NilRow u) : isK us = false := by
 unfold Go.Tv.isK
 rw [List.any_eq_false]
 intro u hu
 obtain ⟨id, e, rfl, _⟩ := h u hu
 simp [Upd.isKill]
theorem Bt.zero_ok (b : Bt) : RV G b.zero b.zeroV ∧ b.zeroV.oneCell' = true := by
 cases b <;> exact ⟨by first | rfl | trivial, rfl⟩
theorem zeros_ok (bs : List Bt) : RVs G (bs.map Bt.zero) (bs.map Bt.zeroV) := by
 refine ⟨by simp, fun j c hc => ?_⟩
 rw [List.getElem?_map] at hc
 cases hb : bs[j]? with
 | none => rw [hb] at hc; cases hc
 | some b =>
  rw [hb] at hc
  cases hc
  exact ⟨b.zeroV, by rw [List.getElem?_map, hb]; rfl, Bt.zero_ok b⟩
theorem Bt.zero_ids (bs : List Bt) : ∀ c ∈ bs.map Bt.zero, c.ids = [] := by
 intro c hc
 obtain ⟨b, _, rfl⟩ := List.mem_map.1 hc
 cases b <;> rfl
/-- a new variable -/
theorem act_alloc {t : TypeId} {ti : TI} {b : Nat} {cs : List C} {us : List Upd} (ho : o.op = .alloc t) (hti : TIok P t ti) (hb : F (2 * b + 1))
 (hcs : ∀ (G : Gh) vs, RVs G (ti.cs.map Bt.zero) vs → RVs (G.nils us) cs vs) (hus : ∀ u ∈ us, NilRow u) (hF : ∀ u ∈ us, F u.id) (hbc : ∀ c ∈ cs, ∀ n ∈ c.ids, n ≠ 2 * b + 1) :
 ActOk P F o st (one (.bp b 0)) (us ++ [.box b cs]) := by
 intro G a hG next Q hn
 obtain ⟨i, z, hi, hs, hz, hzc⟩ := hti.info
 have hr0 : RVs (G.nils us) cs (ti.cs.map Bt.zeroV) := hcs G _ (zeros_ok ti.cs)
 let G1 := G.nils us
 let G2 := (G1.alloc (.box b) (ti.cs.map Bt.zeroV).toArray t).setB b G1.w.heap.size
 have hku : isK us = false := NilRow.isK hus
 have hk : isK (us ++ [.box b cs]) = false := by rw [isK_append, hku]; rfl
 have hsF : ∀ n, Us us n → F n := by rintro n ⟨u, hu, _, rfl⟩; exact hF u hu
 have s1 : Step (Us (us ++ [.box b cs])) F (isK (us ++ [.box b cs])) G G1 := (nils_step (U := Us (us ++ [.box b cs])) hus).weak (fun _ h => h) hsF (fun h => h)
 have s2 : Step (Us (us ++ [.box b cs])) F (isK (us ++ [.box b cs])) G1 G2 := (Step.alloc G1 _ _ _).trans (Step.setB _ _ _ hb)
 refine wp_value (val := .pointer (some ⟨G.w.heap.size, 0, none⟩)) (w' := G2.w) ?_ (hn G2 _ (s1.trans s2) ?_ ?_)
 ·unfold execOp
  rw [ho]
  have : z.cells = (ti.cs.map Bt.zeroV).toArray := by rw [← hzc, Array.toArray_toList]
  simp [Instr.alloc, zeroValue, typeInfo, hi, hz, newVar, newRow, this]
  rfl
 ·exact TVV.one (by show Value.pointer _ = Value.pointer _; simp [G2, G1, Gh.setB, Gh.nils])
 ·refine UpdsOk.append ?_ (UpdsOk.box (BoxOk.new (F := fun n => n = 2 * b + 1) hr0 (fun c hc n hn => hbc c hc n hn) rfl)) rfl
  refine (nils_upds (G := G) hus).step (U := fun _ => False) (F := fun n => n = 2 * b + 1) ((Step.alloc G1 _ _ _).trans (Step.setB _ _ _ rfl)) (fun _ _ h => h) ?_
  intro u hu n hn e
  obtain ⟨id, e', rfl, _⟩ := hus u hu
  simp only [Upd.ids, Row.hids, List.mem_singleton] at hn
  omega
end Go.Tv
set_option autoImplicit false
namespace Go.Tv
open Go
variable [Env]
variable {P : Program} {G G' : Gh} {X : Ctx} {F U : Nat → Prop} {kl : Bool} {o : Oper} {st : St}
theorem run_listMapM {α β : Type} (f : α → Sem β) (g : α → β) (w : World) : ∀ (l : List α), (∀ x ∈ l, (f x).run P w = .ok (g x) w) → (l.mapM f).run P w = .ok (l.map g) w
 | [], _ => by simp [List.mapM_nil]
 | x :: l, h => by
  simp only [List.mapM_cons, Sem.run_bind, h x (List.mem_cons_self ..), Result.andThen_ok, run_listMapM f g w l (fun y hy => h y (List.mem_cons_of_mem _ hy)), Sem.run_pure, List.map_cons]
theorem run_arrayMapM {α β : Type} (f : α → Sem β) (g : α → β) (w : World) (a : Array α) (h : ∀ x ∈ a.toList, (f x).run P w = .ok (g x) w) : (a.mapM f).run P w = .ok (a.map g) w := by
 rw [Array.mapM_eq_mapM_toList, Sem.run_map, run_listMapM f g w a.toList h]
 simp only [Result.andThen_ok]
 congr 1
 apply Array.toList_inj.1
 simp
theorem fold_set (off : Nat) : ∀ (l : List Value) (k : Nat) (cs : Array Value), off + k + l.length ≤ cs.size →
 ((l.zipIdx k).foldl (fun cs (c : Value × Nat) => cs.setIfInBounds (off + c.2) c.1) cs).toList = cs.toList.take (off + k) ++ l ++ cs.toList.drop (off + k + l.length)
 | [], k, cs, h => by simp
 | v :: l, k, cs, h => by
  simp only [List.zipIdx_cons, List.foldl_cons]
  simp only [List.length_cons] at h
  rw [fold_set off l (k + 1) _ (by simp; omega)]
  simp only [Array.toList_setIfInBounds]
  have := list_seg_step cs.toList (off + k) v l (by simp; omega)
  rw [← Nat.add_assoc, this]
  simp [Nat.add_assoc, Nat.add_comm, Nat.add_left_comm]
theorem run_fill {place : Nat → Option (Nat × Nat)} {flds : List (Nat × Nat × Bool)} (hpl : ∀ (i : Nat) (f : Nat × Nat × Bool), flds[i]? = some f → place i = some (f.1, f.2.1)) {n : Nat} (hin : ∀ (i : Nat) (f : Nat × Nat × Bool), flds[i]? = some f → f.1 + f.2.1 ≤ n) :
 ∀ (ps : List (Nat × V1)) (qs : List (Nat × Value)) (cs cs' : List C) (vs : List Value), RVs G cs vs → cs.length = n → ps.length = qs.length →
  (∀ (j : Nat) (p : Nat × V1), ps[j]? = some p → ∃ q, qs[j]? = some q ∧ q.1 = p.1 ∧ V1V G p.2 q.2) → fillC flds cs ps = some cs' →
  ∃ vs', Instr.fill place vs.toArray qs = some vs'.toArray ∧ RVs G cs' vs'
 | [], qs, cs, cs', vs, hr, hn, hl, hp, hf => by
  cases qs with
  | nil => cases hf; exact ⟨vs, rfl, hr⟩
  | cons q qs => cases hl
 | (i, v) :: ps, qs, cs, cs', vs, hr, hn, hl, hp, hf => by
  cases qs with
  | nil => cases hl
  | cons q qs =>
   obtain ⟨q', hq, hq1, hq2⟩ := hp 0 _ rfl
   cases hq
   obtain ⟨qi, qv⟩ := q
   simp only at hq1 hq2
   subst hq1
   simp only [fillC] at hf
   cases hfl : flds[qi]? with
   | none => rw [hfl] at hf; cases hf
   | some f =>
    rw [hfl] at hf
    simp only at hf
    cases hc : (Nat.beq v.cs.length f.2.1 && v.solid) with
    | false => rw [hc] at hf; cases hf
    | true =>
     rw [hc] at hf
     simp only [cond_true] at hf
     rw [Bool.and_eq_true] at hc
     have hlen : v.cs.length = f.2.1 := Nat.eq_of_beq_eq_true hc.1
     obtain ⟨us, hu, hru⟩ := V1V.cells hc.2 hq2
     have hul : us.length = f.2.1 := hru.1.trans hlen
     have hb := hin qi f hfl
     have hvl : vs.length = n := hr.1.trans hn
     have hov := hr.over hru f.1 (by omega)
     rw [hlen, hul] at hov
     obtain ⟨vs', h1, h2⟩ := run_fill hpl hin ps qs _ cs' _ hov (by simp; omega) (by simpa using hl) (fun j p hj => hp (j + 1) p hj) hf
     refine ⟨vs', ?_, h2⟩
     simp only [Instr.fill, hpl qi f hfl, hu, List.size_toArray]
     rw [if_neg (by simp; omega), ← h1]
     congr 1
     apply Array.toList_inj.1
     have := fold_set f.1 us 0 vs.toArray (by simp; omega)
     simp only [Nat.add_zero, hul] at this
     rw [← this]
     simp [Array.foldl_toList]
theorem oneV_ok {v : TV} {x : V1} (h : oneV v = some x) : v = .v x := by cases v <;> cases h; rfl
theorem partsV_ok {a : Act} (hG : Ok G st a) : ∀ {ps : List (Nat × Operand)} {vs : List (Nat × V1)}, partsV st ps = some vs → vs.length = ps.length ∧
 ∀ (j : Nat) (p : Nat × V1), vs[j]? = some p → ∃ q : Nat × Operand, ps[j]? = some q ∧ q.1 = p.1 ∧ ev st q.2 = .v p.2 ∧ V1V G p.2 (a.eval q.2)
 | [], vs, h => by cases h; exact ⟨rfl, fun j p hj => by simp at hj⟩
 | (i, x) :: ps, vs, h => by
  simp only [partsV] at h
  cases h1 : oneV (ev st x) with
  | none => rw [h1] at h; cases h
  | some v =>
   cases h2 : partsV st ps with
   | none => rw [h1, h2] at h; cases h
   | some vs' =>
    rw [h1, h2] at h
    cases h
    obtain ⟨h3, h4⟩ := partsV_ok hG h2
    refine ⟨by simp [h3], fun j p hj => ?_⟩
    cases j with
    | zero =>
     cases hj
     have he := oneV_ok h1
     have := ev_ok hG x
     rw [he] at this
     exact ⟨_, rfl, rfl, he, this⟩
    | succ j => exact h4 j p hj
theorem act_build {t : TypeId} {ti : TI} {ps : Array (Nat × Operand)} {vs : List (Nat × V1)} {cs : List C} (ho : o.op = .build t ps) (hti : TIok P t ti) (hag : ti.agg = true)
 (hps : partsV st ps.toList = some vs) (hf : fillC ti.flds (ti.cs.map Bt.zero) vs = some cs) : ActOk P F o st (.v ⟨true, cs⟩) [] :=
 .pure fun G a hG => by
  obtain ⟨i, z, hi, hs, hz, hzc⟩ := hti.info
  obtain ⟨fs, hu, hsz, hfs⟩ := hti.flds hag
  obtain ⟨hl, hp⟩ := partsV_ok hG hps
  have hsize : ∀ f ∈ fs.toList, ∃ fi, P.info? f.type = some fi := by
   intro f hf
   obtain ⟨k, hk, rfl⟩ := List.mem_iff_getElem.1 hf
   obtain ⟨fi, d, h1, _⟩ := hfs k _ (by rw [← Array.getElem?_toList]; exact List.getElem?_eq_getElem hk)
   exact ⟨fi, h1⟩
  have hpl := run_arrayMapM (P := P) (fun f : Field => do pure (f.offset, ← sizeOf f.type)) (fun f => (f.offset, ((P.info? f.type).map (·.size)).getD 0)) G.w fs (by
   intro f hf
   obtain ⟨fi, h1⟩ := hsize f hf
   simp [sizeOf, typeInfo, h1])
  have hplace : ∀ (k : Nat) (f : Nat × Nat × Bool), ti.flds[k]? = some f → (fs.map fun f => (f.offset, ((P.info? f.type).map (·.size)).getD 0))[k]? = some (f.1, f.2.1) ∧ f.1 + f.2.1 ≤ ti.cs.length := by
   intro k f hk
   have hlt : k < fs.size := by rw [hsz]; exact (List.getElem?_eq_some_iff.1 hk).1
   obtain ⟨fi, d, h1, h2, h3, h4, h5, h6⟩ := hfs k fs[k] (Array.getElem?_eq_getElem hlt)
   rw [hk] at h3
   cases h3
   exact ⟨by simp [hlt, h1], h6⟩
  obtain ⟨vs', h1, h2⟩ := run_fill (G := G) (place := fun k => (fs.map fun f => (f.offset, ((P.info? f.type).map (·.size)).getD 0))[k]?) (fun k f hk => (hplace k f hk).1) (fun k f hk => (hplace k f hk).2)
   vs (ps.toList.map fun p => (p.1, a.eval p.2)) _ cs _ (zeros_ok ti.cs) (by simp) (by simp [hl]) (by
    intro j p hj
    obtain ⟨q, hq, hq1, _, hq2⟩ := hp j p hj
    exact ⟨_, by rw [List.getElem?_map, hq]; rfl, hq1, hq2⟩) hf
  refine ⟨.agg vs'.toArray, ?_, vs', rfl, h2⟩
  have hzz : z.cells = (ti.cs.map Bt.zeroV).toArray := by rw [← hzc, Array.toArray_toList]
  unfold execOp
  rw [ho]
  simp only [Instr.build, Sem.run_bind, zeroValue, typeInfo, hi, hz, run_program, Result.andThen_ok, Sem.run_pure, run_underlying hu, hpl, hzz, Array.toList_map]
  rw [h1]
  rfl
end Go.Tv
set_option autoImplicit false
namespace Go.Tv
open Go
variable [Env]
variable {P : Program} {G G' : Gh} {X : Ctx} {F U : Nat → Prop} {kl : Bool} {o : Oper} {st : St}
/-- a row that is new, of n elements -/
def Gh.newRow (G : Gh) (r : Nat) (cells : Array Value) (te : TypeId) (n cap sz : Nat) : Gh :=
 (G.alloc (.row r) cells te).setK r ⟨some G.w.heap.size, n, cap, sz⟩
theorem Step.newRow (G : Gh) (r : Nat) (cells : Array Value) (te : TypeId) (n cap sz : Nat) (hF : F (2 * r)) : Step U F kl G (G.newRow r cells te n cap sz) :=
 (Step.alloc G _ _ _).trans (Step.setK _ _ _ hF)
theorem UpdsOk.row {r : Nat} {R : Row} (h : RowOk G r R) : UpdsOk G [.row r R] := by
 refine ⟨fun r' R' hr => ?_, fun b' cs' hb => by simp [applyU, apply1, aget] at hb⟩
 simp only [applyU, apply1, aget_aput] at hr
 split at hr
 ·rename_i e; subst e; cases hr; exact h
 ·simp [aget] at hr
theorem newRow_κ (G : Gh) (r : Nat) (cells : Array Value) (te : TypeId) (n cap sz : Nat) : (G.newRow r cells te n cap sz).κ r = ⟨some G.w.heap.size, n, cap, sz⟩ := by simp [Gh.newRow, Gh.setK]
theorem newRow_heap (G : Gh) (r : Nat) (cells : Array Value) (te : TypeId) (n cap sz : Nat) : (G.newRow r cells te n cap sz).w.heap[G.w.heap.size]? = some (.cells cells te (0, 0)) := heap_alloc_new _ _
theorem RowOk.new {r n cap : Nat} {e : List Ct} {q : Sq} {eu : Bool} {cells : Array Value} {te : TypeId} (hq : q.len = n) (hf : q.fits e = true) (hn : n ≤ cap) (hcap : cap ≤ maxLen) (hs : cells.size = cap * e.length)
 (h : ElsV (NN (G.newRow r cells te n cap e.length) r eu) e q (fun k => (cells.toList.take (n * e.length))[k]?)) : RowOk (G.newRow r cells te n cap e.length) r ⟨e, q, eu, 0, none⟩ := by
 have hk := newRow_κ G r cells te n cap e.length
 refine ⟨by rw [hk]; exact hq, by rw [hk], hf, (by rw [hk]; intro h; cases h), by rw [hk]; exact hn, fun _ => ?_, nofun⟩
 rw [hk]
 refine ⟨cells.toList.take (n * e.length), ⟨?_, hn, hcap, ?_⟩, h⟩
 ·simp only [List.length_take, Array.length_toList, hs]
  exact Nat.min_eq_left (Nat.mul_le_mul_right _ hn)
 ·exact ⟨by simp [Gh.newRow, Gh.setK, Gh.alloc, rtag], cells, te, newRow_heap .., hs, rfl⟩
theorem Sq.zeros_len (e : List Ct) (n : Nat) : (Sq.zeros e n).len = n := by
 unfold Sq.zeros; split <;> simp [Sq.len]
theorem Sq.zeros_fits (e : List Ct) (n : Nat) (h : e ≠ []) : (Sq.zeros e n).fits e = true := by
 match e, h with
 | [t], _ => cases t <;> rfl
 | t :: t' :: ts, _ => cases t <;> rfl
theorem Sq.zeros_get (e : List Ct) (n i j : Nat) (t : Ct) (hi : i < n) (hj : e[j]? = some t) : ((Sq.zeros e n).get i)[j]? = some (Cl.zero t) := by
 unfold Sq.zeros
 split
 ·cases j with
  | zero => cases hj; simp [Sq.get, List.getElem?_replicate, hi, Cl.zero]
  | succ j => simp at hj
 ·cases j with
  | zero => cases hj; simp [Sq.get, List.getElem?_replicate, hi, Cl.zero]
  | succ j => simp at hj
 ·cases j with
  | zero => cases hj; simp [Sq.get, List.getElem?_replicate, hi, Cl.zero]
  | succ j => simp at hj
 ·simp [Sq.get, List.getElem?_replicate, hi, hj]
theorem Ct.zero_ok {r i j : Nat} (t : Ct) (eu : Bool) : CellV (NN G r eu i j) t (Cl.zero t) t.zeroV := by
 cases t with
 | int k => rfl
 | bool => rfl
 | str => rfl
 | ints k =>
  cases eu with
  | true => exact ⟨⟨none, 0, 0, 1⟩, rfl, rfl, rfl, Nat.le_refl _, by simp [maxLen], rfl⟩
  | false => exact ⟨none, 0, rfl, Nat.le_refl _, .inl rfl⟩
theorem madeCells_get {z : Array Value} {e : List Ct} (hz : z.toList = e.map Ct.zeroV) {n i j : Nat} {t : Ct} (hi : i < n) (hj : e[j]? = some t) : (madeCells z (n * e.length)).toList[i * e.length + j]? = some t.zeroV := by
 have hs : z.size = e.length := by rw [← Array.length_toList, hz]; simp
 have hjl : j < e.length := (List.getElem?_eq_some_iff.1 hj).1
 have hlt : i * e.length + j < n * e.length := by
  have : (i + 1) * e.length ≤ n * e.length := Nat.mul_le_mul_right _ hi
  rw [Nat.add_mul] at this; omega
 have hm : (i * e.length + j) % e.length = j := by rw [Nat.mul_comm, Nat.mul_add_mod]; exact Nat.mod_eq_of_lt hjl
 have hzj : z[j]? = some t.zeroV := by rw [← Array.getElem?_toList, hz, List.getElem?_map, hj]; rfl
 simp only [madeCells, Array.toList_map, Array.toList_range, List.getElem?_map]
 rw [List.getElem?_range hlt]
 simp only [Option.map_some, hs, hm]
 rw [getElem!_def, hzj]
theorem act_makeSlice (hΓ : ΓOk P X) {t : TypeId} {n c : Operand} {e : List Ct} {eb : Nat} {fl : List (Nat × Nat × Bool)} {k k' : IntKind} {x y : Int} {r : Nat} (ho : o.op = .makeSlice t n c)
 (ht : aget X.Γ t = some ⟨false, [.sl e eb], fl⟩) (hn : ev1 st n = .int k x) (hc : ev1 st c = .int k' y) (hxy : x = y) (h0 : 0 ≤ x) (hb : x * eb ≤ 140737488355328) (hm : x ≤ 9223372036854775807) (hr : F (2 * r)) :
 ActOk P F o st (one (.ow r)) [.row r ⟨e, Sq.zeros e x.toNat, true, 0, none⟩] := by
 intro G a hG next Q hnx
 subst hxy
 obtain ⟨b, hb', hok⟩ := (hΓ t _ ht).flat rfl
 cases hb'
 obtain ⟨el, ie, z, hu, hi, hie, hby, hz, hzc, hne⟩ := hok.ok
 have hrun := run_make (P := P) G.w t el ie z hu hi hz k k' x x h0 (Int.le_refl _) (by rw [hby, Int.mul_comm]; omega) hm
 let cells := madeCells z.cells (x.toNat * ie.size)
 have hcs : cells.size = x.toNat * e.length := by rw [size_madeCells, hie]
 refine wp_value (val := .slice (some ⟨G.w.heap.size, 0, none⟩) x.toNat x.toNat) (w' := (G.newRow r cells el x.toNat x.toNat e.length).w) ?_ (hnx (G.newRow r cells el x.toNat x.toNat e.length) _ (Step.newRow _ _ _ _ _ _ _ hr) ?_ ?_)
 ·unfold execOp
  rw [ho]
  simp only [ev1_int hG hn, ev1_int hG hc, Sem.run_bind, hrun, Result.andThen_ok, Sem.run_pure]
  rfl
 ·exact TVV.one (by simp only [RV, newRow_κ, Hd.val, Hd.addr, Option.map_some])
 ·refine UpdsOk.row (RowOk.new (Sq.zeros_len ..) (Sq.zeros_fits _ _ hne) (Nat.le_refl _) (by simp only [maxLen]; omega) hcs ?_)
  intro i j t hi hj
  rw [Sq.zeros_len] at hi
  refine ⟨t.zeroV, Cl.zero t, ?_, Sq.zeros_get e _ i j t hi hj, Ct.zero_ok t true⟩
  have hlt : i * e.length + j < x.toNat * e.length := by
   have : (i + 1) * e.length ≤ x.toNat * e.length := Nat.mul_le_mul_right _ hi
   have hjl : j < e.length := (List.getElem?_eq_some_iff.1 hj).1
   rw [Nat.add_mul] at this; omega
  show (cells.toList.take _)[_]? = _
  rw [List.getElem?_take, if_pos hlt]
  show (madeCells z.cells (x.toNat * ie.size)).toList[_]? = _
  rw [hie]
  exact madeCells_get hzc hi hj
end Go.Tv
set_option autoImplicit false
namespace Go.Tv
open Go
variable [Env]
variable {P : Program} {G G' : Gh} {X : Ctx} {F U : Nat → Prop} {kl : Bool} {o : Oper} {st : St}
/-- all but row s is as it was -/
structure Keep (s : Nat) (G G' : Gh) : Prop where
 os : G'.w.os = G.w.os
 tape : G'.w.tape = G.w.tape
 output : G'.w.output = G.w.output
 size : G.w.heap.size ≤ G'.w.heap.size
 blk : ∀ b, b < G.w.heap.size → G.who b ≠ .row s → G'.w.heap[b]? = G.w.heap[b]? ∧ G'.who b = G.who b
 κ : ∀ r, r ≠ s → G'.κ r = G.κ r
 β : ∀ b, G'.β b = G.β b
theorem Keep.step {s : Nat} (h : Keep s G G') (hU : U (2 * s)) (hF : F (2 * s)) : Step U F kl G G' :=
 ⟨h.os, h.tape, h.output, h.size, fun b hb hn => h.blk b hb (fun e => hn (2 * s) (by rw [e]; rfl) hU),
  fun _ b r i j hb e => by
   obtain ⟨h1, h2⟩ := h.blk b hb (by rw [e]; intro h; cases h)
   exact ⟨h1, by rw [h2, e]; rfl⟩,
  fun r hr => h.κ r (by intro e; subst e; exact hr hF), fun b _ => h.β b⟩
theorem Blk.keep {s : Nat} {t : Tag} {h : Hd} {cells : List Value} (k : Keep s G G') (ht : t ≠ .row s) (hb : Blk G t h cells) : Blk G' t h cells := by
 obtain ⟨h1, h2, h3, hb⟩ := hb
 refine ⟨h1, h2, h3, ?_⟩
 cases hg : h.g with
 | none => rw [hg] at hb; exact hb
 | some g =>
  rw [hg] at hb
  obtain ⟨hw, cur, te, hh, hs, hc⟩ := hb
  obtain ⟨b1, b2⟩ := k.blk g (lt_of_heap hh) (by rw [hw]; exact ht)
  exact ⟨b2.trans hw, cur, te, b1.trans hh, hs, hc⟩
theorem OwnV.keep {s : Nat} {t : Tag} (k : Keep s G G') (ht : t ≠ .row s) {kd : IntKind} {xs : List Int} {v : Value} (h : OwnV G t kd xs v) : OwnV G' t kd xs v := by
 obtain ⟨h, h1, h2, hb⟩ := h
 exact ⟨h, h1, h2, hb.keep k ht⟩
theorem Blk.take {t : Tag} {h : Hd} {cells : List Value} (hb : Blk G t h cells) {n : Nat} (hn : n ≤ h.len) : Blk G t { h with len := n } (cells.take (n * h.sz)) := by
 obtain ⟨h1, h2, h3, hb⟩ := hb
 have hle : n * h.sz ≤ h.len * h.sz := Nat.mul_le_mul_right _ hn
 refine ⟨by simp only [List.length_take, h1]; omega, Nat.le_trans hn h2, h3, ?_⟩
 cases hg : h.g with
 | none => rw [hg] at hb; exact hb
 | some g =>
  rw [hg] at hb
  obtain ⟨hw, cur, te, hh, hs, hc⟩ := hb
  refine ⟨hw, cur, te, hh, hs, ?_⟩
  rw [← hc, List.take_take]
  congr 1
  exact (Nat.min_eq_left hle).symm
theorem run_append_row {t tx ty e : TypeId} {i : TypeInfo} (ht : P.underlying t = some (.slice e)) (hi : P.info? e = some i) {w : World} {g sLen sCap : Nat} {x : Value} {n : Nat} {news : List Value} (hs : Src P i.size tx x n news w)
 {cur : Array Value} {te : TypeId} (hg : w.heap[g]? = some (.cells cur te (0, 0))) (hroom : sLen + n ≤ sCap) (hfit : sLen * i.size + news.length ≤ cur.size) :
 (Builtin.append_ #[t, tx] ty #[.slice (some ⟨g, 0, none⟩) sLen sCap, x]).run P w =
  .ok (.slice (some ⟨g, 0, none⟩) (sLen + n) sCap) (w.setRow g (cur.toList.take (sLen * i.size) ++ news ++ cur.toList.drop (sLen * i.size + news.length)).toArray) := by
 have hst := run_storeCells_at (P := P) g (sLen * i.size) te news 0 cur w hg (by simpa using hfit) hs.one
 simp only [Nat.add_zero] at hst
 rcases hs.kind with ⟨e', hk⟩ | hk <;> simp [Builtin.append_, run_underlying ht, run_underlying hk, sizeOf, typeInfo, hi, hs.len, hroom, hs.cells, Addr.add_lit, hst]
/-- room, or none: the row holds what it held, and what is new -/
theorem append_blk {t tx ty e : TypeId} {i : TypeInfo} {z : Value} (ht : P.underlying t = some (.slice e)) (hi : P.info? e = some i) (hz : i.zero = some z) (hzs : z.cells.size = i.size) (hsz : 0 < i.size)
 {s : Nat} {h : Hd} {olds : List Value} (hb : Blk G (.row s) h olds) (hhs : h.sz = i.size) {x : Value} {n : Nat} {news : List Value} (hs : Src P i.size tx x n news G.w)
 (hbytes : (h.len + n) * i.bytes ≤ 140737488355328) (h63 : h.len + n ≤ maxLen) :
 ∃ (G' : Gh), (Builtin.append_ #[t, tx] ty #[h.val, x]).run P G.w = .ok (G'.κ s).val G'.w ∧ Keep s G G' ∧ (G'.κ s).len = h.len + n ∧ (G'.κ s).sz = h.sz ∧ Blk G' (.row s) (G'.κ s) (olds ++ news) := by
 obtain ⟨h1, h2, h3, hb⟩ := hb
 have hnl := hs.newsLen
 by_cases hroom : h.len + n ≤ h.cap
 ·cases hg : h.g with
  | none =>
   rw [hg] at hb
   have hb : h.cap = 0 := hb
   have e1 : h.len = 0 := by omega
   have e2 : n = 0 := by omega
   subst e2
   have hn0 : news = [] := List.length_eq_zero_iff.1 (by omega)
   have ho0 : olds = [] := List.length_eq_zero_iff.1 (by rw [h1, e1, Nat.zero_mul])
   subst hn0
   subst ho0
   refine ⟨G.setK s h, ?_, ⟨rfl, rfl, rfl, Nat.le_refl _, fun _ _ _ => ⟨rfl, rfl⟩, fun r hr => by simp [Gh.setK, hr], fun _ => rfl⟩, by simp [Gh.setK], by simp [Gh.setK], ?_⟩
   ·have hk : (G.setK s h).κ s = h := by simp [Gh.setK]
    rw [hk]
    have hv : h.val = .slice none 0 0 := by simp [Hd.val, Hd.addr, hg, e1, hb]
    rw [hv]
    rcases hs.kind with ⟨e', hk⟩ | hk <;> simp [Builtin.append_, run_underlying ht, run_underlying hk, sizeOf, typeInfo, hi, hs.len, hs.cells] <;> rfl
   ·have hk : (G.setK s h).κ s = h := by simp [Gh.setK]
    rw [hk]
    exact ⟨by simp [e1], h2, h3, by rw [hg]; exact hb⟩
  | some g =>
   rw [hg] at hb
   obtain ⟨hw, cur, te, hh, hcs, hct⟩ := hb
   have hfit : h.len * i.size + news.length ≤ cur.size := by
    rw [hnl, hcs, hhs, ← Nat.add_mul]; exact Nat.mul_le_mul_right _ hroom
   have hrun := run_append_row (P := P) (ty := ty) ht hi (w := G.w) (g := g) (sLen := h.len) (sCap := h.cap) hs hh hroom hfit
   let cur' := (cur.toList.take (h.len * i.size) ++ news ++ cur.toList.drop (h.len * i.size + news.length)).toArray
   refine ⟨(G.row g cur').setK s { h with len := h.len + n }, ?_, ⟨rfl, rfl, rfl, by simp [Gh.row, Gh.setK], ?_, fun r hr => by simp [Gh.setK, Gh.row, hr], fun _ => rfl⟩, by simp [Gh.setK], by simp [Gh.setK], ?_⟩
   ·have hv : h.val = .slice (some ⟨g, 0, none⟩) h.len h.cap := by simp [Hd.val, Hd.addr, hg]
    rw [hv, hrun]
    simp [Gh.setK, Gh.row, Hd.val, Hd.addr, hg, cur']
   ·intro b hb hne
    exact ⟨setRow_other _ _ _ _ (by intro e; subst e; exact hne hw), rfl⟩
   ·have hk : ((G.row g cur').setK s { h with len := h.len + n }).κ s = { h with len := h.len + n } := by simp [Gh.setK]
    rw [hk]
    have hol : olds.length = h.len * i.size := by rw [h1, hhs]
    refine ⟨by simp only [List.length_append, hnl, hol, hhs, Nat.add_mul], hroom, h3, ?_⟩
    simp only [hg]
    refine ⟨hw, cur', te, setRow_heap _ _ _ _ _ _ hh, ?_, ?_⟩
    ·simp only [cur', List.size_toArray, List.length_append, List.length_take, List.length_drop, Array.length_toList]
     rw [hcs] at hfit ⊢
     omega
    ·simp only [cur']
     rw [hhs, ← hct, hhs]
     rw [Nat.add_mul, ← hnl]
     have : (cur.toList.take (h.len * i.size)).length = h.len * i.size := by simp; omega
     rw [List.take_append_of_le_length (by simp; omega)]
     rw [List.take_of_length_le (by simp; omega)]
 ·have hg : h.cap < h.len + n := by omega
  have hfit : Builtin.nextslicecap (h.len + n) h.cap * i.bytes ≤ 281474976710656 := growslice_fits hg hbytes
  have hol : olds.length = h.len * i.size := by rw [h1, hhs]
  have hold : (Builtin.firstCells i.size h.len (.slice (h.addr 0) h.len h.cap)).run P G.w.drew = .ok olds.toArray G.w.drew := by
   cases hgg : h.g with
   | none =>
    rw [hgg] at hb
    have hb : h.cap = 0 := hb
    have ho0 : olds = [] := List.length_eq_zero_iff.1 (by rw [hol]; have : h.len = 0 := by omega
                                                          rw [this, Nat.zero_mul])
    subst ho0
    have : h.addr 0 = none := by simp [Hd.addr, hgg]
    rw [this]
    exact run_firstCells_none (P := P) G.w.drew i.size h.len h.len h.cap
   | some g =>
    have : h.addr 0 = some ⟨g, 0, none⟩ := by simp [Hd.addr, hgg]
    rw [this]
    refine run_firstCells_some (P := P) G.w.drew i.size h.len ⟨g, 0, none⟩ h.len h.cap olds hol (fun j v hv => ?_)
    rw [Addr.add_none, Nat.zero_add]
    exact Blk.cell (G := G) ⟨h1, h2, h3, hb⟩ hgg hv
  have hrun := run_append_grow_src (P := P) G.w t tx ty e i z ht hi hz (h.addr 0) h.len h.cap olds hold x n news hs hg (by simp only [maxLen] at h63; omega) hfit
  have hge := grownCap_ge G.w (h.len + n) h.cap e
  have hle := grownCap_le_maxLen G.w (h.len + n) h.cap e h63
  let cells := (olds ++ news).toArray ++ Builtin.zeroCells z.cells (grownCap G.w (h.len + n) h.cap e - (h.len + n))
  let G1 : Gh := { G with w := G.w.drew }
  have hk := newRow_κ G1 s cells e (h.len + n) (grownCap G.w (h.len + n) h.cap e) i.size
  refine ⟨G1.newRow s cells e (h.len + n) (grownCap G.w (h.len + n) h.cap e) i.size, ?_, ⟨rfl, rfl, rfl, ?_, ?_, fun r hr => by simp [Gh.newRow, Gh.setK, Gh.alloc, G1, hr], fun _ => rfl⟩, by rw [hk], by rw [hk, hhs], ?_⟩
  ·rw [hk]
   show (Builtin.append_ #[t, tx] ty #[.slice (h.addr 0) h.len h.cap, x]).run P G.w = _
   rw [hrun]
   rfl
  ·show G.w.heap.size ≤ (G.w.heap.push _).size
   rw [Array.size_push]; omega
  ·intro b hb _
   exact ⟨heap_alloc_old G.w.drew _ b hb, by simp [Gh.newRow, Gh.setK, Gh.alloc, G1, Nat.ne_of_lt hb]⟩
  ·rw [hk]
   have hlen : (olds ++ news).length = (h.len + n) * i.size := by rw [List.length_append, hol, hnl, Nat.add_mul]
   refine ⟨hlen, hge, hle, ?_⟩
   refine ⟨by simp [Gh.newRow, Gh.setK, Gh.alloc, G1], cells, e, newRow_heap .., ?_, ?_⟩
   ·simp only [cells, Array.size_append, List.size_toArray, hlen, Builtin.zeroCells, Array.size_map, Array.size_range, hzs]
    rw [← Nat.add_mul]
    congr 1
    omega
   ·simp only [cells, Array.toList_append]
    rw [← hlen]
    exact List.take_left
end Go.Tv
set_option autoImplicit false
namespace Go.Tv
open Go
variable [Env]
variable {P : Program} {G G' : Gh} {X : Ctx} {F U : Nat → Prop} {kl : Bool} {o : Oper} {st : St}
theorem Sq.same {e : List Ct} {p q : Sq} (hp : p.fits e = true) (hq : q.fits e = true) :
 (∃ xs ys, p = .ints xs ∧ q = .ints ys) ∨ (∃ xs ys, p = .bools xs ∧ q = .bools ys) ∨ (∃ xs ys, p = .strs xs ∧ q = .strs ys) ∨ (∃ xs ys, p = .cells xs ∧ q = .cells ys) := by
 match e with
 | [] => cases p <;> simp [Sq.fits] at hp
 | [t] => cases t <;> cases p <;> simp [Sq.fits] at hp <;> cases q <;> simp [Sq.fits] at hq <;> simp
 | t :: t' :: ts => cases t <;> cases p <;> simp [Sq.fits] at hp <;> cases q <;> simp [Sq.fits] at hq <;> simp
theorem Sq.len_app {e : List Ct} {p q : Sq} (hp : p.fits e = true) (hq : q.fits e = true) : (p.app q).len = p.len + q.len := by
 rcases Sq.same hp hq with ⟨xs, ys, rfl, rfl⟩ | ⟨xs, ys, rfl, rfl⟩ | ⟨xs, ys, rfl, rfl⟩ | ⟨xs, ys, rfl, rfl⟩ <;> simp [Sq.app, Sq.len]
theorem Sq.fits_app {e : List Ct} {p q : Sq} (hp : p.fits e = true) (hq : q.fits e = true) : (p.app q).fits e = true := by
 rcases Sq.same hp hq with ⟨xs, ys, rfl, rfl⟩ | ⟨xs, ys, rfl, rfl⟩ | ⟨xs, ys, rfl, rfl⟩ | ⟨xs, ys, rfl, rfl⟩ <;> exact hp
theorem Sq.get_app_l {e : List Ct} {p q : Sq} (hp : p.fits e = true) (hq : q.fits e = true) {i : Nat} (hi : i < p.len) : (p.app q).get i = p.get i := by
 rcases Sq.same hp hq with ⟨xs, ys, rfl, rfl⟩ | ⟨xs, ys, rfl, rfl⟩ | ⟨xs, ys, rfl, rfl⟩ | ⟨xs, ys, rfl, rfl⟩ <;> simp only [Sq.len] at hi <;> simp [Sq.app, Sq.get, List.getElem?_append_left hi]
theorem Sq.get_app_r {e : List Ct} {p q : Sq} (hp : p.fits e = true) (hq : q.fits e = true) (i : Nat) : (p.app q).get (p.len + i) = q.get i := by
 rcases Sq.same hp hq with ⟨xs, ys, rfl, rfl⟩ | ⟨xs, ys, rfl, rfl⟩ | ⟨xs, ys, rfl, rfl⟩ | ⟨xs, ys, rfl, rfl⟩ <;> simp [Sq.app, Sq.get, Sq.len, List.getElem?_append_right]
theorem ElsV.app {N1 N2 N : Nat → Nat → IntKind → List Int → Value → Prop} {e : List Ct} {p q : Sq} {l1 l2 : List Value} (hp : p.fits e = true) (hq : q.fits e = true)
 (h1 : ElsV N1 e p (l1[·]?)) (h2 : ElsV N2 e q (l2[·]?)) (hl : l1.length = p.len * e.length)
 (hN1 : ∀ i j k xs v, N1 i j k xs v → N i j k xs v) (hN2 : ∀ i j k xs v, N2 i j k xs v → N (p.len + i) j k xs v) : ElsV N e (p.app q) ((l1 ++ l2)[·]?) := by
 intro i j t hi hj
 rw [Sq.len_app hp hq] at hi
 have hjl : j < e.length := (List.getElem?_eq_some_iff.1 hj).1
 by_cases hip : i < p.len
 ·obtain ⟨v, c, a1, a2, a3⟩ := h1 i j t hip hj
  refine ⟨v, c, ?_, by rw [Sq.get_app_l hp hq hip]; exact a2, a3.mono (hN1 i j)⟩
  have hlt : i * e.length + j < l1.length := by
   rw [hl]
   have : (i + 1) * e.length ≤ p.len * e.length := Nat.mul_le_mul_right _ hip
   rw [Nat.add_mul] at this; omega
  show (l1 ++ l2)[_]? = _
  rw [List.getElem?_append_left hlt]
  exact a1
 ·obtain ⟨m, rfl⟩ : ∃ m, i = p.len + m := ⟨i - p.len, by omega⟩
  obtain ⟨v, c, a1, a2, a3⟩ := h2 m j t (by omega) hj
  refine ⟨v, c, ?_, by rw [Sq.get_app_r hp hq]; exact a2, a3.mono (hN2 m j)⟩
  show (l1 ++ l2)[_]? = _
  rw [List.getElem?_append_right (by rw [hl, Nat.add_mul]; omega), ← a1]
  congr 1
  rw [hl, Nat.add_mul]; omega
end Go.Tv
set_option autoImplicit false
namespace Go.Tv
open Go
variable [Env]
variable {P : Program} {G G' : Gh} {X : Ctx} {F U : Nat → Prop} {kl : Bool} {o : Oper} {st : St}
/-- how a row's content is had when its row is st0, behind n others -/
def NA (G : Gh) (eu : Bool) (st0 n i j : Nat) : IntKind → List Int → Value → Prop := NN G st0 eu (n + i) j
theorem CellV.flat {N N' : IntKind → List Int → Value → Prop} {t : Ct} {c : Cl} {v : Value} (ht : t.nested = false) (h : CellV N t c v) : CellV N' t c v := by
 cases t <;> cases c <;> simp only [CellV] at h ⊢ <;> first | exact h | cases ht
theorem flat_of {e : List Ct} (h : nested e = false) {j : Nat} {t : Ct} (ht : e[j]? = some t) : t.nested = false := by
 unfold nested at h
 rw [List.any_eq_false] at h
 simpa using h t (List.mem_of_getElem? ht)
theorem ElsV.flat {N N' : Nat → Nat → IntKind → List Int → Value → Prop} {e : List Ct} {q : Sq} {f : Nat → Option Value} (h : nested e = false) (he : ElsV N e q f) : ElsV N' e q f := by
 intro i j t hi hj
 obtain ⟨v, c, h1, h2, h3⟩ := he i j t hi hj
 exact ⟨v, c, h1, h2, h3.flat (flat_of h hj)⟩
/-- cells in memory, as a list -/
theorem els_list {N : Nat → Nat → IntKind → List Int → Value → Prop} {e : List Ct} {q : Sq} {f : Nat → Option Value} (hN : ∀ i j k xs v, N i j k xs v → v.oneCell' = true) (he : ElsV N e q f) :
 ∃ news : List Value, news.length = q.len * e.length ∧ (∀ j v, news[j]? = some v → f j = some v) ∧ (∀ v ∈ news, v.oneCell' = true) ∧ ElsV N e q (news[·]?) := by
 by_cases hz : e.length = 0
 ·refine ⟨[], by simp [hz], fun j v h => by simp at h, fun v h => (by cases h), fun i j t hi hj => ?_⟩
  have := (List.getElem?_eq_some_iff.1 hj).1
  omega
 have hcell : ∀ k, k < q.len * e.length → ∃ v c t, f k = some v ∧ e[k % e.length]? = some t ∧ (q.get (k / e.length))[k % e.length]? = some c ∧ CellV (N (k / e.length) (k % e.length)) t c v := by
  intro k hk
  have hi : k / e.length < q.len := (Nat.div_lt_iff_lt_mul (by omega)).2 hk
  have hj : k % e.length < e.length := Nat.mod_lt _ (by omega)
  obtain ⟨v, c, h1, h2, h3⟩ := he (k / e.length) (k % e.length) _ hi (List.getElem?_eq_getElem hj)
  refine ⟨v, c, _, ?_, List.getElem?_eq_getElem hj, h2, h3⟩
  have : k / e.length * e.length + k % e.length = k := by rw [Nat.mul_comm]; exact Nat.div_add_mod k e.length
  rw [this] at h1
  exact h1
 refine ⟨(List.range (q.len * e.length)).map fun k => (f k).getD undef, by simp, ?_, ?_, ?_⟩
 ·intro j v hv
  rw [List.getElem?_map] at hv
  by_cases hj : j < q.len * e.length
  ·rw [List.getElem?_range hj] at hv
   obtain ⟨u, c, t, h1, _⟩ := hcell j hj
   simp only [Option.map_some, h1, Option.getD_some, Option.some.injEq] at hv
   rw [h1, hv]
  ·rw [List.getElem?_eq_none (by simpa using hj)] at hv
   cases hv
 ·intro v hv
  obtain ⟨k, hk, rfl⟩ := List.mem_map.1 hv
  obtain ⟨u, c, t, h1, _, _, h3⟩ := hcell k (List.mem_range.1 hk)
  rw [h1]
  exact h3.oneCell (hN _ _)
 ·intro i j t hi hj
  obtain ⟨v, c, h1, h2, h3⟩ := he i j t hi hj
  refine ⟨v, c, ?_, h2, h3⟩
  have hjl : j < e.length := (List.getElem?_eq_some_iff.1 hj).1
  have hlt : i * e.length + j < q.len * e.length := by
   have : (i + 1) * e.length ≤ q.len * e.length := Nat.mul_le_mul_right _ hi
   rw [Nat.add_mul] at this; omega
  show ((List.range _).map _)[_]? = _
  rw [List.getElem?_map, List.getElem?_range hlt]
  simp [h1]
/-- relabelled: blocks that are read by all stay so -/
theorem IntsV.ren {f : Tag → Tag} (hf : f .imm = .imm) {k : IntKind} {xs : List Int} {v : Value} (h : IntsV G 2 k xs v) : IntsV (G.ren f) 2 k xs v := by
 obtain ⟨A, cap, rfl, hc, h⟩ := h
 refine ⟨A, cap, rfl, hc, ?_⟩
 rcases h with h | ⟨g, b, rfl, hl, h⟩
 ·exact .inl h
 ·refine .inr ⟨g, b, rfl, ?_, h⟩
  have : G.who g = .imm := by
   cases ht : G.who g <;> rw [ht] at hl <;> simp only [lvl] at hl <;> first | rfl | omega
  show lvl 2 (f (G.who g))
  rw [this, hf]
  trivial
theorem Blk.ren {f : Tag → Tag} {t : Tag} {h : Hd} {cells : List Value} (hb : Blk G t h cells) : Blk (G.ren f) (f t) h cells := by
 obtain ⟨h1, h2, h3, hb⟩ := hb
 refine ⟨h1, h2, h3, ?_⟩
 cases hg : h.g with
 | none => rw [hg] at hb; exact hb
 | some g => rw [hg] at hb; obtain ⟨hw, hb⟩ := hb; exact ⟨by show f (G.who g) = f t; rw [hw], hb⟩
theorem OwnV.ren {f : Tag → Tag} {t : Tag} {k : IntKind} {xs : List Int} {v : Value} (h : OwnV G t k xs v) : OwnV (G.ren f) (f t) k xs v := by
 obtain ⟨h, h1, h2, hb⟩ := h
 exact ⟨h, h1, h2, hb.ren⟩
/-- what is its own and is told for ever from now on -/
theorem OwnV.imm {f : Tag → Tag} {t : Tag} (ht : f t = .imm) {k : IntKind} {xs : List Int} {v : Value} (h : OwnV G t k xs v) : IntsV (G.ren f) 2 k xs v :=
 OwnV.ints (x := 2) (t := .imm) trivial (ht ▸ h.ren)
theorem Src.ofAny {size : Nat} {tx e' : TypeId} (hk : P.underlying tx = some (.slice e')) {A : Option Addr} {n c : Nat} {news : List Value} {w : World} (hl : news.length = n * size)
 (hnews : n = 0 ∨ ∃ g o, A = some ⟨g, o, none⟩ ∧ ∀ j u, news[j]? = some u → w.cell? ⟨g, o + j, none⟩ = some u) (h1 : ∀ u ∈ news, u.oneCell' = true) : Src P size tx (.slice A n c) n news w := by
 rcases hnews with h0 | ⟨g, o, rfl, h⟩
 ·subst h0
  have : news = [] := List.length_eq_zero_iff.1 (by omega)
  subst this
  cases A with
  | none => exact Src.ofNil w hk c
  | some a => exact Src.ofSlice w hk a 0 c [] (by simp) (fun j u h => by simp at h) h1
 ·exact Src.ofSlice w hk ⟨g, o, none⟩ n c news hl (fun j u hu => by rw [Addr.add_none]; exact h j u hu) h1
/-- what an appended value gives: its cells, and how they are told when the labels have changed -/
structure SrcOk (P : Program) (G : Gh) (tx : TypeId) (e : List Ct) (q : Sq) (eu : Bool) (us : List Upd) (fs : (eu' : Bool) → (st0 n : Nat) → Tag → Tag) (v : Value) : Prop where
 ok : ∃ news : List Value, Src P e.length tx v q.len news G.w ∧ q.fits e = true ∧
  ∀ (f : Tag → Tag) (eu' : Bool) (st0 n : Nat), f .imm = .imm → (eu' = true → eu = true) → (∀ t m, t.owner = some m → Us us m → f t = fs eu' st0 n t) →
   ElsV (NA (G.ren f) eu' st0 n) e q (news[·]?) ∧ UpdsOk (G.ren f) us
theorem src_tr {tx e' : TypeId} {x y : Nat} {e : List Ct} {q : Sq} {v : Value} {fs : Bool → Nat → Nat → Tag → Tag} (hk : P.underlying tx = some (.slice e')) (h : TrV G x y e q v) (hy : y = 2 ∨ nested e = false) :
 SrcOk P G tx e q (!nested e) [] fs v := by
 obtain ⟨A, cap, rfl, hf, hq⟩ := h
 by_cases h0 : q.len = 0
 ·refine ⟨[], Src.ofAny hk (by simp [h0]) (.inl h0) (fun _ h => by cases h), hf.1, fun f eu' st0 n _ _ _ => ⟨?_, UpdsOk.nil _⟩⟩
  intro i j t hi; omega
 ·rcases hq with hq | ⟨g, b, rfl, hl, hq⟩
  ·exact absurd hq h0
  ·obtain ⟨news, h1, h2, h3, h4⟩ := els_list (fun _ _ k xs v h => IntsV.oneCell h) hq
   refine ⟨news, Src.ofAny hk h1 (.inr ⟨g, b, rfl, h2⟩) h3, hf.1, fun f eu' st0 n hfi heu _ => ⟨?_, UpdsOk.nil _⟩⟩
   cases hn : nested e with
   | false => exact ElsV.flat hn h4
   | true =>
    rw [hn] at heu hy
    have : eu' = false := by cases eu' with | false => rfl | true => exact absurd (heu rfl) (by simp)
    subst this
    rcases hy with rfl | hy
    ·exact h4.mono (fun i j k xs v h => IntsV.ren hfi h) (fun _ _ h => h)
    ·cases hy
end Go.Tv
set_option autoImplicit false
namespace Go.Tv
open Go
variable [Env]
variable {P : Program} {G G' : Gh} {X : Ctx} {F U : Nat → Prop} {kl : Bool} {o : Oper} {st : St}
theorem src_str {tx : TypeId} {s : ByteArray} {fs : Bool → Nat → Nat → Tag → Tag} (hk : P.underlying tx = some .string) : SrcOk P G tx [.int .u8] (.ints (bytesOf s)) true [] fs (.string s) := by
 have hl : (Sq.ints (bytesOf s)).len = s.size := by
  show (bytesOf s).length = s.size
  unfold bytesOf
  rw [List.length_map, Array.length_toList]
  rfl
 refine ⟨byteCells s, by rw [hl]; exact Src.ofString G.w hk s, rfl, fun f eu' st0 n _ _ _ => ⟨?_, UpdsOk.nil _⟩⟩
 intro i j t hi hj
 cases j with
 | succ j => simp at hj
 | zero =>
  cases hj
  have hi' : i < (bytesOf s).length := hi
  have hi2 : i < s.data.toList.length := by unfold bytesOf at hi'; simpa using hi'
  refine ⟨.int .u8 (s.data.toList[i].toNat : Int), .i (s.data.toList[i].toNat : Int), ?_, ?_, rfl⟩
  ·show (byteCells s)[i * 1 + 0]? = _
   rw [Nat.mul_one, Nat.add_zero]
   unfold byteCells
   rw [List.getElem?_map, List.getElem?_eq_getElem hi2]
   rfl
  ·show ([Cl.i ((bytesOf s).getD i 0)])[0]? = _
   unfold bytesOf
   simp [List.getD_eq_getElem?_getD, List.getElem?_eq_getElem hi2]
/-- a row's part, read -/
theorem row_part {r : Nat} {R : Row} {b n : Nat} (h : RowOk G r R) (hlive : R.live ≤ 1) (hn : b + n ≤ R.q.len) :
 ∃ news : List Value, news.length = n * R.e.length ∧ (n = 0 ∨ ∃ g, (G.κ r).g = some g ∧ ∀ j u, news[j]? = some u → G.w.cell? ⟨g, b * R.e.length + j, none⟩ = some u) ∧ (∀ u ∈ news, u.oneCell' = true) ∧
  ElsV (fun i => NN G r R.eu (b + i)) R.e (R.q.sub b n) (news[·]?) := by
 obtain ⟨h1, h2, h3, h4, h5, h6, h7⟩ := h
 obtain ⟨cells, hb, he⟩ := h6 hlive
 have hsub := he.sub b n hn
 obtain ⟨news, a1, a2, a3, a4⟩ := els_list (fun _ _ k xs v h => NN.oneCell h) hsub
 rw [Sq.len_sub _ _ _ hn] at a1
 refine ⟨news, a1, ?_, a3, a4⟩
 by_cases h0 : n = 0
 ·exact .inl h0
 ·right
  cases hg : (G.κ r).g with
  | none => have := h4 hg; omega
  | some g => exact ⟨g, rfl, fun j u hu => hb.cell hg (a2 j u hu)⟩
theorem src_flat {tx e' : TypeId} {r : Nat} {R : Row} {fs : Bool → Nat → Nat → Tag → Tag} (hk : P.underlying tx = some (.slice e')) (h : RowOk G r R) (hl : R.live ≤ 1) (hn : nested R.e = false) :
 SrcOk P G tx R.e R.q true [] fs (G.κ r).val := by
 obtain ⟨news, a1, a2, a3, a4⟩ := row_part (b := 0) (n := R.q.len) h hl (by omega)
 rw [Sq.sub_all] at a4
 refine ⟨news, ?_, h.2.2.1, fun f eu' st0 n _ _ _ => ⟨ElsV.flat hn a4, UpdsOk.nil _⟩⟩
 have hv : (G.κ r).val = .slice ((G.κ r).addr 0) R.q.len (G.κ r).cap := by rw [Hd.val, h.1]
 rw [hv]
 refine Src.ofAny hk a1 ?_ a3
 rcases a2 with a2 | ⟨g, hg, a2⟩
 ·exact .inl a2
 ·exact .inr ⟨g, 0, by simp [Hd.addr, hg], fun j u hu => by have := a2 j u hu; simpa using this⟩
theorem src_part {tx e' : TypeId} {r b n : Nat} {R : Row} {fs : Bool → Nat → Nat → Tag → Tag} {v : Value} (hk : P.underlying tx = some (.slice e')) (h : RowOk G r R) (hl : R.live ≤ 1) (hn : nested R.e = false) (hv : RV G (.os r b n) v) :
 SrcOk P G tx R.e (R.q.sub b n) true [] fs v := by
 obtain ⟨A, c, rfl, ⟨hle, _⟩, hA, _⟩ := hv
 have hle : b + n ≤ R.q.len := by rw [h.1]; exact hle
 obtain ⟨news, a1, a2, a3, a4⟩ := row_part (b := b) (n := n) h hl hle
 refine ⟨news, ?_, by rw [Sq.fits_sub]; exact h.2.2.1, fun f eu' st0 m _ _ _ => ⟨ElsV.flat hn a4, UpdsOk.nil _⟩⟩
 rw [Sq.len_sub _ _ _ hle]
 refine Src.ofAny hk a1 ?_ a3
 rcases a2 with a2 | ⟨g, hg, a2⟩
 ·exact .inl a2
 ·rcases hA with hA | ⟨g', hg', rfl⟩
  ·exact .inl hA
  ·rw [hg] at hg'
   cases hg'
   refine .inr ⟨g, _, rfl, fun j u hu => ?_⟩
   rw [h.2.1]
   exact a2 j u hu
/-- a row whose content is shared, or moved -/
def fsShare (r : Nat) : Bool → Nat → Nat → Tag → Tag
 | _, _, _, .row r' => if r' = r then .imm else .row r'
 | _, _, _, .nest r' i j => if r' = r then .imm else .nest r' i j
 | _, _, _, t => t
def fsMove (r : Nat) : Bool → Nat → Nat → Tag → Tag
 | eu', st0, n, .nest r' i j => if r' = r then (if eu' then .nest st0 (n + i) j else .imm) else .nest r' i j
 | _, _, _, t => t
theorem Us_row {r : Nat} {R : Row} : Us [.row r R] (2 * r) := ⟨_, List.mem_singleton.2 rfl, rfl, rfl⟩
theorem src_share {tx e' : TypeId} {r : Nat} {R : Row} (hk : P.underlying tx = some (.slice e')) (h : RowOk G r R) (hl : R.live ≤ 1) :
 SrcOk P G tx R.e R.q false [.row r { R with live := 1, eu := false }] (fsShare r) (G.κ r).val := by
 obtain ⟨news, a1, a2, a3, a4⟩ := row_part (b := 0) (n := R.q.len) h hl (by omega)
 rw [Sq.sub_all] at a4
 have hv : (G.κ r).val = .slice ((G.κ r).addr 0) R.q.len (G.κ r).cap := by rw [Hd.val, h.1]
 refine ⟨news, ?_, h.2.2.1, fun f eu' st0 n hfi heu hf => ?_⟩
 ·rw [hv]
  refine Src.ofAny hk a1 ?_ a3
  rcases a2 with a2 | ⟨g, hg, a2⟩
  ·exact .inl a2
  ·exact .inr ⟨g, 0, by simp [Hd.addr, hg], fun j u hu => by have := a2 j u hu; simpa using this⟩
 ·have he0 : eu' = false := by cases eu' with | false => rfl | true => exact absurd (heu rfl) (by simp)
  subst he0
  have hfn : ∀ i j, f (.nest r i j) = .imm := fun i j => by rw [hf _ _ rfl Us_row]; simp [fsShare]
  have hfr : f (.row r) = .imm := by rw [hf _ _ rfl Us_row]; simp [fsShare]
  have hN : ∀ i j k xs v, NN G r R.eu i j k xs v → IntsV (G.ren f) 2 k xs v := by
   intro i j k xs v hh
   cases hE : R.eu with
   | true => rw [hE] at hh; exact OwnV.imm (hfn i j) hh
   | false => rw [hE] at hh; exact IntsV.ren hfi hh
  refine ⟨a4.mono (fun i j k xs v hh => hN (0 + i) j k xs v hh) (fun _ _ h => h), UpdsOk.row ?_⟩
  obtain ⟨h1, h2, h3, h4, h5, h6, h7⟩ := h
  refine ⟨h1, h2, h3, h4, h5, fun _ => ?_, fun h => by cases h⟩
  obtain ⟨cells, hb, he⟩ := h6 hl
  refine ⟨cells, ?_, he.mono (fun i j k xs v hh => hN i j k xs v hh) (fun _ _ h => h)⟩
  have := hb.ren (f := f)
  have ht : f (rtag r R.live) = .imm := by
   unfold rtag
   split
   ·exact hfr
   ·exact hfi
  rw [ht] at this
  exact this
theorem src_move {tx e' : TypeId} {r : Nat} {R : Row} (hk : P.underlying tx = some (.slice e')) (h : RowOk G r R) (hl : R.live = 0) (heu : R.eu = true) :
 SrcOk P G tx R.e R.q true [.row r { R with live := 2 }] (fsMove r) (G.κ r).val := by
 obtain ⟨news, a1, a2, a3, a4⟩ := row_part (b := 0) (n := R.q.len) h (by omega) (by omega)
 rw [Sq.sub_all] at a4
 have hv : (G.κ r).val = .slice ((G.κ r).addr 0) R.q.len (G.κ r).cap := by rw [Hd.val, h.1]
 refine ⟨news, ?_, h.2.2.1, fun f eu' st0 n hfi _ hf => ?_⟩
 ·rw [hv]
  refine Src.ofAny hk a1 ?_ a3
  rcases a2 with a2 | ⟨g, hg, a2⟩
  ·exact .inl a2
  ·exact .inr ⟨g, 0, by simp [Hd.addr, hg], fun j u hu => by have := a2 j u hu; simpa using this⟩
 ·have hfn : ∀ i j, f (.nest r i j) = if eu' then .nest st0 (n + i) j else .imm := fun i j => by rw [hf _ _ rfl Us_row]; simp [fsMove]
  refine ⟨a4.mono (fun i j k xs v hh => ?_) (fun _ _ h => h), UpdsOk.row ?_⟩
  ·rw [heu, Nat.zero_add] at hh
   cases eu' with
   | true => have := OwnV.ren (f := f) hh; rw [hfn] at this; exact this
   | false => exact OwnV.imm (hfn i j) hh
  ·obtain ⟨h1, h2, h3, h4, h5, h6, h7⟩ := h
   exact ⟨h1, h2, h3, h4, h5, (fun hh => by simp at hh), fun h => by cases h⟩
end Go.Tv
set_option autoImplicit false
namespace Go.Tv
open Go
variable [Env]
variable {P : Program} {G G' : Gh} {X : Ctx} {F U : Nat → Prop} {kl : Bool} {o : Oper} {st : St}
/-- the row that grows -/
structure BaseOk (G : Gh) (e : List Ct) (q0 : Sq) (eu0 : Bool) (rs : Option Nat) (v : Value) : Prop where
 ok : ∃ (h0 : Hd) (olds : List Value), v = h0.val ∧ h0.sz = e.length ∧ h0.len = q0.len ∧ q0.fits e = true ∧
  ∀ (f : Tag → Tag) (eu' : Bool) (st0 : Nat), f .imm = .imm → (eu' = true → eu0 = true) →
   (∀ r, rs = some r → f (.row r) = .row st0 ∧ ∀ i j, f (.nest r i j) = if eu' then .nest st0 i j else .imm) →
   Blk (G.ren f) (.row st0) h0 olds ∧ ElsV (NN (G.ren f) st0 eu') e q0 (olds[·]?)
theorem Sq.nil_fits {e : List Ct} (h : e ≠ []) : (Sq.nil e).fits e = true := by
 match e, h with
 | [t], _ => cases t <;> rfl
 | t :: t' :: ts, _ => cases t <;> rfl
theorem Sq.nil_app {e : List Ct} {q : Sq} (h : q.fits e = true) : (Sq.nil e).app q = q := by
 match e with
 | [] => cases q <;> simp [Sq.fits] at h
 | [t] => cases t <;> cases q <;> simp [Sq.fits] at h <;> rfl
 | t :: t' :: ts => cases t <;> cases q <;> simp [Sq.fits] at h <;> rfl
theorem base_nil {e : List Ct} (he : e ≠ []) : BaseOk G e (Sq.nil e) true none (.slice none 0 0) :=
 ⟨⟨none, 0, 0, e.length⟩, [], rfl, rfl, (Sq.len_nil e).symm, Sq.nil_fits he, fun f eu' st0 _ _ _ =>
  ⟨⟨by simp, Nat.le_refl _, by simp [maxLen], rfl⟩, fun i j t hi _ => by rw [Sq.len_nil] at hi; omega⟩⟩
theorem base_part {r : Nat} {R : Row} {n : Nat} (h : RowOk G r R) (hl : R.live = 0) (hn : n ≤ R.q.len) : BaseOk G R.e (R.q.sub 0 n) R.eu (some r) { G.κ r with len := n }.val := by
 obtain ⟨h1, h2, h3, h4, h5, h6, h7⟩ := h
 obtain ⟨cells, hb, he⟩ := h6 (by omega)
 rw [hl] at hb
 refine ⟨{ G.κ r with len := n }, cells.take (n * (G.κ r).sz), rfl, h2, (Sq.len_sub R.q 0 n (by omega)).symm, by rw [Sq.fits_sub]; exact h3, fun f eu' st0 hfi heu hf => ?_⟩
 obtain ⟨hfr, hfn⟩ := hf r rfl
 have hbt := (hb.take (n := n) (h1 ▸ hn)).ren (f := f)
 refine ⟨by rw [show f (rtag r 0) = .row st0 from hfr] at hbt; exact hbt, ?_⟩
 intro i j t hi hj
 rw [Sq.len_sub _ _ _ (by omega)] at hi
 obtain ⟨v, c, a1, a2, a3⟩ := he i j t (by omega) hj
 have hjl : j < R.e.length := (List.getElem?_eq_some_iff.1 hj).1
 have hlt : i * R.e.length + j < n * R.e.length := by
  have : (i + 1) * R.e.length ≤ n * R.e.length := Nat.mul_le_mul_right _ hi
  rw [Nat.add_mul] at this; omega
 refine ⟨v, c, ?_, by rw [Sq.get_sub _ _ _ _ (by omega) hi, Nat.zero_add]; exact a2, a3.mono fun k xs v hh => ?_⟩
 ·show (cells.take _)[_]? = _
  rw [h2, List.getElem?_take, if_pos hlt]
  exact a1
 ·cases hE : R.eu with
  | false =>
   rw [hE] at hh heu
   have : eu' = false := by cases eu' with | false => rfl | true => exact absurd (heu rfl) (by simp)
   subst this
   exact IntsV.ren hfi hh
  | true =>
   rw [hE] at hh
   cases eu' with
   | true => have := OwnV.ren (f := f) hh; rw [hfn] at this; exact this
   | false => exact OwnV.imm (hfn i j) hh
/-- the labels behind an append -/
def fApp (rs : Option Nat) (eu' : Bool) (st0 : Nat) (fs : Tag → Tag) : Tag → Tag
 | .row r' => if rs = some r' then .row st0 else fs (.row r')
 | .nest r' i j => if rs = some r' then (if eu' then .nest st0 i j else .imm) else fs (.nest r' i j)
 | t => t
theorem Keep.ints {s : Nat} (k : Keep s G G') {kd : IntKind} {xs : List Int} {v : Value} (h : IntsV G 2 kd xs v) : IntsV G' 2 kd xs v :=
 IntsV.step (U := fun n => n = 2 * s) (F := fun n => n = 2 * s) (kl := false) (k.step rfl rfl) (by intro h; cases h) h
theorem NN.keep {s : Nat} (k : Keep s G G') {r i j : Nat} {eu : Bool} {kd : IntKind} {xs : List Int} {v : Value} (h : NN G r eu i j kd xs v) : NN G' r eu i j kd xs v := by
 cases eu with
 | true => exact OwnV.keep k (by intro h; cases h) h
 | false => exact k.ints h
theorem append_ok {t tx ty : TypeId} {e : List Ct} {eb : Nat} {q0 q : Sq} {eu0 eu : Bool} {rs : Option Nat} {us : List Upd} {fs : Bool → Nat → Nat → Tag → Tag} {sv xv : Value} {st0 : Nat}
 (hsl : SlOk P t e eb) (hb : BaseOk G e q0 eu0 rs sv) (hs : SrcOk P G tx e q eu us fs xv) (hbytes : (q0.len + q.len) * eb ≤ 140737488355328) (h63 : q0.len + q.len ≤ maxLen)
 (hfix : ∀ t, (∀ m, t.owner = some m → ¬ Us us m) → fs (eu0 && eu) st0 q0.len t = t) (hlv : ∀ r i j, lvl 1 (fs (eu0 && eu) st0 q0.len (.nest r i j)))
 (hus : ∀ m, Us us m → ∃ r, m = 2 * r ∧ rs ≠ some r) (hF : F (2 * st0)) (hne : ∀ u ∈ us, ∀ n ∈ u.ids, n ≠ 2 * st0) (hU : ∀ m, Us us m → U m) (hUr : ∀ r, rs = some r → U (2 * r)) (hUs : U (2 * st0)) :
 ∃ G', (Builtin.append_ #[t, tx] ty #[sv, xv]).run P G.w = .ok (G'.κ st0).val G'.w ∧ Step U F false G G' ∧ UpdsOk G' us ∧ RowOk G' st0 ⟨e, q0.app q, eu0 && eu, 0, none⟩ := by
 obtain ⟨el, ie, z, hu, hi, hie, hby, hz, hzc, hnee⟩ := hsl.ok
 obtain ⟨h0, olds, rfl, hsz, hlen, hf0, hbase⟩ := hb.ok
 obtain ⟨news, hsrc, hfq, hnews⟩ := hs.ok
 let f := fApp rs (eu0 && eu) st0 (fs (eu0 && eu) st0 q0.len)
 have hfi : f .imm = .imm := rfl
 obtain ⟨hblk, helo⟩ := hbase f (eu0 && eu) st0 hfi (fun h => by simp only [Bool.and_eq_true] at h; exact h.1) (fun r hr => ⟨by simp [f, fApp, hr], fun i j => by simp [f, fApp, hr]⟩)
 obtain ⟨heln, hupd⟩ := hnews f (eu0 && eu) st0 q0.len hfi (fun h => by simp only [Bool.and_eq_true] at h; exact h.2) (fun t m hm hUm => by
  obtain ⟨r, rfl, hr⟩ := hus m hUm
  cases t <;> simp only [Tag.owner, Option.some.injEq] at hm
  ·cases hm
  ·cases hm
  ·cases hm
  ·rename_i r'
   have : r' = r := by omega
   subst this
   simp [f, fApp, hr]
  ·rename_i r' i j
   have : r' = r := by omega
   subst this
   simp [f, fApp, hr]
  ·omega)
 have hpos : 0 < ie.size := by rw [hie]; exact List.length_pos_iff.2 hnee
 have hzs : z.cells.size = ie.size := by rw [← Array.length_toList, hzc, hie]; simp
 obtain ⟨G', hrun, hkeep, hl', hs', hblk'⟩ := append_blk (P := P) (G := G.ren f) (t := t) (tx := tx) (ty := ty) hu hi hz hzs hpos hblk (by rw [hsz, hie]) (by rw [hie]; exact hsrc) (by rw [hby, hlen]; exact hbytes) (by rw [hlen]; exact h63)
 refine ⟨G', hrun, ?_, ?_, ?_⟩
 ·refine (Step.ren G f ?_ ?_).trans (hkeep.step hUs hF)
  ·intro t ht
   cases t with
   | row r =>
    have hr : rs ≠ some r := fun h => ht _ rfl (hUr r h)
    simp only [f, fApp, if_neg hr]
    exact hfix _ (fun m hm hUm => ht m hm (hU m hUm))
   | nest r i j =>
    have hr : rs ≠ some r := fun h => ht _ rfl (hUr r h)
    simp only [f, fApp, if_neg hr]
    exact hfix _ (fun m hm hUm => ht m hm (hU m hUm))
   | _ => rfl
  ·intro _ r i j
   simp only [f, fApp]
   split
   ·split
    ·rfl
    ·trivial
   ·exact hlv r i j
 ·refine hupd.step (U := fun n => n = 2 * st0) (F := fun n => n = 2 * st0) (hkeep.step rfl rfl) ?_ hne
  rintro n ⟨u, hu, hk, rfl⟩ h
  refine hne u hu u.id ?_ h
  cases u <;> simp [Upd.ids, Upd.id] <;> cases hk
 ·have hcap := hblk'.2.1
  refine ⟨by rw [hl', Sq.len_app hf0 hfq, hlen], by rw [hs', hsz], Sq.fits_app hf0 hfq, ?_, hcap, fun _ => ?_, fun h => by cases h⟩
  ·intro hg
   have := hblk'.2.2.2
   rw [hg] at this
   exact this
  ·refine ⟨olds ++ news, hblk', ElsV.app hf0 hfq helo heln (by rw [hblk.1, hlen, hsz]) (fun i j k xs v h => NN.keep hkeep h) (fun i j k xs v h => NN.keep hkeep h)⟩
end Go.Tv
set_option autoImplicit false
namespace Go.Tv
open Go
variable [Env]
variable {P : Program} {G G' : Gh} {X : Ctx} {F U : Nat → Prop} {kl : Bool} {o : Oper} {st : St}
theorem ctsBeq_eq {a b : List Ct} (h : ctsBeq a b = true) : a = b := of_decide_eq_true h
/-- which rows a source changes -/
inductive SrcRow (st : St) : List Upd → (Bool → Nat → Nat → Tag → Tag) → Prop where
 | none : SrcRow st [] (fun _ _ _ t => t)
 | share {r : Nat} {R : Row} (h : aget st.rows r = some R) : SrcRow st [.row r { R with live := 1, eu := false }] (fsShare r)
 | move {r : Nat} {R : Row} (h : aget st.rows r = some R) : SrcRow st [.row r { R with live := 2 }] (fsMove r)
theorem appSrc_ok {sh : Bool} {e : List Ct} {x : C} {q : Sq} {eu : Bool} {us : List Upd} (h : appSrc st sh e x = some (q, eu, us)) :
 ∃ fs, SrcRow st us fs ∧ ∀ (G : Gh) (a : Act), Ok G st a → ∀ v, RV G x v → ∀ tx, (if isStrC x then P.underlying tx = some .string else ∃ el, P.underlying tx = some (.slice el)) → SrcOk P G tx e q eu us fs v := by
 cases x with
 | str s =>
  simp only [appSrc] at h
  cases hc : ctsBeq e [.int .u8] with
  | false => rw [hc] at h; cases h
  | true =>
   rw [hc] at h
   have := ctsBeq_eq hc
   subst this
   cases h
   exact ⟨_, .none, fun G a hG v hv tx hk => by have hv : v = .string s := hv; subst hv; exact src_str hk⟩
 | tr x y e' q' =>
  simp only [appSrc] at h
  cases hc : (ctsBeq e e' && (Nat.beq y 2 || !nested e)) with
  | false => rw [hc] at h; cases h
  | true =>
   rw [hc] at h
   simp only [Bool.and_eq_true, Bool.or_eq_true, Bool.not_eq_true'] at hc
   have := ctsBeq_eq hc.1
   subst this
   cases h
   refine ⟨_, .none, fun G a hG v hv tx hk => ?_⟩
   obtain ⟨el, hk⟩ := hk
   exact src_tr hk hv (hc.2.imp Nat.eq_of_beq_eq_true id)
 | ow r =>
  simp only [appSrc] at h
  cases hR : aget st.rows r with
  | none => rw [hR] at h; cases h
  | some R =>
   rw [hR] at h
   simp only at h
   cases hc : ctsBeq e R.e with
   | false => rw [hc] at h; cases h
   | true =>
    have := ctsBeq_eq hc
    rw [hc] at h
    subst this
    cases hl : Nat.ble R.live 1 with
    | false => rw [hl] at h; cases h
    | true =>
     rw [hl] at h
     have hl := ble_le hl
     cases hn : nested R.e with
     | false =>
      rw [hn] at h
      cases h
      exact ⟨_, .none, fun G a hG v hv tx hk => by obtain ⟨el, hk⟩ := hk; have hv : v = (G.κ r).val := hv; subst hv; exact src_flat hk (hG.rows r R hR) hl hn⟩
     | true =>
      rw [hn] at h
      cases hs : (sh || !R.eu) with
      | true =>
       rw [hs] at h
       cases h
       exact ⟨_, .share hR, fun G a hG v hv tx hk => by obtain ⟨el, hk⟩ := hk; have hv : v = (G.κ r).val := hv; subst hv; exact src_share hk (hG.rows r R hR) hl⟩
      | false =>
       rw [hs] at h
       cases h0 : Nat.beq R.live 0 with
       | false => rw [h0] at h; cases h
       | true =>
        rw [h0] at h
        cases h
        simp only [Bool.or_eq_false_iff, Bool.not_eq_false'] at hs
        exact ⟨_, .move hR, fun G a hG v hv tx hk => by obtain ⟨el, hk⟩ := hk; have hv : v = (G.κ r).val := hv; subst hv; exact src_move hk (hG.rows r R hR) (Nat.eq_of_beq_eq_true h0) hs.2⟩
 | os r b n =>
  simp only [appSrc] at h
  cases hR : aget st.rows r with
  | none => rw [hR] at h; cases h
  | some R =>
   rw [hR] at h
   simp only at h
   cases hc : (ctsBeq e R.e && !nested e && Nat.ble R.live 1) with
   | false => rw [hc] at h; cases h
   | true =>
    rw [hc] at h
    simp only [Bool.and_eq_true, Bool.not_eq_true'] at hc
    have := ctsBeq_eq hc.1.1
    subst this
    cases h
    exact ⟨_, .none, fun G a hG v hv tx hk => by obtain ⟨el, hk⟩ := hk; exact src_part hk (hG.rows r R hR) (ble_le hc.2) hc.1.2 hv⟩
 | _ => cases h
end Go.Tv
namespace Go.Tv
open Go
variable [Env]
variable {P : Program} {G G' : Gh} {X : Ctx} {F U : Nat → Prop} {kl : Bool} {o : Oper} {st : St}
theorem UpdsOk.del {r : Nat} : UpdsOk G [.del r] := ⟨fun r' R h => by simp [applyU, apply1, adel, aget] at h, fun b cs h => by simp [applyU, apply1, aget] at h⟩
theorem SrcRow.facts {us : List Upd} {fs : Bool → Nat → Nat → Tag → Tag} (h : SrcRow st us fs) :
 (∀ eu' st0 n t, (∀ m, t.owner = some m → ¬ Us us m) → fs eu' st0 n t = t) ∧ (∀ eu' st0 n r i j, lvl 1 (fs eu' st0 n (.nest r i j))) ∧
 (∀ u ∈ us, ∃ r R, u = .row r R ∧ ∀ n ∈ Upd.ids (.row r R), st.Names n) ∧ isK us = false := by
 cases h with
 | none => exact ⟨fun _ _ _ _ _ => rfl, fun _ _ _ _ _ _ => rfl, fun u hu => (by cases hu), rfl⟩
 | share hr =>
  rename_i r R
  refine ⟨fun eu' st0 n t ht => ?_, fun eu' st0 n r' i j => ?_, fun u hu => ?_, rfl⟩
  ·cases t with
   | row r' => have : r' ≠ r := by intro e; subst e; exact ht _ rfl Us_row
               simp [fsShare, this]
   | nest r' i j => have : r' ≠ r := by intro e; subst e; exact ht _ rfl Us_row
                    simp [fsShare, this]
   | _ => rfl
  ·simp only [fsShare]; split <;> first | trivial | rfl
  ·rw [List.mem_singleton] at hu; subst hu; exact ⟨_, _, rfl, fun n hn => .inr (.inl ⟨_, _, hr, List.mem_cons.1 hn⟩)⟩
 | move hr =>
  rename_i r R
  refine ⟨fun eu' st0 n t ht => ?_, fun eu' st0 n r' i j => ?_, fun u hu => ?_, rfl⟩
  ·cases t with
   | nest r' i j => have : r' ≠ r := by intro e; subst e; exact ht _ rfl Us_row
                    simp [fsMove, this]
   | _ => rfl
  ·simp only [fsMove]; split
   ·split <;> first | trivial | rfl
   ·rfl
  ·rw [List.mem_singleton] at hu; subst hu; exact ⟨_, _, rfl, fun n hn => .inr (.inl ⟨_, _, hr, List.mem_cons.1 hn⟩)⟩
def delOf : Option Nat → List Upd | some r => [.del r] | none => []
/-- a row that grows: the operation -/
theorem append_act {t tx : TypeId} {e : List Ct} {eb : Nat} {q0 q : Sq} {eu0 eu : Bool} {rs : Option Nat} {us : List Upd} {fs : Bool → Nat → Nat → Tag → Tag} {st0 : Nat} {s x : Operand} {cl : Call} (hN : ∀ n, st.Names n → ¬ F n)
 (ho : o.op = .call cl) (hcb : cl.callee = .builtin .append) (ha : cl.args.toList = [s, x]) (hts : cl.argTypes.toList = [t, tx])
 (hsl : SlOk P t e eb) (hb : ∀ G a, Ok G st a → BaseOk G e q0 eu0 rs (a.eval s)) (hr : SrcRow st us fs) (hs : ∀ G a, Ok G st a → SrcOk P G tx e q eu us fs (a.eval x))
 (hbytes : (q0.len + q.len) * eb ≤ 140737488355328) (hrs : ∀ r, rs = some r → us.any (Upd.isRow r) = false) (hF : F (2 * st0)) :
 ActOk P F o st (one (.ow st0)) (us ++ (delOf rs ++ [.row st0 ⟨e, q0.app q, eu0 && eu, 0, none⟩])) := by
 intro G a hG next Q hn
 obtain ⟨f1, f2, f3, f4⟩ := hr.facts
 have ea : cl.args = #[s, x] := by rw [← Array.toArray_toList (xs := cl.args), ha]
 have et : cl.argTypes = #[t, tx] := by rw [← Array.toArray_toList (xs := cl.argTypes), hts]
 have h63 : q0.len + q.len ≤ maxLen := by
  have h1 : q0.len + q.len ≤ (q0.len + q.len) * eb := Nat.le_mul_of_pos_right _ hsl.pos
  simp only [maxLen]; omega
 have hus : ∀ m, Us us m → ∃ r, m = 2 * r ∧ rs ≠ some r := by
  rintro m ⟨u, hu, hk, rfl⟩
  obtain ⟨r, R, rfl, _⟩ := f3 u hu
  refine ⟨r, rfl, fun h => ?_⟩
  have := hrs r h
  rw [List.any_eq_false] at this
  exact absurd (by simp [Upd.isRow]) (this _ hu)
 let us' := us ++ (delOf rs ++ [Upd.row st0 ⟨e, q0.app q, eu0 && eu, 0, none⟩])
 have hk' : isK us' = false := by
  simp only [us', isK_append, f4]
  cases rs <;> rfl
 obtain ⟨G', hrun, hstep, hupd, hrow⟩ := append_ok (P := P) (ty := o.type) (U := Us us') (F := F) hsl (hb G a hG) (hs G a hG) hbytes h63 (f1 _ _ _) (f2 _ _ _) hus hF
  (fun u hu n hn e => by
   obtain ⟨r, R, rfl, hnm⟩ := f3 u hu
   exact hN _ (hnm n hn) (e ▸ hF))
  (fun m hm => Us_append.2 (.inl hm)) (fun r hr => by subst hr; exact Us_append.2 (.inr (Us_append.2 (.inl ⟨_, List.mem_singleton.2 rfl, rfl, rfl⟩))))
  (Us_append.2 (.inr (Us_append.2 (.inr Us_row))))
 refine wp_value (val := (G'.κ st0).val) (w' := G'.w) ?_ (hn G' _ (by have h := hstep; rw [← hk'] at h; exact h) (TVV.one rfl) ?_)
 ·unfold execOp
  rw [ho]
  simp [resolve, hcb, ea, et, invoke, builtin, hrun]
 ·refine UpdsOk.append hupd (UpdsOk.append ?_ (UpdsOk.row hrow) rfl) (by cases rs <;> rfl)
  cases rs with
  | some r => exact UpdsOk.del
  | none => exact UpdsOk.nil _
end Go.Tv
namespace Go.Tv
open Go
variable [Env]
variable {P : Program} {G G' : Gh} {X : Ctx} {F U : Nat → Prop} {kl : Bool} {o : Oper} {st : St}
theorem append_nil {w : World} {t tx ty el : TypeId} {sv : Value} {A : Option Addr} {n cap : Nat} {ie : TypeInfo} (hu : P.underlying t = some (.slice el)) (hi : P.info? el = some ie) (hk : ∃ el, P.underlying tx = some (.slice el)) (hs : sv = .slice A n cap) (hn : n ≤ cap) :
 (Builtin.append_ #[t, tx] ty #[sv, .slice none 0 0]).run P w = .ok sv w := by
 obtain ⟨el', hk⟩ := hk
 subst hs
 cases A with
 | none => simp [Builtin.append_, run_underlying hu, run_underlying hk, sizeOf, typeInfo, hi, Builtin.lenOf, hn, Builtin.firstCells]
 | some a => simp [Builtin.append_, run_underlying hu, run_underlying hk, sizeOf, typeInfo, hi, Builtin.lenOf, hn, Builtin.firstCells, storeCells]
theorem act_append (hΓ : ΓOk P X) (hN : ∀ n, st.Names n → ¬ F n) {t tx : TypeId} {e : List Ct} {eb : Nat} {fl : List (Nat × Nat × Bool)} {s x : Operand} {cl : Call} {st0 : Nat} {sh : Bool} {K : TV → List Upd → Option Res} {r : Res}
 (ho : o.op = .call cl) (hcb : cl.callee = .builtin .append) (ha : cl.args.toList = [s, x]) (hts : cl.argTypes.toList = [t, tx])
 (ht : aget X.Γ t = some ⟨false, [.sl e eb], fl⟩) (hx : szOk X st tx (ev1 st x) = true) (hF : F (2 * st0)) (h : appendK st0 st sh e eb (ev1 st s) (ev1 st x) K = some r) :
 ∃ v us, K v us = some r ∧ ActOk P F o st v us := by
 obtain ⟨b, hb', hsl⟩ := (hΓ t _ ht).flat rfl
 cases hb'
 have hsl : SlOk P t e eb := hsl
 obtain ⟨el, ie, z, hu, hi, hie, hby, hz, hzc, hnee⟩ := hsl.ok
 have ea : cl.args = #[s, x] := by rw [← Array.toArray_toList (xs := cl.args), ha]
 have et : cl.argTypes = #[t, tx] := by rw [← Array.toArray_toList (xs := cl.argTypes), hts]
 by_cases hxn : ev1 st x = .nil
 ·rw [hxn] at h
  have hxt : ∃ el, P.underlying tx = some (.slice el) := by
   rw [hxn] at hx
   simp only [szOk] at hx
   cases hn : slSz X tx with
   | none => rw [hn] at hx; cases hx
   | some n => obtain ⟨e', eb', h1, _⟩ := slSz_ok hΓ hn; obtain ⟨el, _, _, h2, _⟩ := h1.ok; exact ⟨el, h2⟩
  have key : ∀ c, ev1 st s = c → (∀ (G : Gh) (a : Act), Ok G st a → ∃ A n cap, a.eval s = .slice A n cap ∧ n ≤ cap) → ActOk P F o st (one c) [] := fun c hc hcap => .pure fun G a hG => by
   obtain ⟨A, n, cap, hs, hn⟩ := hcap G a hG
   have hxv : a.eval x = .slice none 0 0 := by have := ev1_ok hG x; rw [hxn] at this; exact this
   have hcv := ev1_ok hG s
   rw [hc] at hcv
   refine ⟨a.eval s, ?_, TVV.one hcv⟩
   have := append_nil (P := P) (w := G.w) (ty := o.type) hu hi hxt hs hn
   unfold execOp
   rw [ho]
   simp [resolve, hcb, ea, et, invoke, builtin, hxv, this]
  simp only [appendK] at h
  split at h
  ·rename_i hc
   exact ⟨_, _, h, key _ hc fun G a hG => ⟨_, _, _, by have := ev1_ok hG s; rw [hc] at this; exact this, Nat.le_refl _⟩⟩
  ·rename_i r' hc
   cases hR : aget st.rows r' with
   | none => rw [hR] at h; cases h
   | some R =>
    rw [hR] at h
    refine ⟨_, _, h, key _ hc fun G a hG => ?_⟩
    have hv := ev1_ok hG s
    rw [hc] at hv
    exact ⟨_, _, _, hv, (hG.rows _ R hR).2.2.2.2.1⟩
  ·cases h
 ·have h : appendG st0 st sh e eb (ev1 st s) (ev1 st x) K = some r := by
   unfold appendK at h
   split at h
   ·rename_i hc; exact absurd hc hxn
   ·exact h
  unfold appendG at h
  cases hsrc : appSrc st sh e (ev1 st x) with
  | none => rw [hsrc] at h; cases h
  | some p =>
   obtain ⟨q, eu, us⟩ := p
   rw [hsrc] at h
   simp only at h
   obtain ⟨fs, hr, hs⟩ := appSrc_ok (P := P) hsrc
   have hs' : ∀ G a, Ok G st a → SrcOk P G tx e q eu us fs (a.eval x) := fun G a hG => by
    refine hs G a hG _ (ev1_ok hG x) tx ?_
    rcases szOk_ok hΓ hG hx with ⟨h1, h2⟩ | ⟨h1, e', eb', h2, _⟩
    ·rw [if_pos h1]; exact h2
    ·rw [h1]; obtain ⟨el, _, _, h3, _⟩ := h2.ok; exact ⟨el, h3⟩
   cases hc : ev1 st s with
   | nil =>
    rw [hc] at h
    simp only at h
    cases hd : decide (q.len * eb ≤ 140737488355328) with
    | false => rw [hd] at h; cases h
    | true =>
     rw [hd] at h
     simp only [decide_eq_true_eq] at hd
     refine ⟨_, _, h, ?_⟩
     by_cases hfq : q.fits e = true
     ·have := append_act (P := P) (F := F) hN ho hcb ha hts hsl (q0 := Sq.nil e) (eu0 := true) (rs := none) (fun G a hG => by
       have hv := ev1_ok hG s; rw [hc] at hv; have hv : a.eval s = .slice none 0 0 := hv; rw [hv]; exact base_nil hnee) hr hs' (by rw [Sq.len_nil, Nat.zero_add]; exact hd) (fun r hr => by cases hr) hF
      rw [Sq.nil_app hfq] at this
      simpa [delOf] using this
     ·intro G a hG
      obtain ⟨_, _, hf, _⟩ := (hs' G a hG).ok
      exact absurd hf hfq
   | ow r' =>
    rw [hc] at h
    simp only at h
    cases hR : aget st.rows r' with
    | none => rw [hR] at h; cases h
    | some R =>
     rw [hR] at h
     simp only at h
     cases hcd : (ctsBeq e R.e && Nat.beq R.live 0 && !us.any (Upd.isRow r')) with
     | false => rw [hcd] at h; cases h
     | true =>
      rw [hcd] at h
      simp only [Bool.and_eq_true, Bool.not_eq_true'] at hcd
      have := ctsBeq_eq hcd.1.1
      subst this
      cases hd : decide ((R.q.len + q.len) * eb ≤ 140737488355328) with
      | false => rw [hd] at h; cases h
      | true =>
       rw [hd] at h
       simp only [decide_eq_true_eq] at hd
       refine ⟨_, _, h, ?_⟩
       exact append_act (P := P) (F := F) hN ho hcb ha hts hsl (q0 := R.q) (eu0 := R.eu) (rs := some r') (fun G a hG => by
        have hv := ev1_ok hG s
        rw [hc] at hv
        have hv : a.eval s = (G.κ r').val := hv
        have hrow := hG.rows r' R hR
        have := base_part (n := R.q.len) hrow (Nat.eq_of_beq_eq_true hcd.1.2) (Nat.le_refl _)
        rw [Sq.sub_all] at this
        rw [hv]
        have e1 : ({ G.κ r' with len := R.q.len } : Hd) = G.κ r' := by rw [hrow.1]
        rw [e1] at this
        exact this) hr hs' hd (fun r hr => by cases hr; exact hcd.2) hF
   | os r' b n =>
    rw [hc] at h
    simp only at h
    cases hR : aget st.rows r' with
    | none => rw [hR] at h; cases h
    | some R =>
     rw [hR] at h
     simp only at h
     cases hcd : (Nat.beq b 0 && ctsBeq e R.e && Nat.beq R.live 0 && !us.any (Upd.isRow r')) with
     | false => rw [hcd] at h; cases h
     | true =>
      rw [hcd] at h
      simp only [Bool.and_eq_true, Bool.not_eq_true'] at hcd
      have := ctsBeq_eq hcd.1.1.2
      subst this
      have hb0 := Nat.eq_of_beq_eq_true hcd.1.1.1
      subst hb0
      cases hd : decide ((n + q.len) * eb ≤ 140737488355328) with
      | false => rw [hd] at h; cases h
      | true =>
       rw [hd] at h
       simp only [decide_eq_true_eq] at hd
       refine ⟨_, _, h, ?_⟩
       by_cases hnl : n ≤ R.q.len
       ·exact append_act (P := P) (F := F) hN ho hcb ha hts hsl (q0 := R.q.sub 0 n) (eu0 := R.eu) (rs := some r') (fun G a hG => by
         have hv := ev1_ok hG s
         rw [hc] at hv
         obtain ⟨A, c, hv, _, _, hA⟩ := hv
         obtain ⟨hA, hcap⟩ := hA rfl
         have := base_part (n := n) (hG.rows r' R hR) (Nat.eq_of_beq_eq_true hcd.1.2) hnl
         rw [hv, hA, hcap]
         exact this) hr hs' (by rw [Sq.len_sub _ _ _ (by omega)]; exact hd) (fun r hr => by cases hr; exact hcd.2) hF
       ·intro G a hG
        have hv := ev1_ok hG s
        rw [hc] at hv
        obtain ⟨A, c, hv, ⟨hle, _⟩, _⟩ := hv
        have := (hG.rows r' R hR).1
        exfalso; omega
   | _ => rw [hc] at h; cases h
/-- 'append' of so many zeros to nil -/
theorem run_append_zeros {t tx ty e : TypeId} {i : TypeInfo} {z : Value} {k : IntKind} (ht : P.underlying t = some (.slice e)) (hx : P.underlying tx = some (.int .i64)) (hi : P.info? e = some i) (hz : i.zero = some z) (hs : 0 < i.size) (w : World) (n : Nat) (hn : 0 < n)
 (h63 : (n : Int) ≤ 9223372036854775807) (hb : n * i.bytes ≤ 281474976710656) (hfit : Builtin.nextslicecap n 0 * i.bytes ≤ 281474976710656) :
 (Builtin.append_ #[t, tx] ty #[.slice none 0 0, .int k n]).run P w =
  .ok (.slice (some ⟨w.heap.size, 0, none⟩) n (grownCap w n 0 e)) (w.drew.alloc (.cells (Builtin.zeroCells z.cells n ++ Builtin.zeroCells z.cells (grownCap w n 0 e - n)) e)) := by
 have hw : IntKind.i64.wrap (n : Int) = n := by rw [IntKind.wrap_i64]; omega
 have h63' : ¬ (9223372036854775807 < (n : Int)) := by omega
 have h48' : ¬ (281474976710656 < Builtin.nextslicecap n 0 * i.bytes) := by omega
 have h48 : ¬ ((281474976710656 : Int) < (n : Int) * i.bytes) := by rw [← Int.natCast_mul]; omega
 have h0 : ¬ (n = 0) := by omega
 have hneg : ¬ ((n : Int) < 0) := by omega
 have h1 : ¬ (i.size = 0) := by omega
 have ha : ∀ w' : World, (asInt (.int k n)).run P w' = .ok (n : Int) w' := fun _ => rfl
 simp [Builtin.append_, run_underlying ht, run_underlying hx, sizeOf, typeInfo, zeroValue, hi, hz, hw, h63', h48', h48, h0, hneg, h1, Question.forced, run_firstCells_none, newRow, grownCap, ha]
 intro h
 rcases Nat.mul_eq_zero.1 h with h | h <;> omega
theorem act_appendZeros (hΓ : ΓOk P X) {s x : Operand} {t tx : TypeId} {e : List Ct} {eb : Nat} {fl : List (Nat × Nat × Bool)} {n : Int} {r : Nat} {cl : Call} (ho : o.op = .call cl) (hcb : cl.callee = .builtin .append) (ha : cl.args.toList = [s, x]) (hts : cl.argTypes.toList = [t, tx])
 (ht : aget X.Γ t = some ⟨false, [.sl e eb], fl⟩) (htx : isI64 X tx = true) (hs : ev1 st s = .nil) (hx : ev1 st x = .int .i64 n) (h0 : 0 ≤ n) (hb : n * eb ≤ 140737488355328) (hr : F (2 * r)) :
 ActOk P F o st (one (.ow r)) [.row r ⟨e, Sq.zeros e n.toNat, true, 0, none⟩] := by
 intro G a hG next Q hnx
 obtain ⟨b, hb', hok⟩ := (hΓ t _ ht).flat rfl
 cases hb'
 obtain ⟨el, ie, z, hu, hi, hie, hby, hz, hzc, hne⟩ := hok.ok
 have hkx : P.underlying tx = some (.int .i64) := by
  unfold isI64 at htx
  split at htx
  ·rename_i fl' h
   obtain ⟨b, hb', hok'⟩ := (hΓ tx _ h).flat rfl
   cases hb'
   exact hok'
  ·cases htx
 have hsv : a.eval s = .slice none 0 0 := by have := ev1_ok hG s; rw [hs] at this; exact this
 have hxv : a.eval x = .int .i64 n := ev1_int hG hx
 have ea : cl.args = #[s, x] := by rw [← Array.toArray_toList (xs := cl.args), ha]
 have et : cl.argTypes = #[t, tx] := by rw [← Array.toArray_toList (xs := cl.argTypes), hts]
 obtain ⟨m, rfl⟩ := Int.eq_ofNat_of_zero_le h0
 have hbm : m * ie.bytes ≤ 140737488355328 := by
  rw [hby]
  have h2 : ((m * eb : Nat) : Int) ≤ 140737488355328 := by rw [Int.natCast_mul]; exact hb
  omega
 have hbpos : 0 < ie.bytes := by rw [hby]; exact hok.1
 have hm48 : m ≤ 140737488355328 := Nat.le_trans (Nat.le_mul_of_pos_right m hbpos) hbm
 by_cases hm : m = 0
 ·subst hm
  let G' := G.setK r ⟨none, 0, 0, e.length⟩
  have hk : G'.κ r = ⟨none, 0, 0, e.length⟩ := by simp [G', Gh.setK]
  refine wp_value (val := .slice none 0 0) (w' := G'.w) ?_ (hnx G' _ (Step.setK _ _ _ hr) (TVV.one (by simp only [RV, hk]; rfl)) (UpdsOk.row ?_))
  ·unfold execOp
   rw [ho]
   simp [resolve, hcb, ea, et, hsv, hxv, invoke, builtin, Builtin.append_, run_underlying hu, run_underlying hkx, sizeOf, typeInfo, hi, asInt, asIntOf, show IntKind.i64.wrap 0 = 0 from rfl]
   try rfl
  ·refine ⟨by rw [hk]; exact Sq.zeros_len .., by rw [hk], Sq.zeros_fits _ _ hne, by rw [hk]; intro _; rfl, by rw [hk]; exact Nat.le_refl _, fun _ => ⟨[], ?_, ?_⟩, fun h => by cases h⟩
   ·rw [hk]; exact ⟨by simp, Nat.le_refl _, by simp [maxLen], rfl⟩
   ·intro i j t hi; rw [Sq.zeros_len] at hi; exact absurd hi (Nat.not_lt_zero _)
 ·have hg : (0 : Nat) < m := by omega
  have hfit : Builtin.nextslicecap m 0 * ie.bytes ≤ 281474976710656 := growslice_fits hg hbm
  have hpos : 0 < ie.size := by rw [hie]; exact List.length_pos_iff.2 hne
  have hrun := run_append_zeros (P := P) (ty := o.type) (k := .i64) hu hkx hi hz hpos G.w m hg (by omega) (by omega) hfit
  have hge := grownCap_ge G.w m 0 el
  have hle := grownCap_le_maxLen G.w m 0 el (by simp only [maxLen]; omega)
  let cells := Builtin.zeroCells z.cells m ++ Builtin.zeroCells z.cells (grownCap G.w m 0 el - m)
  let G1 : Gh := { G with w := G.w.drew }
  have hzsz : z.cells.size = ie.size := by rw [hie, ← Array.length_toList, hzc]; simp
  have hcs : cells.size = grownCap G.w m 0 el * e.length := by
   simp only [cells, Array.size_append, Builtin.zeroCells, Array.size_map, Array.size_range, hzsz, hie]
   rw [← Nat.add_mul]; congr 1; omega
  refine wp_value (val := .slice (some ⟨G.w.heap.size, 0, none⟩) m (grownCap G.w m 0 el)) (w' := (G1.newRow r cells el m (grownCap G.w m 0 el) e.length).w) ?_ (hnx (G1.newRow r cells el m (grownCap G.w m 0 el) e.length) _ ?_ ?_ ?_)
  ·unfold execOp
   rw [ho]
   simp only [resolve, hcb, ea, et, hsv, hxv, invoke, builtin]
   simp [hsv, hxv, builtin, hrun]
   rfl
  ·refine Step.trans (G' := G1) ⟨rfl, rfl, rfl, Nat.le_refl _, fun _ _ _ => ⟨rfl, rfl⟩, fun _ b r i j _ h => ⟨rfl, by show lvl 1 (G.who b); rw [h]; rfl⟩, fun _ _ => rfl, fun _ _ => rfl⟩ (Step.newRow G1 _ _ _ _ _ _ hr)
  ·exact TVV.one (by simp only [RV, newRow_κ, Hd.val, Hd.addr, Option.map_some]; rfl)
  ·refine UpdsOk.row (RowOk.new (Sq.zeros_len ..) (Sq.zeros_fits _ _ hne) hge hle hcs ?_)
   intro i j t hi hj
   rw [Sq.zeros_len] at hi
   refine ⟨t.zeroV, Cl.zero t, ?_, Sq.zeros_get e _ i j t hi hj, Ct.zero_ok t true⟩
   have hi : i < m := hi
   have hjl : j < e.length := (List.getElem?_eq_some_iff.1 hj).1
   have hlt : i * e.length + j < m * e.length := by
    have : (i + 1) * e.length ≤ m * e.length := Nat.mul_le_mul_right _ hi
    rw [Nat.add_mul] at this; omega
   show (cells.toList.take _)[_]? = _
   rw [List.getElem?_take, if_pos hlt]
   have h2 := madeCells_get hzc hi hj
   simp only [cells, Array.toList_append]
   have hl : (Builtin.zeroCells z.cells m).toList.length = m * e.length := by simp [Builtin.zeroCells, hzsz, hie]
   rw [List.getElem?_append_left (by rw [hl]; exact hlt)]
   have e3 : Builtin.zeroCells z.cells m = madeCells z.cells (m * e.length) := by simp [Builtin.zeroCells, madeCells, hzsz, hie]
   rw [e3]
   exact h2
end Go.Tv
set_option autoImplicit false
namespace Go.Tv
open Go
variable [Env]
variable {P : Program} {G G' : Gh} {X : Ctx} {F U : Nat → Prop} {kl : Bool} {o : Oper} {st : St}
def NoN : Nat → Nat → IntKind → List Int → Value → Prop := fun _ _ _ _ v => v.oneCell' = true
/-- what is viewed is what is read -/
theorem viewC_ok {a : Act} (hG : Ok G st a) {c : C} {e : List Ct} {q : Sq} {v : Value} (hv : viewC st c = some (e, q)) (hc : RV G c v) :
 ∃ A cap, v = .slice A q.len cap ∧ q.fits e = true ∧ (q.len = 0 ∨ ∃ g b, A = some ⟨g, b, none⟩ ∧ ElsV NoN e q (fun n => G.w.cell? ⟨g, b + n, none⟩)) := by
 cases c with
 | tr x y e' q' =>
  cases hv
  obtain ⟨A, cap, rfl, hf, hq⟩ := hc
  refine ⟨A, cap, rfl, hf.1, ?_⟩
  rcases hq with hq | ⟨g, b, rfl, _, hq⟩
  ·exact .inl hq
  ·exact .inr ⟨g, b, rfl, hq.mono (fun i j k xs v h => IntsV.oneCell h) (fun _ _ h => h)⟩
 | ow r =>
  simp only [viewC] at hv
  cases hR : aget st.rows r with
  | none => rw [hR] at hv; cases hv
  | some R =>
   rw [hR] at hv
   simp only at hv
   cases hl : Nat.ble R.live 1 with
   | false => rw [hl] at hv; cases hv
   | true =>
    rw [hl] at hv
    cases hv
    have hc : v = (G.κ r).val := hc
    have hrow := hG.rows r R hR
    refine ⟨(G.κ r).addr 0, (G.κ r).cap, by rw [hc, Hd.val, hrow.1], hrow.2.2.1, ?_⟩
    obtain ⟨h1, h2, h3, h4, h5, h6, h7⟩ := hrow
    obtain ⟨cells, hb, he⟩ := h6 (ble_le hl)
    by_cases h0 : R.q.len = 0
    ·exact .inl h0
    ·right
     cases hg : (G.κ r).g with
     | none => have := h4 hg; omega
     | some g =>
      refine ⟨g, 0, by simp [Hd.addr, hg], he.mono (fun i j k xs v h => NN.oneCell h) (fun n u hu => ?_)⟩
      rw [Nat.zero_add]; exact hb.cell hg hu
 | os r b n =>
  simp only [viewC] at hv
  cases hR : aget st.rows r with
  | none => rw [hR] at hv; cases hv
  | some R =>
   rw [hR] at hv
   simp only at hv
   cases hl : Nat.ble R.live 1 with
   | false => rw [hl] at hv; cases hv
   | true =>
    rw [hl] at hv
    cases hv
    obtain ⟨A, cp, rfl, ⟨hle, _⟩, hA, _⟩ := hc
    obtain ⟨h1, h2, h3, h4, h5, h6, h7⟩ := hG.rows r R hR
    obtain ⟨cells, hb, he⟩ := h6 (ble_le hl)
    have hle : b + n ≤ R.q.len := by omega
    refine ⟨A, cp, by rw [Sq.len_sub _ _ _ hle], by rw [Sq.fits_sub]; exact h3, ?_⟩
    rw [Sq.len_sub _ _ _ hle]
    rcases hA with hA | ⟨g, hg, rfl⟩
    ·exact .inl hA
    ·refine .inr ⟨g, _, rfl, (he.sub b n hle).mono (fun i j k xs v h => NN.oneCell h) (fun m u hu => ?_)⟩
     rw [h2]; exact hb.cell hg hu
 | _ => cases hv
theorem Sq.len_over {e : List Ct} {p q : Sq} (hp : p.fits e = true) (hq : q.fits e = true) {o : Nat} (h : o + q.len ≤ p.len) : (p.over o q).len = p.len := by
 rcases Sq.same hp hq with ⟨xs, ys, rfl, rfl⟩ | ⟨xs, ys, rfl, rfl⟩ | ⟨xs, ys, rfl, rfl⟩ | ⟨xs, ys, rfl, rfl⟩ <;> simp only [Sq.len] at h <;> simp [Sq.over, Sq.len, overlay] <;> omega
theorem Sq.fits_over {e : List Ct} {p q : Sq} (hp : p.fits e = true) (hq : q.fits e = true) (o : Nat) : (p.over o q).fits e = true := by
 rcases Sq.same hp hq with ⟨xs, ys, rfl, rfl⟩ | ⟨xs, ys, rfl, rfl⟩ | ⟨xs, ys, rfl, rfl⟩ | ⟨xs, ys, rfl, rfl⟩ <;> exact hp
theorem overlay_get {α : Type} (xs ys : List α) (o i : Nat) (h : o + ys.length ≤ xs.length) : (overlay xs o ys)[i]? = if o ≤ i ∧ i < o + ys.length then ys[i - o]? else xs[i]? := by
 unfold overlay
 have e1 : (xs.take o).length = o := by simp; omega
 by_cases h1 : i < o
 ·rw [List.append_assoc, List.getElem?_append_left (by omega), List.getElem?_take, if_pos h1, if_neg (by omega)]
 ·by_cases h2 : i < o + ys.length
  ·rw [List.append_assoc, List.getElem?_append_right (by omega), List.getElem?_append_left (by omega), if_pos ⟨by omega, h2⟩, e1]
  ·rw [List.getElem?_append_right (by simp; omega), List.getElem?_drop, if_neg (by omega)]
   congr 1
   simp; omega
theorem Sq.get_over {e : List Ct} {p q : Sq} (hp : p.fits e = true) (hq : q.fits e = true) {o : Nat} (h : o + q.len ≤ p.len) (i : Nat) :
 (p.over o q).get i = if o ≤ i ∧ i < o + q.len then q.get (i - o) else p.get i := by
 rcases Sq.same hp hq with ⟨xs, ys, rfl, rfl⟩ | ⟨xs, ys, rfl, rfl⟩ | ⟨xs, ys, rfl, rfl⟩ | ⟨xs, ys, rfl, rfl⟩ <;> simp only [Sq.len] at h <;>
  simp only [Sq.over, Sq.get, Sq.len, List.getD_eq_getElem?_getD, overlay_get _ _ _ _ h] <;> split <;> rfl
theorem ElsV.over {N : Nat → Nat → IntKind → List Int → Value → Prop} {e : List Ct} {p q : Sq} {l1 l2 : List Value} {b : Nat} (hp : p.fits e = true) (hq : q.fits e = true) (hb : b + q.len ≤ p.len)
 (h1 : ElsV N e p (l1[·]?)) (h2 : ElsV N e q (l2[·]?)) (hN : ∀ i i' j k xs v, N i j k xs v → N i' j k xs v) (hl1 : l1.length = p.len * e.length) (hl2 : l2.length = q.len * e.length) :
 ElsV N e (p.over b q) ((overlay l1 (b * e.length) l2)[·]?) := by
 intro i j t hi hj
 rw [Sq.len_over hp hq hb] at hi
 have hjl : j < e.length := (List.getElem?_eq_some_iff.1 hj).1
 have hbb : b * e.length + l2.length ≤ l1.length := by rw [hl1, hl2, ← Nat.add_mul]; exact Nat.mul_le_mul_right _ hb
 show ∃ v c, (overlay l1 _ l2)[_]? = _ ∧ _
 rw [overlay_get _ _ _ _ hbb, Sq.get_over hp hq hb]
 by_cases hin : b ≤ i ∧ i < b + q.len
 ·have hc : b * e.length ≤ i * e.length + j ∧ i * e.length + j < b * e.length + l2.length := by
   have a1 : b * e.length ≤ i * e.length := Nat.mul_le_mul_right _ hin.1
   have a2 : (i + 1) * e.length ≤ (b + q.len) * e.length := Nat.mul_le_mul_right _ hin.2
   rw [Nat.add_mul, Nat.add_mul] at a2
   rw [hl2]; omega
  rw [if_pos hc, if_pos hin]
  obtain ⟨v, c, a1, a2, a3⟩ := h2 (i - b) j t (by omega) hj
  refine ⟨v, c, ?_, a2, a3.mono (hN _ _ j)⟩
  rw [← a1]
  show l2[_]? = l2[_]?
  congr 1
  rw [Nat.sub_mul];
  have a1 : b * e.length ≤ i * e.length := Nat.mul_le_mul_right _ hin.1
  omega
 ·have hc : ¬ (b * e.length ≤ i * e.length + j ∧ i * e.length + j < b * e.length + l2.length) := by
   rintro ⟨c1, c2⟩
   apply hin
   rw [hl2, ← Nat.add_mul] at c2
   constructor
   ·by_cases h : b ≤ i
    ·exact h
    ·exfalso
     have : (i + 1) * e.length ≤ b * e.length := Nat.mul_le_mul_right _ (by omega)
     rw [Nat.add_mul] at this; omega
   ·by_cases h : i < b + q.len
    ·exact h
    ·exfalso
     have : (b + q.len) * e.length ≤ i * e.length := Nat.mul_le_mul_right _ (by omega)
     omega
  rw [if_neg hc, if_neg hin]
  exact h1 i j t hi hj
end Go.Tv
