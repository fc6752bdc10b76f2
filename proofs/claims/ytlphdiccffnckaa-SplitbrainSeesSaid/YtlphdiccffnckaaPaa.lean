/- Texts put together: Abs, Rel, Ctx, Typ, Opa, Opm. -/
import Derived.RangeFuncLeaves
import Derived.OrdersIn
import Derived.Laws.Sem
import Derived.Laws.Cells
import Derived.Laws.AppendOwn
import Derived.Laws.World
import Derived.WalkSpells

/- A pure evaluator for the code of the model: values are trees, memory is a short list of entities. Definitions alone; that the machine does what it says is proved in the texts behind. -/
namespace Go.Abs

/-- What is known of a value. -/
inductive AV where
  | und                                          -- nothing
  | sc (v : Value)                               -- this very value
  | agg (cs : List AV)                           -- a struct or an array, cell by cell
  | tup (vs : List AV)                           -- several results
  | sl (full : Bool) (z : Nat) (xs : List (List AV))   -- a slice that nobody writes: its elements, z cells each; full: nothing lies behind
  | fp (cs : List AV)                            -- the address of cells that nobody writes
  | fn (f : Nat) (caps : List AV)                -- a function and what it has captured
  | yl (j : Nat)                                 -- the j-th yield function
  | bp (k off : Nat)                             -- an address in box k
  | bxs (k off len z : Nat)                      -- a slice over the cells of box k
  | os (k off len vr : Nat)                      -- a slice over the owned slice k, at version vr
  | op (k i off vr : Nat)                        -- an address in element i of the owned slice k
  | ifc (t : Nat) (v : AV)                       -- an interface value
  | nsl (nil : Bool) (z : Nat)                   -- an empty slice: nil or not
  deriving Inhabited

/-- How a round of a range over a function leaves its body. -/
inductive Jmp where
  | ret
  | exit (id : Nat)

/-- An entity: memory of the call's own. -/
inductive Ent where
  | box (cs : List AV)
  | own (vr z : Nat) (xs : List (List AV))
  | loop (st : LoopState) (p : Option Jmp)
  | dead
  deriving Inhabited

/-- What is known of types. -/
structure TT where
  size : Nat → Option (Nat × Bool)               -- cells, struct or array
  zero : Nat → Option (List Value)               -- its zero value's cells
  elem : Nat → Option (Nat × Nat)                -- of a slice type: its elements' cells and bytes
  ety : Nat → Option Nat                         -- of a slice type: its elements' type
  arr : Nat → Option (Nat × Nat × Bool)          -- of an array type: its length, its elements' cells, struct or array
  flds : Nat → Option (List (Nat × Nat × Bool))  -- of a struct type, of each field: place, cells, struct or array
  eqc : Nat → Option (List Bool)                 -- struct and array types compared cell by cell: which cells are numbers (and which booleans)
  int : Nat → Option IntKind
  bool : Nat → Bool
  ifc : Nat → Bool

def TT.ezero (T : TT) (t : Nat) : Option (List Value) := (T.ety t).bind fun e => T.zero e
def TT.fld (T : TT) (t f : Nat) : Option (Nat × Nat × Bool) := (T.flds t).bind (·[f]?)

/-- What an operation does beside its result is told by a word of the translator's: nothing; it makes memory of the call's own; a call by value; a call by value to which owned memory is lent; a call that is handed the entities; a call that is asked twice if it is handed an empty slice. -/
inductive Fl where
  | non | own | lend | gen | cln
  deriving DecidableEq, Inhabited

structure AOp where
  o : Oper
  f : Fl := .non
  g : Option (Nat × Bool) := none                -- the slot that guards it

inductive Ghost where
  | cut (slots : List Nat) (m : Nat)             -- forget all slots but these, and all entities from the m-th of this call on
  | freeze (slot : Nat)                          -- the owned slice in this slot is written no more
  | own (slot z : Nat)                           -- the nil slice in this slot is owned
  | ownAt (slot off z : Nat)                     -- the nil slice in the box to which this slot leads is owned
  | frz (slot : Nat)                             -- the box to which this slot leads is written no more
  | weak (slot z : Nat)                          -- of the nil slice in this slot no more is known than that it is empty

inductive AC where
  | skip
  | region (id : Nat) (ops : List AOp) (draw : Bool)
  | seq (a b : AC)
  | cond (c : Operand) (a b : AC)
  | block (id : Nat) (a : AC)
  | loop (a : AC)
  | exit (id : Nat)
  | ret
  | rangeFunc (f : Operand) (params : List Nat) (assign body : AC)
  | ghost (g : Ghost) (a : AC)

/-- The code of which this is. -/
def AC.erase : AC → Code
  | .skip => .skip
  | .region id ops d => .region id (ops.map (·.o)).toArray d
  | .seq a b => .seq a.erase b.erase
  | .cond c a b => .cond c a.erase b.erase
  | .block id a => .block id a.erase
  | .loop a => .loop a.erase
  | .exit id => .exit id
  | .ret => .ret
  | .rangeFunc f ps a b => .rangeFunc f ps.toArray a.erase b.erase
  | .ghost _ a => a.erase

abbrev Slots := List (Nat × AV)
def Slots.get : Slots → Nat → AV
  | [], _ => .und
  | (k, v) :: s, t => bif Nat.beq k t then v else Slots.get s t
def Slots.put (s : Slots) (t : Nat) (v : AV) : Slots := (t, v) :: s
def Slots.putAll : Slots → List Nat → List AV → Slots
  | s, t :: ts, v :: vs => Slots.putAll (s.put t v) ts vs
  | s, _, _ => s
def Slots.init : Nat → List AV → Slots
  | _, [] => []
  | i, v :: vs => (i, v) :: Slots.init (i + 1) vs

structure St where
  tm : Slots
  H : List Ent
  b : Nat                                        -- how many entities were there when the call began

inductive Ex where
  | normal | exit (id : Nat) | ret | pan (v : AV)

inductive Out where
  | ret (v : AV)
  | pan (v : AV)

abbrev YF := List AV → List Ent → Option (Out × List Ent)
abbrev CF := Nat → List AV → List Ent → List YF → Option (Out × List Ent)

/-- An operation's answer. -/
inductive OR where
  | val (v : AV) (H : List Ent)
  | pan (v : AV) (H : List Ent)

def aval (G : Nat → AV) (tm : Slots) : Operand → AV
  | .tmp t => tm.get t
  | .const v => .sc v
  | .global g => G g
  | .func f => .fn f []

-- No address of an entity from b on lies in it (what a frozen slice leads to bears none).
mutual
def AV.under (b : Nat) : AV → Bool
  | .und | .sc _ | .sl .. | .fp _ | .yl _ | .nsl .. => true
  | .agg cs | .tup cs | .fn _ cs => AV.underL b cs
  | .bp k _ | .bxs k _ _ _ | .os k _ _ _ | .op k _ _ _ => decide (k < b)
  | .ifc _ v => AV.under b v
def AV.underL (b : Nat) : List AV → Bool
  | [] => true
  | v :: vs => AV.under b v && AV.underL b vs
end
-- No address of an entity lies in it, and no yield function.
mutual
def AV.pure : AV → Bool
  | .sc _ | .sl .. | .fp _ | .und | .nsl .. => true
  | .agg cs | .tup cs | .fn _ cs => AV.pureL cs
  | .bp .. | .bxs .. | .os .. | .op .. | .yl _ => false
  | .ifc _ v => AV.pure v
def AV.pureL : List AV → Bool
  | [] => true
  | v :: vs => AV.pure v && AV.pureL vs
end

-- No yield function lies in it.
mutual
def AV.still : AV → Bool
  | .yl _ => false
  | .agg cs | .tup cs | .fn _ cs => AV.stillL cs
  | .ifc _ v => AV.still v
  | _ => true
def AV.stillL : List AV → Bool
  | [] => true
  | v :: vs => AV.still v && AV.stillL vs
end

def AV.underLL (b : Nat) : List (List AV) → Bool
  | [] => true
  | x :: xs => AV.underL b x && AV.underLL b xs

def Ent.under (b : Nat) : Ent → Bool
  | .box cs => AV.underL b cs
  | .own _ _ xs => AV.underLL b xs
  | _ => true

/-- Rows of z cells. -/
def chunks (z : Nat) : Nat → List AV → List (List AV)
  | 0, _ => []
  | n + 1, cs => cs.take z :: chunks z n (cs.drop z)

def AV.pureLL : List (List AV) → Bool
  | [] => true
  | x :: xs => AV.pureL x && AV.pureLL xs

/-- The elements of a slice as they are; first: they lead to nothing that may be written. -/
def snap (H : List Ent) : AV → Option (Bool × Nat × List (List AV))
  | .sl _ z xs => some (true, z, xs)
  | .nsl _ z => some (true, z, [])
  | .os k off len vr =>
    match H[k]? with
    | some (.own vr' z xs) => if vr = vr' ∧ off + len ≤ xs.length then some (AV.pureLL ((xs.drop off).take len), z, (xs.drop off).take len) else none
    | _ => none
  | .bxs k off len z =>
    match H[k]? with
    | some (.box cs) => if AV.pureL cs = true ∧ off + len * z ≤ cs.length then some (true, z, chunks z len (cs.drop off)) else none
    | _ => none
  | _ => none

def isNilSl : AV → Bool
  | .sc (.slice none 0 0) => true
  | _ => false

/-- The elements, of a nil slice too. -/
def elemsOf (H : List Ent) (z : Nat) (v : AV) : Option (Bool × List (List AV)) :=
  match v with
  | .sc (.slice none 0 0) => some (true, [])
  | v => match snap H v with
    | some (p, z', xs) => if z = z' then some (p, xs) else none
    | none => none

def mapO {α β : Type} (f : α → Option β) : List α → Option (List β)
  | [] => some []
  | x :: xs => (f x).bind fun y => (mapO f xs).map (y :: ·)

/-- What a call hands back: owned slices of its own are written no more (d: how deep they may lie in each other). -/
def AV.freeze (b : Nat) (H : List Ent) : Nat → AV → Option AV
  | 0, _ => none
  | d + 1, v =>
    let row (x : List AV) : Option (List AV) := if AV.pureL x then some x else (mapO (AV.freeze b H d) x).bind fun y => if AV.pureL y then some y else none
    match v with
    | .os k off len vr => if k < b then some (.os k off len vr) else (snap H (.os k off len vr)).bind fun r => (mapO row r.2.2).map fun xs => .sl false r.2.1 xs
    | .bxs k off len z => if k < b then some (.bxs k off len z) else (snap H (.bxs k off len z)).map fun r => .sl false r.2.1 r.2.2
    | .agg cs => (mapO (AV.freeze b H d) cs).map .agg
    | .tup cs => (mapO (AV.freeze b H d) cs).map .tup
    | .ifc t v => (AV.freeze b H d v).map (.ifc t)
    | v => if AV.under b v then some v else none

def AV.cells : AV → List AV
  | .agg cs => cs
  | v => [v]

/-- It can be put into memory (cell by cell, if it is a struct or an array). -/
def AV.storable : AV → Bool
  | .und | .tup _ => false
  | .sc v => v.oneCell'
  | _ => true

/-- Memory that an append may take up. -/
def room (n bytes : Nat) : Bool := decide (0 < bytes ∧ n * bytes ≤ 140737488355328)

section ops
variable (T : TT)

def scEq : AV → AV → Option Bool
  | .sc (.int k a), .sc (.int k' b) => if k = k' then some (a == b) else none
  | .sc (.bool a), .sc (.bool b) => some (a == b)
  | _, _ => none
def aggEq : List AV → List AV → Option Bool
  | [], [] => some true
  | a :: aas, b :: bs => (scEq a b).bind fun e => (aggEq aas bs).map (e && ·)
  | _, _ => none

/-- Cells of these shapes: numbers, booleans. -/
def shapeOk : List Bool → List AV → Bool
  | [], [] => true
  | true :: k, .sc (.int _ _) :: cs => shapeOk k cs
  | false :: k, .sc (.bool _) :: cs => shapeOk k cs
  | _, _ => false
def eqShape (k : Option (List Bool)) (cs : List AV) : Bool := match k with
  | some k => shapeOk k cs
  | none => false

def intBin (op : BinOp) (k : IntKind) (a b : Int) : Option Value :=
  match op with
  | .add => some (.int k (k.wrap (a + b)))
  | .sub => some (.int k (k.wrap (a - b)))
  | .mul => some (.int k (k.wrap (a * b)))
  | .quo => if b = 0 then none else some (.int k (k.wrap (a.tdiv b)))
  | .rem => if b = 0 then none else some (.int k (a.tmod b))
  | .and => some (.int k (k.wrap (BitVec.ofInt k.bits a &&& BitVec.ofInt k.bits b).toNat))
  | .or => some (.int k (k.wrap (BitVec.ofInt k.bits a ||| BitVec.ofInt k.bits b).toNat))
  | .xor => some (.int k (k.wrap (BitVec.ofInt k.bits a ^^^ BitVec.ofInt k.bits b).toNat))
  | .andNot => some (.int k (k.wrap (BitVec.ofInt k.bits a &&& ~~~BitVec.ofInt k.bits b).toNat))
  | .eql => some (.bool (a == b))
  | .neq => some (.bool (a != b))
  | .lss => some (.bool (a < b))
  | .leq => some (.bool (a ≤ b))
  | .gtr => some (.bool (a > b))
  | .geq => some (.bool (a ≥ b))
  | _ => none
def intShift (op : BinOp) (k : IntKind) (a b : Int) : Option Value :=
  if b < 0 then none else
  match op with
  | .shl => some (.int k (k.wrap (a * 2 ^ min b.toNat k.bits)))
  | .shr => some (.int k (a.fdiv (2 ^ min b.toNat k.bits)))
  | _ => none

def aBin (op : BinOp) (t : Nat) : AV → AV → Option AV
  | .sc (.int k a), .sc (.int k' b) =>
    match op with
    | .shl | .shr => (intShift op k a b).map .sc
    | _ => if k = k' then (intBin op k a b).map .sc else none
  | .sc (.bool a), .sc (.bool b) =>
    if T.bool t then
      match op with
      | .eql => some (.sc (.bool (a == b)))
      | .neq => some (.sc (.bool (!(a == b))))
      | _ => none
    else none
  | .agg cs, .agg ds =>
    if eqShape (T.eqc t) cs = true then
      match op with
      | .eql => (aggEq cs ds).map fun e => .sc (.bool e)
      | .neq => (aggEq cs ds).map fun e => .sc (.bool (!e))
      | _ => none
    else none
  | .sl _ _ (_ :: _), .sc (.slice none 0 0) =>
    if (T.elem t).isSome then
      match op with
      | .eql => some (.sc (.bool false))
      | .neq => some (.sc (.bool true))
      | _ => none
    else none
  | .sc (.slice none 0 0), .sc (.slice none 0 0) =>
    if (T.elem t).isSome then
      match op with
      | .eql => some (.sc (.bool true))
      | .neq => some (.sc (.bool false))
      | _ => none
    else none
  | .nsl n _, .sc (.slice none 0 0) =>
    if (T.elem t).isSome then
      match op with
      | .eql => some (.sc (.bool n))
      | .neq => some (.sc (.bool !n))
      | _ => none
    else none
  | .ifc .., .sc .nilIface =>
    if T.ifc t then
      match op with
      | .eql => some (.sc (.bool false))
      | .neq => some (.sc (.bool true))
      | _ => none
    else none
  | _, _ => none

def aUn (op : UnOp) : AV → Option AV
  | .sc (.bool b) => match op with
    | .not => some (.sc (.bool !b))
    | _ => none
  | .sc (.int k n) => match op with
    | .neg => some (.sc (.int k (k.wrap (0 - n))))
    | .xor => some (.sc (.int k (k.wrap (BitVec.ofInt k.bits (if k.signed then -1 else k.max) ^^^ BitVec.ofInt k.bits n).toNat)))
    | _ => none
  | _ => none

def aConv (src dst : Nat) : AV → Option AV
  | .sc (.int _ n) => if (T.size src).isSome then (T.int dst).map fun k => .sc (.int k (k.wrap n)) else none
  | _ => none

/-- The value of n cells. -/
def valOf (n : Nat) (agg : Bool) (cs : List AV) : Option AV :=
  if agg then if n ≤ cs.length then some (.agg (cs.take n)) else none
  else cs.head?

def aLoad (H : List Ent) (t : Nat) (a : AV) : Option AV :=
  match T.size t with
  | none => none
  | some (n, g) =>
    match a with
    | .fp cs => valOf n g cs
    | .bp k off => match H[k]? with
      | some (.box cs) => valOf n g (cs.drop off)
      | _ => none
    | .op k i off vr => match H[k]? with
      | some (.own vr' _ xs) => if vr = vr' then match xs[i]? with
        | some x => valOf n g (x.drop off)
        | none => none else none
      | _ => none
    | _ => none

/-- An address that nobody writes. -/
def AV.isFp : AV → Bool
  | .fp _ => true
  | _ => false

/-- Cells put over others from a place on. -/
def putAt (off : Nat) (vs cs : List AV) : List AV := cs.take off ++ vs ++ cs.drop (off + vs.length)

/-- What is put over a cell leads nowhere, or to where the cell led. -/
def refCell : AV → AV → Bool
  | .os j _ _ _, .os j' _ _ _ => Nat.beq j j'
  | v, _ => AV.pure v
def refCells : List AV → List AV → Bool
  | [], _ => true
  | v :: vs, c :: cs => refCell v c && refCells vs cs
  | _, [] => false

def aStore (b : Nat) (H : List Ent) (t : Nat) (a v : AV) : Option (List Ent) :=
  match T.size t with
  | none => none
  | some (n, _) =>
    if v.cells.length = n ∧ AV.storable v = true then
      match a with
      | .bp k off => match H[k]? with
        | some (.box cs) => if off + n ≤ cs.length ∧ AV.still v = true ∧ (k < b → refCells v.cells (cs.drop off) = true) then some (H.set k (.box (putAt off v.cells cs))) else none
        | _ => none
      | .op k i off vr => match H[k]? with
        | some (.own vr' z xs) => if vr = vr' then match xs[i]? with
          | some x => if off + n ≤ x.length ∧ AV.still v = true ∧ (k < b → refCells v.cells (x.drop off) = true) then some (H.set k (.own vr' z (xs.set i (putAt off v.cells x)))) else none
          | none => none else none
        | _ => none
      | _ => none
    else none

/-- An address that still leads where it led. -/
def alive (H : List Ent) : AV → Bool
  | .fp _ => true
  | .bp k _ => match H[k]? with
    | some (.box _) => true
    | _ => false
  | .op k _ _ vr => match H[k]? with
    | some (.own vr' _ _) => Nat.beq vr vr'
    | _ => false
  | _ => false
def AV.shift (d : Nat) : AV → AV
  | .fp cs => .fp (cs.drop d)
  | .bp k off => .bp k (off + d)
  | .op k i off vr => .op k i (off + d) vr
  | v => v

def aField (H : List Ent) (t f : Nat) (a : AV) : Option AV :=
  if alive H a then (T.fld t f).map fun r => a.shift r.1 else none

/-- The address of an element. -/
def aIndexAddr (H : List Ent) (t : Nat) (x ix : AV) : Option AV :=
  match ix with
  | .sc (.int _ i) =>
    if i < 0 then none else
    match x with
    | .sl _ z xs => match T.elem t with
      | some (z', _) => if z = z' then (xs[i.toNat]?).map .fp else none
      | none => none
    | .os k off len vr => match T.elem t, H[k]? with
      | some (z', _), some (.own vr' z xs) => if z = z' ∧ vr = vr' ∧ i.toNat < len ∧ off + i.toNat < xs.length then some (.op k (off + i.toNat) 0 vr) else none
      | _, _ => none
    | .bxs k off len z => match T.elem t, H[k]? with
      | some (z', _), some (.box _) => if z = z' ∧ i.toNat < len then some (.bp k (off + i.toNat * z)) else none
      | _, _ => none
    | x => match T.arr t with
      | some (n, z, _) => if i.toNat < n ∧ alive H x = true then some (x.shift (i.toNat * z)) else none
      | none => none
  | _ => none

/-- An element of an array's value. -/
def aIndex (t : Nat) (x ix : AV) : Option AV :=
  match x, ix with
  | .agg cs, .sc (.int _ i) => match T.arr t with
    | some (n, z, g) => if 0 ≤ i ∧ i < n then valOf z g (cs.drop (i.toNat * z)) else none
    | none => none
  | _, _ => none

def aFieldVal (t f : Nat) : AV → Option AV
  | .agg cs => match T.fld t f with
    | some (off, n, g) => valOf n g (cs.drop off)
    | none => none
  | _ => none

def fillA (place : Nat → Option (Nat × Nat)) : List (Nat × AV) → List AV → Option (List AV)
  | [], cs => some cs
  | (i, v) :: rest, cs =>
    match place i with
    | none => none
    | some (off, size) => if v.cells.length = size ∧ AV.storable v = true ∧ off + size ≤ cs.length then fillA place rest (putAt off v.cells cs) else none

def aBuild (t : Nat) (parts : List (Nat × AV)) : Option AV :=
  match T.zero t with
  | none => none
  | some zs =>
    match T.flds t, T.arr t with
    | some fs, _ => (fillA (fun i => (fs[i]?).map fun r => (r.1, r.2.1)) parts (zs.map .sc)).map .agg
    | none, some (_, z, _) => (fillA (fun i => some (i * z, z)) parts (zs.map .sc)).map .agg
    | none, none => none

/-- The cells of a slice literal. -/
def slLit (own : Bool) (t len : Nat) (parts : List (Nat × AV)) (zs : List Value) : Option (Nat × List (List AV)) :=
  match T.elem t with
  | none => none
  | some (z, _) =>
    if zs.length = z ∧ 0 < z ∧ len * z ≤ 16777216 ∧ (bif own then AV.stillL (parts.map (·.2)) else AV.pureL (parts.map (·.2))) = true then
      (fillA (fun i => some (i * z, z)) parts (List.replicate len (zs.map AV.sc)).flatten).map fun cs => (z, chunks z len cs)
    else none

def aLen (H : List Ent) (t : Nat) (v : AV) : Option AV :=
  match T.arr t with
  | some (n, _, _) => some (.sc (.int .i64 n))
  | none =>
    match T.elem t with
    | none => none
    | some _ =>
      match v with
      | .sc (.slice none 0 0) => some (.sc (.int .i64 0))
      | .sl _ _ xs => some (.sc (.int .i64 xs.length))
      | .os k _ len vr => match H[k]? with
        | some (.own vr' _ _) => if vr = vr' then some (.sc (.int .i64 len)) else none
        | _ => none
      | .bxs k _ len _ => match H[k]? with
        | some (.box _) => some (.sc (.int .i64 len))
        | _ => none
      | _ => none


/-- What an append that makes new memory, or that grows an owned slice, hands back. -/
def aAppend (own : Bool) (b : Nat) (H : List Ent) (t : Nat) (s x : AV) : Option (AV × List Ent) :=
  match T.elem t with
  | none => none
  | some (z, eb) =>
    match elemsOf H z x with
    | none => none
    | some (py, ys) =>
      match s with
      | .os k 0 len vr => match H[k]? with
        | some (.own vr' z' xs) =>
          if vr = vr' ∧ z = z' ∧ len ≤ xs.length ∧ room (len + ys.length) eb = true ∧ (k < b → AV.pureLL ys = true) then
            some (.os k 0 (len + ys.length) (vr + 1), H.set k (.own (vr + 1) z (xs.take len ++ ys)))
          else none
        | _ => none
      | s =>
        match (if isNilSl s then some (true, z, []) else match s with | .sl f z' xs => some (f, z', xs) | _ => none) with
        | some (true, z', xs) =>
          if z = z' ∧ 0 < z ∧ room (xs.length + ys.length) eb = true then
            if own then match xs with
              | [] => some (.os H.length 0 ys.length 0, H ++ [.own 0 z ys])
              | _ => none
            else if py then some (.sl false z (xs ++ ys), H) else none
          else none
        | _ => none

/-- The bounds of a slice expression. -/
def bound (d : Nat) : Option AV → Option Nat
  | none => some d
  | some (.sc (.int _ i)) => if 0 ≤ i then some i.toNat else none
  | _ => none

def aSlice (H : List Ent) (t : Nat) (x : AV) (lo hi mx : Option AV) : Option AV :=
  match T.arr t with
  | some (n, z, _) =>
    match bound 0 lo, bound n hi, mx, x with
    | some l, some h, none, .bp k off => if l ≤ h ∧ h ≤ n ∧ l < n ∧ alive H x = true then some (.bxs k (off + l * z) (h - l) z) else none
    | _, _, _, _ => none
  | none =>
    match T.elem t with
    | none => none
    | some (z, _) =>
      match x with
      | .sc (.slice none 0 0) =>
        match bound 0 lo, bound 0 hi, bound 0 mx with
        | some 0, some 0, some 0 => if (!mx.isSome || hi.isSome) = true then some (.sc (.slice none 0 0)) else none
        | _, _, _ => none
      | .sl f z' xs =>
        match bound 0 lo, bound xs.length hi with
        | some l, some h =>
          if z = z' ∧ l ≤ h ∧ h ≤ xs.length then
            match mx with
            | none => some (.sl (f && Nat.beq h xs.length) z ((xs.drop l).take (h - l)))
            | some m => match bound 0 (some m) with
              | some m => if h ≤ m ∧ m ≤ xs.length ∧ hi.isSome = true then some (.sl (Nat.beq m h) z ((xs.drop l).take (h - l))) else none
              | none => none
          else none
        | _, _ => none
      | .os k off len vr =>
        match H[k]? with
        | some (.own vr' z' xs) =>
          match bound 0 lo, bound len hi, mx with
          | some l, some h, none =>
            if vr = vr' ∧ z = z' ∧ l ≤ h ∧ h ≤ len ∧ off + len ≤ xs.length then
              if l = 0 then some (.os k off h vr) else if l < h then some (.os k (off + l) (h - l) vr) else some (.sl false z [])
            else none
          | _, _, _ => none
        | _ => none
      | _ => none

def aMake (own : Bool) (H : List Ent) (t : Nat) (len cap : AV) (zs : Option (List Value)) : Option (AV × List Ent) :=
  match T.elem t, len, cap, zs with
  | some (z, eb), .sc (.int .i64 l), .sc (.int .i64 c), some zs =>
    if 0 ≤ l ∧ l ≤ c ∧ c ≤ 1099511627776 ∧ zs.length = z ∧ 0 < z ∧ room c.toNat eb = true then
      if own then some (.os H.length 0 l.toNat 0, H ++ [.own 0 z (List.replicate l.toNat (zs.map .sc))])
      else if l = c then some (.sl false z (List.replicate l.toNat (zs.map .sc)), H) else none
    else none
  | _, _, _, _ => none

/-- dst[i:] := src, as far as both reach. -/
def overlay (ys xs : List (List AV)) : List (List AV) := ys ++ xs.drop ys.length

def aCopy (b : Nat) (H : List Ent) (t : Nat) (dst src : AV) : Option (AV × List Ent) :=
  match T.elem t with
  | none => none
  | some (z, _) =>
    match elemsOf H z src with
    | none => none
    | some (py, ys) =>
      match dst with
      | .os k off len vr => match H[k]? with
        | some (.own vr' z' xs) =>
          if vr = vr' ∧ z = z' ∧ off + len ≤ xs.length ∧ 0 < z ∧ (k < b → AV.pureLL ys = true) then
            some (.sc (.int .i64 ((min ys.length len : Nat) : Int)), H.set k (.own vr z (xs.take off ++ overlay (ys.take len) (xs.drop off))))
          else none
        | _ => none
      | _ => none

def aMin2 : AV → AV → Option AV
  | .sc (.int k x), .sc (.int k' y) => if k = k' then some (.sc (.int k (if y < x then y else x))) else none
  | _, _ => none
def aMax2 : AV → AV → Option AV
  | .sc (.int k x), .sc (.int k' y) => if k = k' then some (.sc (.int k (if y > x then y else x))) else none
  | _, _ => none

/-- The value of an owned slice or of a part of a box, for a call that writes nothing. -/
def lend (H : List Ent) (v : AV) : Option AV :=
  if AV.pure v then some v else match snap H v with
    | some (p, z, xs) => if p then some (.sl false z xs) else none
    | none => none
def lendAll (H : List Ent) : List AV → Option (List AV)
  | [] => some []
  | v :: vs => (lend H v).bind fun v' => (lendAll H vs).map (v' :: ·)

-- Nothing that it says depends on memory.
mutual
def AV.flat : AV → Bool
  | .sc _ => true
  | .agg cs | .tup cs => AV.flatL cs
  | _ => false
def AV.flatL : List AV → Bool
  | [] => true
  | v :: vs => AV.flat v && AV.flatL vs
end
end ops

/-- What is given of the program: the types; the values of package-level variables' addresses. -/
structure Env where
  T : TT
  G : Nat → AV := fun _ => .und

section step
variable (E : Env) (C : CF) (Y : List YF)

/-- What a call by value hands back: what it has made of its own is written no more. -/
def bareRet (H1 : List Ent) (v : AV) : Option AV :=
  if AV.pure v then some v else match AV.freeze 0 H1 6 v with
    | some v' => if AV.pure v' then some v' else none
    | none => none

def emptySl : AV → Bool
  | .sc (.slice none 0 0) | .sl _ _ [] => true
  | _ => false
/-- A call that is handed no memory. -/
def bareCall (g : Nat) (aas : List AV) (H : List Ent) : Option OR :=
  match C g aas [] [] with
  | some (.ret v, H1) => match bareRet H1 v with
    | some v' => some (.val v' H)
    | none => none
  | some (.pan v, _) => if AV.pure v then some (.pan v H) else none
  | none => none
/-- What a call answers, asked for an empty slice. -/
def askEmpty (g : Nat) (aas : List AV) : Bool :=
  match C g aas [] [] with
  | some (.ret v, H1) => match bareRet H1 v with
    | some v' => emptySl v'
    | none => false
  | _ => false

def outR : Option (Out × List Ent) → Option OR
  | some (.ret v, H) => some (.val v H)
  | some (.pan v, H) => some (.pan v H)
  | none => none

/-- A call of a function value. -/
def aCallFn (f : Fl) (H : List Ent) (callee : AV) (args : List AV) : Option OR :=
  match callee with
  | .fn g caps =>
    match f with
    | .gen | .own => outR (C g (args ++ caps) H Y)
    | .lend =>
      match lendAll H args with
      | none => none
      | some aas =>
        if AV.pureL caps then
          match C g (aas ++ caps) [] [] with
          | some (.ret v, _) => if AV.flat v then some (.val v H) else none
          | _ => none
        else none
    | .non =>
      if AV.pureL args && AV.pureL caps then
        match C g (args ++ caps) [] [] with
        | some (.ret v, H1) => match bareRet H1 v with
          | some v' => some (.val v' H)
          | none => none
        | some (.pan v, _) => if AV.pure v then some (.pan v H) else none
        | none => none
      else none
    | .cln =>
      if AV.pureL args && AV.pureL caps then
        match args with
        | [.sl _ z []] => if askEmpty C g (.nsl true z :: caps) && askEmpty C g (.nsl false z :: caps) then some (.val (.sl false z []) H) else none
        | _ => bareCall C g (args ++ caps) H
      else none
  | .yl j => match Y[j]? with
    | some y => outR (y args H)
    | none => none
  | _ => none

def ok (H : List Ent) : Option AV → Option OR
  | some v => some (.val v H)
  | none => none
def okH : Option (AV × List Ent) → Option OR
  | some (v, H) => some (.val v H)
  | none => none

def aBuiltin (f : Fl) (b0 : Nat) (H : List Ent) (b : Builtin) (tys : Array TypeId) (args : List AV) : Option OR :=
  match b, args with
  | .len, [x] => match tys[0]? with
    | some t => ok H (aLen E.T H t x)
    | none => none
  | .append, [s, x] => match tys[0]?, tys[1]? with
    | some t, some t2 => if (E.T.elem t2).isSome then okH (aAppend E.T (f == .own) b0 H t s x) else none
    | _, _ => none
  | .copy, [d, s] => match tys[0]? with
    | some t => okH (aCopy E.T b0 H t d s)
    | none => none
  | .min, [x, y] => ok H (aMin2 x y)
  | .max, [x, y] => ok H (aMax2 x y)
  | _, _ => none

/-- One operation. -/
def aopW (ρ : Operand → AV) (a : AOp) (b : Nat) (H : List Ent) : Option OR :=
  match a.o.op with
  | .move x | .assign x => some (.val (ρ x) H)
  | .pick c x y => match ρ c with
    | .sc (.bool t) => some (.val (if t then ρ x else ρ y) H)
    | _ => none
  | .alloc t => match E.T.zero t with
    | some zs => some (.val (.bp H.length 0) (H ++ [.box (zs.map .sc)]))
    | none => none
  | .box t x => match E.T.size t with
    | some (n, _) => if (ρ x).cells.length = n ∧ 0 < n ∧ AV.storable (ρ x) = true ∧ AV.still (ρ x) = true then some (.val (.bp H.length 0) (H ++ [.box (ρ x).cells])) else none
    | none => none
  | .build t parts => ok H (aBuild E.T t (parts.toList.map fun p => (p.1, ρ p.2)))
  | .buildSlice t len parts =>
    match E.T.ezero t with
    | none => none
    | some zs =>
      match slLit E.T (a.f == .own) t len (parts.toList.map fun p => (p.1, ρ p.2)) zs with
      | none => none
      | some (z, xs) => if a.f == .own then some (.val (.os H.length 0 len 0) (H ++ [.own 0 z xs])) else some (.val (.sl false z xs) H)
  | .load t x => if (a.f == .own && !(ρ x).isFp) = true then none else ok H (aLoad E.T H t (ρ x))
  | .store t x y => match aStore E.T b H t (ρ x) (ρ y) with
    | some H' => some (.val .und H')
    | none => none
  | .nilCheck x => if alive H (ρ x) then some (.val (ρ x) H) else none
  | .binOp op t x y _ => ok H (aBin E.T op t (ρ x) (ρ y))
  | .unOp op _ x => ok H (aUn op (ρ x))
  | .convert src dst x => ok H (aConv E.T src dst (ρ x))
  | .makeFunc fn first captured => match fn with
    | .func f => if first.size = 0 then some (.val (.fn f (captured.toList.map ρ)) H) else none
    | _ => none
  | .makeSlice t l c => okH (aMake E.T (a.f == .own) H t (ρ l) (ρ c) (E.T.ezero t))
  | .slice t x lo hi mx => ok H (aSlice E.T H t (ρ x) (lo.map ρ) (hi.map ρ) (mx.map ρ))
  | .fieldAddr t x f => if (a.f == .own && !(ρ x).isFp) = true then none else ok H (aField E.T H t f (ρ x))
  | .field t x f => ok H (aFieldVal E.T t f (ρ x))
  | .indexAddr t x ix => ok H (aIndexAddr E.T H t (ρ x) (ρ ix))
  | .index t x ix => ok H (aIndex E.T t (ρ x) (ρ ix))
  | .extract x i => match ρ x with
    | .tup vs => ok H vs[i]?
    | _ => none
  | .makeInterface t x => if (E.T.int t).isSome then some (.val (.ifc t (ρ x)) H) else none
  | .panic x => match ρ x with
    | .ifc t v => some (.pan (.ifc t v) H)
    | _ => none
  | .call c =>
    match c.callee with
    | .value f => aCallFn C Y a.f H (ρ f) (c.args.toList.map ρ)
    | .builtin bi => aBuiltin E a.f b H bi c.argTypes (c.args.toList.map ρ)
    | .invoke _ _ => none
  | _ => none

def aop (a : AOp) (b : Nat) (tm : Slots) (H : List Ent) : Option OR := aopW E C Y (aval E.G tm) a b H

def setDst (dst : Option Nat) (v : AV) (tm : Slots) : Slots :=
  match dst with
  | some d => tm.put d v
  | none => tm

/-- An operation in its place: it may be guarded. -/
def stepOp (a : AOp) (st : St) : Option (Ex × St) :=
  match a.g with
  | none =>
    match aop E C Y a st.b st.tm st.H with
    | some (.val v H) => some (.normal, { st with tm := setDst a.o.dst v st.tm, H := H })
    | some (.pan v H) => some (.pan v, { st with H := H })
    | none => none
  | some (g, want) =>
    match st.tm.get g with
    | .sc (.bool t) =>
      if t = want then
        match aop E C Y a st.b st.tm st.H with
        | some (.val v H) => some (.normal, { st with tm := setDst a.o.dst v st.tm, H := H })
        | some (.pan v H) => some (.pan v, { st with H := H })
        | none => none
      else some (.normal, { st with tm := setDst a.o.dst (.sc undef) st.tm })
    | .sc (.tuple _) => some (.normal, { st with tm := setDst a.o.dst (.sc undef) st.tm })
    | _ => none

def runOps : List AOp → St → Option (Ex × St)
  | [], st => some (.normal, st)
  | a :: aas, st =>
    match stepOp E C Y a st with
    | some (.normal, st') => runOps aas st'
    | r => r

def ghost (g : Ghost) (st : St) : Option St :=
  match g with
  | .cut slots m =>
    let tm := slots.map fun t => (t, st.tm.get t)
    if tm.all (fun p => AV.under (st.b + m) p.2) && ((st.H.take (st.b + m)).drop st.b).all (Ent.under (st.b + m)) then
      some { st with tm := tm, H := st.H.take (st.b + m) }
    else none
  | .freeze s =>
    match st.tm.get s with
    | .os k off len vr =>
      if st.b ≤ k then
        match snap st.H (.os k off len vr) with
        | some (p, z, xs) => if p then some { st with tm := st.tm.put s (.sl false z xs), H := st.H.set k .dead } else none
        | none => none
      else none
    | _ => none
  | .own s z =>
    if isNilSl (st.tm.get s) ∧ 0 < z then some { st with tm := st.tm.put s (.os st.H.length 0 0 0), H := st.H ++ [.own 0 z []] } else none
  | .ownAt s off z =>
    match st.tm.get s with
    | .bp k o => match st.H[k]? with
      | some (.box cs) => match cs[o + off]? with
        | some v => if isNilSl v ∧ 0 < z ∧ st.b ≤ k then some { st with H := st.H.set k (.box (cs.set (o + off) (.os st.H.length 0 0 0))) ++ [.own 0 z []] } else none
        | none => none
      | _ => none
    | _ => none
  | .frz s =>
    match st.tm.get s with
    | .bp k o =>
      if st.b ≤ k then
        match st.H[k]? with
        | some (.box cs) => if AV.pureL cs then some { st with tm := st.tm.put s (.fp (cs.drop o)), H := st.H.set k .dead } else none
        | _ => none
      else none
    | _ => none
  | .weak s z => some (if isNilSl (st.tm.get s) then { st with tm := st.tm.put s (.sl false z []) } else st)

def loopIter : Nat → (St → Option (Ex × St)) → St → Option (Ex × St)
  | 0, _, _ => none
  | n + 1, D, st =>
    match D st with
    | some (.normal, st') => loopIter n D st'
    | r => r

/-- How a round ends, by how its body was left. -/
def roundEnd (k hl : Nat) (ex : Ex) (H : List Ent) : Option (Out × List Ent) :=
  match ex with
  | .normal => some (.ret (.sc (.bool true)), (H.set k (.loop .ready none)).take hl)
  | .ret => some (.ret (.sc (.bool false)), (H.set k (.loop .done (some .ret))).take hl)
  | .exit id => some (.ret (.sc (.bool false)), (H.set k (.loop .done (some (.exit id)))).take hl)
  | .pan _ => none

/-- What a yield function does: the assignment, the body. -/
def roundOf (ps : List Nat) (tm : Slots) (k : Nat) (asg body : St → Option (Ex × St)) : YF := fun args H =>
  match H[k]? with
  | some (.loop .ready none) =>
    if args.length = ps.length ∧ AV.pureL args = true then
      match asg { tm := tm.putAll ps args, H := H, b := H.length } with
      | some (.normal, st) =>
        match st.H[k]? with
        | some (.loop .ready none) =>
          match body { st with H := st.H.set k (.loop .busy none) } with
          | some (ex, st') => roundEnd k H.length ex st'.H
          | none => none
        | _ => none
      | _ => none
    else none
  | _ => none

def afterLoop (st : St) (H : List Ent) : Option Jmp → Option (Ex × St)
  | none => some (.normal, { st with H := H })
  | some .ret => some (.ret, { st with H := H })
  | some (.exit id) => some (.exit id, { st with H := H })

def rangeFn (f : AV) (ps : List Nat) (asg body : St → Option (Ex × St)) (st : St) : Option (Ex × St) :=
  match f with
  | .fn g caps =>
    match C g (.yl Y.length :: caps) (st.H ++ [.loop .ready none]) (Y ++ [roundOf ps st.tm st.H.length asg body]) with
    | some (.ret _, H') =>
      match H'[st.H.length]? with
      | some (.loop .busy _) => none
      | some (.loop _ p) => afterLoop st (H'.take st.H.length) p
      | _ => none
    | _ => none
  | _ => none

/-- What code does. lp: what a loop does. -/
def den (lp : (St → Option (Ex × St)) → St → Option (Ex × St)) : AC → St → Option (Ex × St)
  | .skip, st => some (.normal, st)
  | .region _ ops d, st =>
    match runOps E C Y ops st with
    | some (.normal, st') => some (.normal, st')
    | some (ex, st') => if d then none else some (ex, st')
    | none => none
  | .seq a b, st =>
    match den lp a st with
    | some (.normal, st') => den lp b st'
    | r => r
  | .cond c a b, st =>
    match aval E.G st.tm c with
    | .sc (.bool t) => if t then den lp a st else den lp b st
    | _ => none
  | .block id a, st =>
    match den lp a st with
    | some (.exit id', st') => if id' = id then some (.normal, st') else some (.exit id', st')
    | r => r
  | .loop a, st => lp (den lp a) st
  | .exit id, st => some (.exit id, st)
  | .ret, st => some (.ret, st)
  | .rangeFunc f ps asg body, st => rangeFn C Y (aval E.G st.tm f) ps (den lp asg) (den lp body) st
  | .ghost g a, st =>
    match ghost g st with
    | some st' => den lp a st'
    | none => none

end step

/-- A function, as it is evaluated. -/
structure AFn where
  ac : AC
  ntmps : Nat
  results : List ResultVar
  adopt : Bool := false                          -- its entities outlive it

def results (T : TT) (tm : Slots) (H : List Ent) : List ResultVar → Option (List AV)
  | [] => some []
  | .tmp t :: rs => (results T tm H rs).map (tm.get t :: ·)
  | .cell a t :: rs => (aLoad T H t (tm.get a)).bind fun v => (results T tm H rs).map (v :: ·)

def pack : List AV → AV
  | [v] => v
  | vs => .tup vs

def leave (T : TT) (A : AFn) (b : Nat) (st : St) : Option (Out × List Ent) :=
  match results T st.tm st.H A.results with
  | none => none
  | some vs =>
    if A.adopt then some (.ret (pack vs), st.H)
    else if AV.pure (pack vs) then some (.ret (pack vs), st.H.take b)
    else match AV.freeze b st.H 6 (pack vs) with
      | some v => some (.ret v, st.H.take b)
      | none => none

/-- A call: n bounds the depth and the rounds. -/
def callN (E : Env) (F : Nat → Option AFn) : Nat → CF
  | 0, _, _, _, _ => none
  | n + 1, f, args, H, Y =>
    match F f with
    | none => none
    | some A =>
      match den E (callN E F n) Y (loopIter n) A.ac { tm := Slots.init 0 args, H := H, b := H.length } with
      | some (.normal, st) | some (.ret, st) => leave E.T A H.length st
      | some (.pan v, st) => if AV.under H.length v then some (.pan v, st.H.take H.length) else none
      | _ => none

end Go.Abs

/- What the evaluator's values and entities say of the machine's values and memory, and how that is kept. -/
namespace Go.Abs

def Jmp.code : Jmp → Code
  | .ret => .ret
  | .exit id => .exit id

/-- What stands for an entity in the machine. -/
inductive EC where
  | box (b : Nat)
  | own (hdr : Value)
  | loop (l : Nat) (r : Loop)
  | dead

def EC.blk : EC → Option Nat
  | .box b => some b
  | .own (.slice (some a) _ (_ + 1)) => some a.block
  | .own _ => none
  | .loop l _ => some l
  | .dead => none

/-- Where we are: the world, the blocks that may still be written, the entities. -/
structure Cx where
  w : World
  M : Nat → Prop
  E : List EC
  H : List Ent

/-- Block b is an entity's. -/
def Cx.holds (X : Cx) (b : Nat) : Prop := ∃ (k : Nat) (e : EC), X.E[k]? = some e ∧ e.blk = some b

/-- A value that leads to memory that nobody writes. -/
inductive FRel (w : World) (M : Nat → Prop) : AV → Value → Prop
  | und (v : Value) : FRel w M .und v
  | sc (v : Value) : FRel w M (.sc v) v
  | agg {cs : List AV} {vs : Array Value} (hl : vs.size = cs.length) (h1 : ∀ (i : Nat) v, vs[i]? = some v → v.oneCell' = true) (h : ∀ (i : Nat) c v, cs[i]? = some c → vs[i]? = some v → FRel w M c v) : FRel w M (.agg cs) (.agg vs)
  | tup {cs : List AV} {vs : Array Value} (hl : vs.size = cs.length) (h : ∀ (i : Nat) c v, cs[i]? = some c → vs[i]? = some v → FRel w M c v) : FRel w M (.tup cs) (.tuple vs)
  | fn {f : Nat} {cs : List AV} {vs : Array Value} (hl : vs.size = cs.length) (h : ∀ (i : Nat) c v, cs[i]? = some c → vs[i]? = some v → FRel w M c v) : FRel w M (.fn f cs) (.func (.func f) #[] vs)
  | ifc {t : Nat} {a : AV} {v : Value} (h : FRel w M a v) : FRel w M (.ifc t a) (.iface t v)
  | slE {f : Bool} {z : Nat} {a : Option Addr} {cap : Nat} (hf : f = true → cap = 0) : FRel w M (.sl f z []) (.slice a 0 cap)
  | nsl {n : Bool} {z : Nat} {a : Option Addr} {cap : Nat} (hn : n = a.isNone) : FRel w M (.nsl n z) (.slice a 0 cap)
  | sl {f : Bool} {z : Nat} {xs : List (List AV)} {a : Addr} {cap n : Nat} (g : Nat → Nat → Value) (hn : n = xs.length) (hc : n ≤ cap) (hf : f = true → cap = n) (hs : a.spot = none)
      (hb : a.block < w.heap.size) (hM : ¬ M a.block) (hz : ∀ x ∈ xs, x.length = z)
      (hg : ∀ (i j : Nat) x c, xs[i]? = some x → x[j]? = some c → w.cell? ⟨a.block, a.off + (i * z + j), none⟩ = some (g i j))
      (h1 : ∀ (i j : Nat) x c, xs[i]? = some x → x[j]? = some c → (g i j).oneCell' = true)
      (h : ∀ (i j : Nat) x c, xs[i]? = some x → x[j]? = some c → FRel w M c (g i j)) : FRel w M (.sl f z xs) (.slice (some a) n cap)
  | fp {cs : List AV} {a : Addr} (g : Nat → Value) (hs : a.spot = none) (hb : a.block < w.heap.size) (hM : ¬ M a.block)
      (hg : ∀ (j : Nat) c, cs[j]? = some c → w.cell? ⟨a.block, a.off + j, none⟩ = some (g j))
      (h1 : ∀ (j : Nat) c, cs[j]? = some c → (g j).oneCell' = true)
      (h : ∀ (j : Nat) c, cs[j]? = some c → FRel w M c (g j)) : FRel w M (.fp cs) (.pointer (some a))

theorem cell_of_heap {w w' : World} {b o : Nat} (h : w'.heap[b]? = w.heap[b]?) : w'.cell? ⟨b, o, none⟩ = w.cell? ⟨b, o, none⟩ := by
  simp only [World.cell?, h]

theorem FRel.keep {w w' : World} {M M' : Nat → Prop} (hs : w.heap.size ≤ w'.heap.size)
    (hk : ∀ b, b < w.heap.size → ¬ M b → w'.heap[b]? = w.heap[b]? ∧ ¬ M' b) {a : AV} {v : Value} (h : FRel w M a v) : FRel w' M' a v := by
  induction h with
  | und v => exact .und v
  | sc v => exact .sc v
  | agg hl h1 _ ih => exact .agg hl h1 ih
  | tup hl _ ih => exact .tup hl ih
  | fn hl _ ih => exact .fn hl ih
  | ifc _ ih => exact .ifc ih
  | slE hf => exact .slE hf
  | nsl hn => exact .nsl hn
  | sl g hn hc hf hsp hb hM hz hg h1 _ ih =>
    exact .sl g hn hc hf hsp (Nat.lt_of_lt_of_le hb hs) (hk _ hb hM).2 hz (fun i j x c hx hc => by rw [cell_of_heap (hk _ hb hM).1]; exact hg i j x c hx hc) h1 ih
  | fp g hsp hb hM hg h1 _ ih =>
    exact .fp g hsp (Nat.lt_of_lt_of_le hb hs) (hk _ hb hM).2 (fun j c hc => by rw [cell_of_heap (hk _ hb hM).1]; exact hg j c hc) h1 ih

/-- A part of an owned slice: from element off on, len elements. -/
def SubSl (hdr : Value) (off len z : Nat) (v : Value) : Prop :=
  match hdr with
  | .slice a _ 0 => off = 0 ∧ len = 0 ∧ v = .slice a 0 0
  | .slice (some a) _ (cap + 1) => v = .slice (some ⟨a.block, off * z, none⟩) len (cap + 1 - off)
  | _ => False

/-- The version is one that the entity has or has had. -/
def okVer (H : List Ent) (k vr : Nat) : Prop := (∃ vr0 z xs, H[k]? = some (.own vr0 z xs) ∧ vr ≤ vr0) ∨ H[k]? = some .dead

/-- What a value of the evaluator's says of a value of the machine's. -/
inductive VRel (X : Cx) (L : List Nat) : AV → Value → Prop
  | frz {a : AV} {v : Value} (h : FRel X.w X.M a v) : VRel X L a v
  | agg {cs : List AV} {vs : Array Value} (hl : vs.size = cs.length) (h1 : ∀ (i : Nat) v, vs[i]? = some v → v.oneCell' = true) (h : ∀ (i : Nat) c v, cs[i]? = some c → vs[i]? = some v → VRel X L c v) : VRel X L (.agg cs) (.agg vs)
  | tup {cs : List AV} {vs : Array Value} (hl : vs.size = cs.length) (h : ∀ (i : Nat) c v, cs[i]? = some c → vs[i]? = some v → VRel X L c v) : VRel X L (.tup cs) (.tuple vs)
  | fn {f : Nat} {cs : List AV} {vs : Array Value} (hl : vs.size = cs.length) (h : ∀ (i : Nat) c v, cs[i]? = some c → vs[i]? = some v → VRel X L c v) : VRel X L (.fn f cs) (.func (.func f) #[] vs)
  | ifc {t : Nat} {a : AV} {v : Value} (h : VRel X L a v) : VRel X L (.ifc t a) (.iface t v)
  | yl {j l : Nat} (h : L[j]? = some l) : VRel X L (.yl j) (.func (.yield l) #[] #[])
  | bp {k off : Nat} {v : Value} (h1 : v.oneCell' = true) (hk : k < X.E.length) (h : ∀ b, X.E[k]? = some (.box b) → v = .pointer (some ⟨b, off, none⟩)) : VRel X L (.bp k off) v
  | bxs {k off len z : Nat} {v : Value} (h1 : v.oneCell' = true) (hk : k < X.E.length) (h : ∀ b, X.E[k]? = some (.box b) → ∃ cap, v = .slice (some ⟨b, off, none⟩) len cap ∧ len ≤ cap) : VRel X L (.bxs k off len z) v
  | os {k off len vr : Nat} {v : Value} (h1 : v.oneCell' = true) (hk : k < X.E.length) (hv : okVer X.H k vr)
      (h : ∀ z xs hdr, X.H[k]? = some (.own vr z xs) → X.E[k]? = some (.own hdr) → SubSl hdr off len z v) : VRel X L (.os k off len vr) v
  | op {k i off vr : Nat} {v : Value} (h1 : v.oneCell' = true) (hk : k < X.E.length) (hv : okVer X.H k vr)
      (h : ∀ z xs hdr, X.H[k]? = some (.own vr z xs) → X.E[k]? = some (.own hdr) → ∃ a n cap, hdr = .slice (some a) n cap ∧ v = .pointer (some ⟨a.block, i * z + off, none⟩)) : VRel X L (.op k i off vr) v

/-- What an entity says of memory. -/
def EntRel (X : Cx) : Ent → EC → Prop
  | .box cs, .box b => X.M b ∧ ∃ arr T, X.w.heap[b]? = some (.cells arr T (0, 0)) ∧ arr.size = cs.length ∧ (∀ (j : Nat) v, arr[j]? = some v → v.oneCell' = true) ∧ ∀ (j : Nat) c v, cs[j]? = some c → arr[j]? = some v → VRel X [] c v
  | .own _ z xs, .own hdr => 0 < z ∧ (∀ x ∈ xs, x.length = z) ∧ ((∃ a, hdr = .slice a 0 0 ∧ xs = []) ∨
      ∃ b cap arr T, hdr = .slice (some ⟨b, 0, none⟩) xs.length (cap + 1) ∧ X.M b ∧ X.w.heap[b]? = some (.cells arr T (0, 0)) ∧ arr.size = (cap + 1) * z ∧ xs.length ≤ cap + 1 ∧ (∀ (j : Nat) v, arr[j]? = some v → v.oneCell' = true) ∧
        ∀ (i j : Nat) x c, xs[i]? = some x → x[j]? = some c → ∃ v, arr[i * z + j]? = some v ∧ VRel X [] c v)
  | .loop st p, .loop l r => X.M l ∧ X.w.heap[l]? = some (.loop { r with state := st, pending := p.map Jmp.code })
  | .dead, .dead => True
  | _, _ => False

/-- All is in order. -/
structure Cx.Ok (X : Cx) : Prop where
  len : X.E.length = X.H.length
  bnd : ∀ b, X.M b → b < X.w.heap.size
  ent : ∀ (k : Nat) h e, X.H[k]? = some h → X.E[k]? = some e → EntRel X h e
  apart : ∀ (i j : Nat) e e' b, X.E[i]? = some e → X.E[j]? = some e' → e.blk = some b → e'.blk = some b → i = j

/-- How entity k may turn. -/
def Turns : Ent → EC → Ent → EC → Prop
  | .box _, .box b, .box _, .box b' => b = b'
  | .own vr z _, .own hdr, .own vr' z' _, .own hdr' => vr ≤ vr' ∧ z = z' ∧ (vr = vr' → hdr = hdr')
  | .own .., .own _, .dead, .dead => True
  | .box _, .box _, .dead, .dead => True
  | .loop .., .loop l r, .loop .., .loop l' r' => l = l' ∧ r = r'
  | .dead, .dead, .dead, .dead => True
  | _, _, _, _ => False

/-- Outside nothing has happened; memory has grown, if at all. -/
structure Later (w w' : World) : Prop where
  size : w.heap.size ≤ w'.heap.size
  os : w'.os = w.os
  output : w'.output = w.output
theorem Later.refl (w : World) : Later w w := ⟨Nat.le_refl _, rfl, rfl⟩
theorem Later.trans {w w' w'' : World} (a : Later w w') (b : Later w' w'') : Later w w'' := ⟨Nat.le_trans a.size b.size, b.os.trans a.os, b.output.trans a.output⟩

/-- What may happen from X to X'. -/
structure Trans (X X' : Cx) : Prop where
  later : Later X.w X'.w
  same : ∀ b, b < X.w.heap.size → ¬ X.holds b → X'.w.heap[b]? = X.w.heap[b]?
  mKeep : ∀ b, b < X.w.heap.size → X.M b → ¬ X.holds b → X'.M b
  mNew : ∀ b, X'.M b → X'.holds b ∨ (b < X.w.heap.size ∧ X.M b ∧ ¬ X.holds b)
  held : ∀ b, X'.holds b → X.holds b ∨ X.w.heap.size ≤ b
  turn : ∀ (k : Nat) h e, X.H[k]? = some h → X.E[k]? = some e → ∃ h' e', X'.H[k]? = some h' ∧ X'.E[k]? = some e' ∧ Turns h e h' e'

theorem Turns.refl {h : Ent} {e : EC} {X : Cx} (hr : EntRel X h e) : Turns h e h e := by
  cases h <;> cases e <;> simp_all [EntRel, Turns]

theorem Turns.trans {h h' h'' : Ent} {e e' e'' : EC} (a : Turns h e h' e') (b : Turns h' e' h'' e'') : Turns h e h'' e'' := by
  cases h <;> cases e <;> cases h' <;> cases e' <;> simp only [Turns] at a <;> cases h'' <;> cases e'' <;> simp only [Turns] at b ⊢
  · exact a.trans b
  · obtain ⟨a1, a2, a3⟩ := a
    obtain ⟨b1, b2, b3⟩ := b
    refine ⟨Nat.le_trans a1 b1, a2.trans b2, fun hv => ?_⟩
    exact (a3 (by omega)).trans (b3 (by omega))
  · exact ⟨a.1.trans b.1, a.2.trans b.2⟩

theorem EntRel.m {X : Cx} {h : Ent} {e : EC} {b : Nat} (hr : EntRel X h e) (hb : e.blk = some b) : X.M b := by
  cases h <;> cases e <;> simp only [EntRel] at hr
  · simp only [EC.blk, Option.some.injEq] at hb
    exact hb ▸ hr.1
  · obtain ⟨_, _, ⟨a, rfl, _⟩ | ⟨b', cap, arr, T, rfl, hm, _⟩⟩ := hr
    · cases a <;> simp [EC.blk] at hb
    · simp only [EC.blk, Option.some.injEq] at hb
      exact hb ▸ hm
  · simp only [EC.blk, Option.some.injEq] at hb
    exact hb ▸ hr.1
  · simp [EC.blk] at hb

theorem Cx.Ok.hent {X : Cx} (h : X.Ok) {k : Nat} {e : EC} (he : X.E[k]? = some e) : ∃ h', X.H[k]? = some h' ∧ EntRel X h' e := by
  obtain ⟨hk, _⟩ := List.getElem?_eq_some_iff.1 he
  have hk' : k < X.H.length := h.len ▸ hk
  exact ⟨X.H[k], List.getElem?_eq_getElem hk', h.ent k _ e (List.getElem?_eq_getElem hk') he⟩

theorem Cx.Ok.hec {X : Cx} (h : X.Ok) {k : Nat} {e : Ent} (he : X.H[k]? = some e) : ∃ e', X.E[k]? = some e' ∧ EntRel X e e' := by
  obtain ⟨hk, _⟩ := List.getElem?_eq_some_iff.1 he
  have hk' : k < X.E.length := h.len.symm ▸ hk
  exact ⟨X.E[k], List.getElem?_eq_getElem hk', h.ent k _ _ he (List.getElem?_eq_getElem hk')⟩

theorem Cx.Ok.holdsM {X : Cx} (h : X.Ok) {b : Nat} (hb : X.holds b) : X.M b := by
  obtain ⟨k, e, he, hb⟩ := hb
  obtain ⟨_, _, hr⟩ := h.hent he
  exact hr.m hb

theorem Trans.size {X X' : Cx} (t : Trans X X') : X.w.heap.size ≤ X'.w.heap.size := t.later.size

theorem Trans.refl {X : Cx} (h : X.Ok) : Trans X X where
  later := .refl _
  same := fun _ _ _ => rfl
  mKeep := fun _ _ h _ => h
  mNew := fun b hm => by
    by_cases hh : X.holds b
    · exact .inl hh
    · exact .inr ⟨h.bnd b hm, hm, hh⟩
  held := fun _ h => .inl h
  turn := fun k hh e hH hE => ⟨hh, e, hH, hE, Turns.refl (h.ent k hh e hH hE)⟩

theorem Trans.trans {X Y Z : Cx} (a : Trans X Y) (b : Trans Y Z) : Trans X Z where
  later := a.later.trans b.later
  same := fun k hk hn => by
    rw [b.same k (Nat.lt_of_lt_of_le hk a.size) (fun h => (a.held k h).elim hn (by omega))]
    exact a.same k hk hn
  mKeep := fun k hk hm hn => b.mKeep k (Nat.lt_of_lt_of_le hk a.size) (a.mKeep k hk hm hn) (fun h => (a.held k h).elim hn (by omega))
  mNew := fun k hm => by
    rcases b.mNew k hm with h | ⟨_, h2, h3⟩
    · exact .inl h
    · exact (a.mNew k h2).elim (fun h => absurd h h3) .inr
  held := fun k h => by
    rcases b.held k h with h | h
    · exact a.held k h
    · exact .inr (Nat.le_trans a.size h)
  turn := fun k h e hH hE => by
    obtain ⟨h', e', hH', hE', t⟩ := a.turn k h e hH hE
    obtain ⟨h'', e'', hH'', hE'', t'⟩ := b.turn k h' e' hH' hE'
    exact ⟨h'', e'', hH'', hE'', t.trans t'⟩

theorem Trans.mOld {X X' : Cx} (t : Trans X X') (h : X.Ok) {b : Nat} (hb : b < X.w.heap.size) (hm : X'.M b) : X.M b := by
  rcases t.mNew b hm with h1 | ⟨_, h2, _⟩
  · rcases t.held b h1 with h2 | h2
    · exact h.holdsM h2
    · omega
  · exact h2

/-- What nobody writes stays as it is. -/
theorem Trans.still {X X' : Cx} (t : Trans X X') (h : X.Ok) : ∀ b, b < X.w.heap.size → ¬ X.M b → X'.w.heap[b]? = X.w.heap[b]? ∧ ¬ X'.M b :=
  fun b hb hm => ⟨t.same b hb (fun hh => hm (h.holdsM hh)), fun hm' => hm (t.mOld h hb hm')⟩

theorem FRel.trans {X X' : Cx} (t : Trans X X') (h : X.Ok) {a : AV} {v : Value} (hr : FRel X.w X.M a v) : FRel X'.w X'.M a v :=
  hr.keep t.size (t.still h)

theorem Trans.lenE {X X' : Cx} (t : Trans X X') (h : X.Ok) : X.E.length ≤ X'.E.length := by
  by_cases hz : X.E.length = 0
  · omega
  · have hk : X.E.length - 1 < X.E.length := by omega
    have hk' : X.E.length - 1 < X.H.length := h.len ▸ hk
    obtain ⟨_, e', _, he', _⟩ := t.turn _ _ _ (List.getElem?_eq_getElem hk') (List.getElem?_eq_getElem hk)
    have := (List.getElem?_eq_some_iff.1 he').1
    omega

theorem okVer.trans {X X' : Cx} (t : Trans X X') (h : X.Ok) {k vr : Nat} (hv : okVer X.H k vr) : okVer X'.H k vr := by
  rcases hv with ⟨vr0, z, xs, hH, hle⟩ | hH
  · obtain ⟨e, hE, hr⟩ := h.hec hH
    obtain ⟨h', e', hH', hE', tt⟩ := t.turn k _ _ hH hE
    cases e <;> simp only [EntRel] at hr
    cases h' <;> cases e' <;> simp only [Turns] at tt
    · exact .inl ⟨_, _, _, hH', Nat.le_trans hle tt.1⟩
    · exact .inr hH'
  · obtain ⟨e, hE, hr⟩ := h.hec hH
    obtain ⟨h', e', hH', hE', tt⟩ := t.turn k _ _ hH hE
    cases e <;> simp only [EntRel] at hr
    cases h' <;> cases e' <;> simp only [Turns] at tt
    exact .inr hH'

/-- An owned slice that is still at a version that was there has not moved. -/
theorem Trans.hdr {X X' : Cx} (t : Trans X X') (h : X.Ok) {k vr z : Nat} {xs : List (List AV)} {hdr : Value} (hv : okVer X.H k vr)
    (hH' : X'.H[k]? = some (.own vr z xs)) (hE' : X'.E[k]? = some (.own hdr)) : ∃ xs0, X.H[k]? = some (.own vr z xs0) ∧ X.E[k]? = some (.own hdr) := by
  rcases hv with ⟨vr0, z0, xs0, hH, hle⟩ | hH
  · obtain ⟨e, hE, hr⟩ := h.hec hH
    obtain ⟨h', e', hH2, hE2, tt⟩ := t.turn k _ _ hH hE
    rw [hH'] at hH2
    rw [hE'] at hE2
    cases hH2
    cases hE2
    cases e <;> simp only [EntRel] at hr
    simp only [Turns] at tt
    obtain ⟨t1, t2, t3⟩ := tt
    have hv : vr0 = vr := by omega
    subst hv
    subst t2
    rw [← t3 rfl]
    exact ⟨xs0, hH, hE⟩
  · obtain ⟨e, hE, hr⟩ := h.hec hH
    obtain ⟨h', e', hH2, hE2, tt⟩ := t.turn k _ _ hH hE
    rw [hH'] at hH2
    rw [hE'] at hE2
    cases hH2
    cases hE2
    cases e <;> simp only [EntRel] at hr
    simp only [Turns] at tt

theorem Trans.boxBack {X X' : Cx} (t : Trans X X') (h : X.Ok) {k b : Nat} (hk : k < X.E.length) (hE' : X'.E[k]? = some (.box b)) : X.E[k]? = some (.box b) := by
  have hk' : k < X.H.length := h.len ▸ hk
  obtain ⟨h', e', hH2, hE2, tt⟩ := t.turn k _ _ (List.getElem?_eq_getElem hk') (List.getElem?_eq_getElem hk)
  rw [hE'] at hE2
  cases hE2
  have hr := h.ent k _ _ (List.getElem?_eq_getElem hk') (List.getElem?_eq_getElem hk)
  rw [List.getElem?_eq_getElem hk]
  generalize X.H[k] = h0 at *
  generalize X.E[k] = e0 at *
  cases h0 <;> cases e0 <;> simp only [EntRel] at hr <;> cases h' <;> simp only [Turns] at tt
  rw [tt]

theorem VRel.trans {X X' : Cx} (t : Trans X X') (h : X.Ok) {L : List Nat} {a : AV} {v : Value} (hr : VRel X L a v) : VRel X' L a v := by
  induction hr with
  | frz hf => exact .frz (hf.trans t h)
  | agg hl h1 _ ih => exact .agg hl h1 ih
  | tup hl _ ih => exact .tup hl ih
  | fn hl _ ih => exact .fn hl ih
  | ifc _ ih => exact .ifc ih
  | yl hl => exact .yl hl
  | bp h1 hk hb => exact .bp h1 (Nat.lt_of_lt_of_le hk (t.lenE h)) fun b hE => hb b (t.boxBack h hk hE)
  | bxs h1 hk hb => exact .bxs h1 (Nat.lt_of_lt_of_le hk (t.lenE h)) fun b hE => hb b (t.boxBack h hk hE)
  | os h1 hk hv hb =>
    refine .os h1 (Nat.lt_of_lt_of_le hk (t.lenE h)) (hv.trans t h) fun z xs hdr hH hE => ?_
    obtain ⟨xs0, h1, h2⟩ := t.hdr h hv hH hE
    exact hb z xs0 hdr h1 h2
  | op h1 hk hv hb =>
    refine .op h1 (Nat.lt_of_lt_of_le hk (t.lenE h)) (hv.trans t h) fun z xs hdr hH hE => ?_
    obtain ⟨xs0, h1, h2⟩ := t.hdr h hv hH hE
    exact hb z xs0 hdr h1 h2

theorem VRel.wider {X : Cx} {L L' : List Nat} (hL : ∀ (j l : Nat), L[j]? = some l → L'[j]? = some l) {a : AV} {v : Value} (hr : VRel X L a v) : VRel X L' a v := by
  induction hr with
  | frz hf => exact .frz hf
  | agg hl h1 _ ih => exact .agg hl h1 ih
  | tup hl _ ih => exact .tup hl ih
  | fn hl _ ih => exact .fn hl ih
  | ifc _ ih => exact .ifc ih
  | yl hl => exact .yl (hL _ _ hl)
  | bp h1 hk hb => exact .bp h1 hk hb
  | bxs h1 hk hb => exact .bxs h1 hk hb
  | os h1 hk hv hb => exact .os h1 hk hv hb
  | op h1 hk hv hb => exact .op h1 hk hv hb

theorem pureL_get {cs : List AV} (h : AV.pureL cs = true) : ∀ (i : Nat) c, cs[i]? = some c → AV.pure c = true := by
  induction cs with
  | nil => intro i c hc; simp at hc
  | cons x cs ih =>
    simp only [AV.pureL, Bool.and_eq_true] at h
    intro i c hc
    cases i with
    | zero => simp at hc; exact hc ▸ h.1
    | succ i => exact ih h.2 i c (by simpa using hc)

theorem VRel.pure {X : Cx} {L : List Nat} {a : AV} {v : Value} (hr : VRel X L a v) (hp : AV.pure a = true) : FRel X.w X.M a v := by
  induction hr with
  | frz hf => exact hf
  | agg hl h1 _ ih => exact .agg hl h1 fun i c v hc hv => ih i c v hc hv (pureL_get hp i c hc)
  | tup hl _ ih => exact .tup hl fun i c v hc hv => ih i c v hc hv (pureL_get hp i c hc)
  | fn hl _ ih => exact .fn hl fun i c v hc hv => ih i c v hc hv (pureL_get hp i c hc)
  | ifc _ ih => exact .ifc (ih hp)
  | yl hl => simp [AV.pure] at hp
  | bp h1 hk hb => simp [AV.pure] at hp
  | bxs h1 hk hb => simp [AV.pure] at hp
  | os h1 hk hv hb => simp [AV.pure] at hp
  | op h1 hk hv hb => simp [AV.pure] at hp

theorem stillL_get {cs : List AV} (h : AV.stillL cs = true) : ∀ (i : Nat) c, cs[i]? = some c → AV.still c = true := by
  induction cs with
  | nil => intro i c hc; simp at hc
  | cons x cs ih =>
    simp only [AV.stillL, Bool.and_eq_true] at h
    intro i c hc
    cases i with
    | zero => simp at hc; exact hc ▸ h.1
    | succ i => exact ih h.2 i c (by simpa using hc)

theorem VRel.calm {X : Cx} {L : List Nat} {a : AV} {v : Value} (hr : VRel X L a v) (hp : AV.still a = true) : VRel X [] a v := by
  induction hr with
  | frz hf => exact .frz hf
  | agg hl h1 _ ih => exact .agg hl h1 fun i c v hc hv => ih i c v hc hv (stillL_get hp i c hc)
  | tup hl _ ih => exact .tup hl fun i c v hc hv => ih i c v hc hv (stillL_get hp i c hc)
  | fn hl _ ih => exact .fn hl fun i c v hc hv => ih i c v hc hv (stillL_get hp i c hc)
  | ifc _ ih => exact .ifc (ih hp)
  | yl hl => simp [AV.still] at hp
  | bp h1 hk hb => exact .bp h1 hk hb
  | bxs h1 hk hb => exact .bxs h1 hk hb
  | os h1 hk hv hb => exact .os h1 hk hv hb
  | op h1 hk hv hb => exact .op h1 hk hv hb
end Go.Abs

/- How the context may turn: new memory; an entity that is new, written, moved or dropped. -/
namespace Go.Abs

theorem EntRel.trans {X X' : Cx} (t : Trans X X') (hX : X.Ok) {h : Ent} {e : EC} (hr : EntRel X h e) (hm : ∀ b, e.blk = some b → X'.M b)
    (hh : ∀ b, e.blk = some b → X'.w.heap[b]? = X.w.heap[b]?) : EntRel X' h e := by
  cases h <;> cases e <;> simp only [EntRel] at hr ⊢
  · obtain ⟨_, arr, T, h1, h2, h4, h3⟩ := hr
    exact ⟨hm _ rfl, arr, T, (hh _ rfl).trans h1, h2, h4, fun j c v hc hv => (h3 j c v hc hv).trans t hX⟩
  · obtain ⟨hz, hl, h⟩ := hr
    refine ⟨hz, hl, ?_⟩
    rcases h with h | ⟨b, cap, arr, T, rfl, _, h3, h4, h5, h7, h6⟩
    · exact .inl h
    · refine .inr ⟨b, cap, arr, T, rfl, hm _ rfl, (hh _ rfl).trans h3, h4, h5, h7, fun i j x c hx hc => ?_⟩
      obtain ⟨v, hv, hf⟩ := h6 i j x c hx hc
      exact ⟨v, hv, hf.trans t hX⟩
  · exact ⟨hm _ rfl, (hh _ rfl).trans hr.2⟩

/-- Only the world turns, and nothing that was there. -/
def Cx.at (X : Cx) (w : World) : Cx := { X with w := w }

theorem Cx.at_trans {X : Cx} (h : X.Ok) {w : World} (hs : Later X.w w) (hk : ∀ b, b < X.w.heap.size → w.heap[b]? = X.w.heap[b]?) : Trans X (X.at w) where
  later := hs
  same := fun b hb _ => hk b hb
  mKeep := fun _ _ hm _ => hm
  mNew := (Trans.refl h).mNew
  held := fun _ hh => .inl hh
  turn := (Trans.refl h).turn

theorem Cx.holds_lt {X : Cx} (h : X.Ok) {b : Nat} (hb : X.holds b) : b < X.w.heap.size := h.bnd b (h.holdsM hb)

theorem Cx.at_ok {X : Cx} (h : X.Ok) {w : World} (hs : Later X.w w) (hk : ∀ b, b < X.w.heap.size → w.heap[b]? = X.w.heap[b]?) : (X.at w).Ok where
  len := h.len
  bnd := fun b hm => Nat.lt_of_lt_of_le (h.bnd b hm) hs.size
  ent := fun k hh e hH hE => (h.ent k hh e hH hE).trans (Cx.at_trans h hs hk) h (fun b hb => (h.ent k hh e hH hE).m hb)
    (fun b hb => hk b (h.bnd b ((h.ent k hh e hH hE).m hb)))
  apart := h.apart

/-- Entity k turns. -/
def Cx.put (X : Cx) (w : World) (k : Nat) (e : EC) (h' : Ent) (e' : EC) : Cx :=
  { w := w, M := fun b => (X.M b ∧ e.blk ≠ some b) ∨ e'.blk = some b, E := X.E.set k e', H := X.H.set k h' }

section put
variable {X : Cx} {w : World} {k : Nat} {h h' : Ent} {e e' : EC}

theorem Cx.put_holds (hE : X.E[k]? = some e) {b : Nat} (hb : (X.put w k e h' e').holds b) : X.holds b ∨ e'.blk = some b := by
  obtain ⟨j, ej, hj, hbj⟩ := hb
  simp only [Cx.put, List.getElem?_set] at hj
  split at hj
  · split at hj
    · cases hj; exact .inr hbj
    · cases hj
  · exact .inl ⟨j, ej, hj, hbj⟩

theorem Cx.put_trans (hX : X.Ok) (hH : X.H[k]? = some h) (hE : X.E[k]? = some e) (hs : Later X.w w)
    (hk : ∀ b, b < X.w.heap.size → e.blk ≠ some b → w.heap[b]? = X.w.heap[b]?)
    (hn : ∀ b, e'.blk = some b → e.blk = some b ∨ X.w.heap.size ≤ b) (ht : Turns h e h' e') : Trans X (X.put w k e h' e') where
  later := hs
  same := fun b hb hnh => hk b hb (fun he => hnh ⟨k, e, hE, he⟩)
  mKeep := fun b _ hm hnh => .inl ⟨hm, fun he => hnh ⟨k, e, hE, he⟩⟩
  mNew := fun b hm => by
    have hkl := (List.getElem?_eq_some_iff.1 hE).1
    rcases hm with ⟨hm, hne⟩ | hb
    · by_cases hh : X.holds b
      · obtain ⟨j, ej, hj, hbj⟩ := hh
        refine .inl ⟨j, ej, ?_, hbj⟩
        have hjk : k ≠ j := by rintro rfl; rw [hE] at hj; cases hj; exact hne hbj
        simp only [Cx.put, List.getElem?_set, hjk, if_false]
        exact hj
      · exact .inr ⟨hX.bnd b hm, hm, hh⟩
    · exact .inl ⟨k, e', by simp [Cx.put, hkl], hb⟩
  held := fun b hb => by
    rcases Cx.put_holds hE hb with hh | hb
    · exact .inl hh
    · rcases hn b hb with h1 | h1
      · exact .inl ⟨k, e, hE, h1⟩
      · exact .inr h1
  turn := fun j hj ej hHj hEj => by
    have hkl := (List.getElem?_eq_some_iff.1 hE).1
    have hkl' := (List.getElem?_eq_some_iff.1 hH).1
    by_cases hjk : k = j
    · subst hjk
      rw [hH] at hHj
      rw [hE] at hEj
      cases hHj
      cases hEj
      exact ⟨h', e', by simp [Cx.put, hkl'], by simp [Cx.put, hkl], ht⟩
    · exact ⟨hj, ej, by simp only [Cx.put, List.getElem?_set, hjk, if_false]; exact hHj, by simp only [Cx.put, List.getElem?_set, hjk, if_false]; exact hEj, Turns.refl (hX.ent j hj ej hHj hEj)⟩

theorem Cx.put_ok (hX : X.Ok) (hH : X.H[k]? = some h) (hE : X.E[k]? = some e) (hs : Later X.w w)
    (hk : ∀ b, b < X.w.heap.size → e.blk ≠ some b → w.heap[b]? = X.w.heap[b]?)
    (hn : ∀ b, e'.blk = some b → e.blk = some b ∨ X.w.heap.size ≤ b) (hlt : ∀ b, e'.blk = some b → b < w.heap.size) (ht : Turns h e h' e')
    (hr : Trans X (X.put w k e h' e') → EntRel (X.put w k e h' e') h' e') : (X.put w k e h' e').Ok := by
  have t := Cx.put_trans hX hH hE hs hk hn ht
  have hkl := (List.getElem?_eq_some_iff.1 hE).1
  have hkl' := (List.getElem?_eq_some_iff.1 hH).1
  have other : ∀ (j : Nat) ej b, X.E[j]? = some ej → ej.blk = some b → k ≠ j → e.blk ≠ some b := fun j ej b hj hb hne he => hne (hX.apart k j e ej b hE hj he hb)
  refine ⟨by simp [Cx.put, hX.len], fun b hm => ?_, fun j hj ej hHj hEj => ?_, fun i j ei ej b hi hj hbi hbj => ?_⟩
  · rcases hm with ⟨hm, _⟩ | hb
    · exact Nat.lt_of_lt_of_le (hX.bnd b hm) hs.size
    · exact hlt b hb
  · by_cases hjk : k = j
    · subst hjk
      simp [Cx.put, hkl] at hEj
      simp [Cx.put, hkl'] at hHj
      subst hEj
      subst hHj
      exact hr t
    · simp only [Cx.put, List.getElem?_set, hjk, if_false] at hEj hHj
      have hre := hX.ent j hj ej hHj hEj
      exact hre.trans t hX (fun b hb => .inl ⟨hre.m hb, other j ej b hEj hb hjk⟩) (fun b hb => hk b (hX.bnd b (hre.m hb)) (other j ej b hEj hb hjk))
  · have new : ∀ (j : Nat) ej, (X.E.set k e')[j]? = some ej → ej.blk = some b → k ≠ j → e'.blk = some b → False := fun j ej hj hb hne hb' => by
      simp only [List.getElem?_set, hne, if_false] at hj
      rcases hn b hb' with h1 | h1
      · exact other j ej b hj hb hne h1
      · exact absurd (hX.bnd b ((hX.ent j _ ej (List.getElem?_eq_getElem (hX.len ▸ (List.getElem?_eq_some_iff.1 hj).1)) hj).m hb)) (by omega)
    by_cases hik : k = i
    · by_cases hjk : k = j
      · exact hik ▸ hjk ▸ rfl
      · subst hik
        simp [Cx.put, hkl] at hi
        subst hi
        exact (new j ej hj hbj hjk hbi).elim
    · by_cases hjk : k = j
      · subst hjk
        simp [Cx.put, hkl] at hj
        subst hj
        exact (new i ei hi hbi hik hbj).elim
      · simp only [Cx.put, List.getElem?_set, hik, hjk, if_false] at hi hj
        exact hX.apart i j ei ej b hi hj hbi hbj
end put

/-- A new entity. -/
def Cx.push (X : Cx) (w : World) (h' : Ent) (e' : EC) : Cx :=
  { w := w, M := fun b => X.M b ∨ e'.blk = some b, E := X.E ++ [e'], H := X.H ++ [h'] }

section push
variable {X : Cx} {w : World} {h' : Ent} {e' : EC}

theorem getElem?_push {α : Type} {l : List α} {x y : α} {k : Nat} (h : (l ++ [x])[k]? = some y) : l[k]? = some y ∨ (k = l.length ∧ y = x) := by
  rcases Nat.lt_trichotomy k l.length with hk | hk | hk
  · rw [List.getElem?_append_left hk] at h; exact .inl h
  · subst hk; simp at h; exact .inr ⟨rfl, h.symm⟩
  · rw [List.getElem?_eq_none (by simp; omega)] at h; cases h

theorem getElem?_old {α : Type} {l : List α} {x y : α} {k : Nat} (h : l[k]? = some y) : (l ++ [x])[k]? = some y := by
  rw [List.getElem?_append_left (List.getElem?_eq_some_iff.1 h).1]; exact h

theorem Cx.push_trans (hX : X.Ok) (hs : Later X.w w) (hk : ∀ b, b < X.w.heap.size → w.heap[b]? = X.w.heap[b]?)
    (hn : ∀ b, e'.blk = some b → X.w.heap.size ≤ b) : Trans X (X.push w h' e') where
  later := hs
  same := fun b hb _ => hk b hb
  mKeep := fun _ _ hm _ => .inl hm
  mNew := fun b hm => by
    rcases hm with hm | hb
    · rcases (Trans.refl hX).mNew b hm with ⟨j, ej, hj, hbj⟩ | h
      · exact .inl ⟨j, ej, getElem?_old hj, hbj⟩
      · exact .inr h
    · exact .inl ⟨X.E.length, e', by simp [Cx.push], hb⟩
  held := fun b hb => by
    obtain ⟨j, ej, hj, hbj⟩ := hb
    rcases getElem?_push hj with hj | ⟨_, rfl⟩
    · exact .inl ⟨j, ej, hj, hbj⟩
    · exact .inr (hn b hbj)
  turn := fun j hj ej hHj hEj => ⟨hj, ej, getElem?_old hHj, getElem?_old hEj, Turns.refl (hX.ent j hj ej hHj hEj)⟩

theorem Cx.push_ok (hX : X.Ok) (hs : Later X.w w) (hk : ∀ b, b < X.w.heap.size → w.heap[b]? = X.w.heap[b]?)
    (hn : ∀ b, e'.blk = some b → X.w.heap.size ≤ b) (hlt : ∀ b, e'.blk = some b → b < w.heap.size)
    (hr : Trans X (X.push w h' e') → EntRel (X.push w h' e') h' e') : (X.push w h' e').Ok := by
  have t := Cx.push_trans (h' := h') hX hs hk hn
  refine ⟨by simp [Cx.push, hX.len], fun b hm => ?_, fun j hj ej hHj hEj => ?_, fun i j ei ej b hi hj hbi hbj => ?_⟩
  · rcases hm with hm | hb
    · exact Nat.lt_of_lt_of_le (hX.bnd b hm) hs.size
    · exact hlt b hb
  · rcases getElem?_push hEj with hEj | ⟨rfl, rfl⟩
    · rcases getElem?_push hHj with hHj | ⟨rfl, _⟩
      · have hre := hX.ent j hj ej hHj hEj
        exact hre.trans t hX (fun b hb => .inl (hre.m hb)) (fun b hb => hk b (hX.bnd b (hre.m hb)))
      · exact absurd (List.getElem?_eq_some_iff.1 hEj).1 (by have := hX.len; omega)
    · rcases getElem?_push hHj with hHj | ⟨_, rfl⟩
      · exact absurd (List.getElem?_eq_some_iff.1 hHj).1 (by have := hX.len; omega)
      · exact hr t
  · have new : ∀ (j : Nat) ej, X.E[j]? = some ej → ej.blk = some b → e'.blk = some b → False := fun j ej hj hb hb' => by
      have h1 := hX.bnd b (hX.holdsM ⟨j, ej, hj, hb⟩)
      have h2 := hn b hb'
      omega
    rcases getElem?_push hi with hi' | ⟨hi1, hi2⟩
    · rcases getElem?_push hj with hj' | ⟨_, hj2⟩
      · exact hX.apart i j ei ej b hi' hj' hbi hbj
      · exact (new i ei hi' hbi (hj2 ▸ hbj)).elim
    · rcases getElem?_push hj with hj' | ⟨hj1, _⟩
      · exact (new j ej hj' hbj (hi2 ▸ hbi)).elim
      · omega
end push

/-- The entities from n on are dropped. -/
def Cx.cut (X : Cx) (n : Nat) : Cx :=
  { w := X.w, M := fun b => X.M b ∧ ∀ (k : Nat) e, n ≤ k → X.E[k]? = some e → e.blk ≠ some b, E := X.E.take n, H := X.H.take n }

theorem underL_get {n : Nat} {cs : List AV} (h : AV.underL n cs = true) : ∀ (i : Nat) c, cs[i]? = some c → AV.under n c = true := by
  induction cs with
  | nil => intro i c hc; simp at hc
  | cons x cs ih =>
    simp only [AV.underL, Bool.and_eq_true] at h
    intro i c hc
    cases i with
    | zero => simp at hc; exact hc ▸ h.1
    | succ i => exact ih h.2 i c (by simpa using hc)

theorem underLL_get {n : Nat} {xs : List (List AV)} (h : AV.underLL n xs = true) : ∀ (i : Nat) x, xs[i]? = some x → AV.underL n x = true := by
  induction xs with
  | nil => intro i c hc; simp at hc
  | cons x cs ih =>
    simp only [AV.underLL, Bool.and_eq_true] at h
    intro i c hc
    cases i with
    | zero => simp at hc; exact hc ▸ h.1
    | succ i => exact ih h.2 i c (by simpa using hc)

theorem take_get {α : Type} {l : List α} {n k : Nat} {x : α} (h : (l.take n)[k]? = some x) : k < n ∧ l[k]? = some x := by
  rw [List.getElem?_take] at h
  split at h
  · exact ⟨by assumption, h⟩
  · cases h

theorem get_take {α : Type} {l : List α} {n k : Nat} {x : α} (hk : k < n) (h : l[k]? = some x) : (l.take n)[k]? = some x := by
  rw [List.getElem?_take, if_pos hk]; exact h

theorem FRel.cut {X : Cx} {n : Nat} {a : AV} {v : Value} (hr : FRel X.w X.M a v) : FRel (X.cut n).w (X.cut n).M a v :=
  hr.keep (Nat.le_refl _) fun _ _ hm => ⟨rfl, fun h => hm h.1⟩

theorem okVer.cut {H : List Ent} {n k vr : Nat} (hk : k < n) (h : okVer H k vr) : okVer (H.take n) k vr := by
  rcases h with ⟨vr0, z, xs, h, hle⟩ | h
  · exact .inl ⟨vr0, z, xs, get_take hk h, hle⟩
  · exact .inr (get_take hk h)

theorem VRel.cut {X : Cx} {L : List Nat} {n : Nat} {a : AV} {v : Value} (hr : VRel X L a v) (hu : AV.under n a = true) : VRel (X.cut n) L a v := by
  induction hr with
  | frz hf => exact .frz hf.cut
  | agg hl h1 _ ih => exact .agg hl h1 fun i c v hc hv => ih i c v hc hv (underL_get hu i c hc)
  | tup hl _ ih => exact .tup hl fun i c v hc hv => ih i c v hc hv (underL_get hu i c hc)
  | fn hl _ ih => exact .fn hl fun i c v hc hv => ih i c v hc hv (underL_get hu i c hc)
  | ifc _ ih => exact .ifc (ih hu)
  | yl hl => exact .yl hl
  | bp h1 hk hb =>
    simp only [AV.under, decide_eq_true_eq] at hu
    exact .bp h1 (by simp [Cx.cut]; omega) fun b hE => hb b (take_get hE).2
  | bxs h1 hk hb =>
    simp only [AV.under, decide_eq_true_eq] at hu
    exact .bxs h1 (by simp [Cx.cut]; omega) fun b hE => hb b (take_get hE).2
  | os h1 hk hv hb =>
    simp only [AV.under, decide_eq_true_eq] at hu
    exact .os h1 (by simp [Cx.cut]; omega) (hv.cut hu) fun z xs hdr hH hE => hb z xs hdr (take_get hH).2 (take_get hE).2
  | op h1 hk hv hb =>
    simp only [AV.under, decide_eq_true_eq] at hu
    exact .op h1 (by simp [Cx.cut]; omega) (hv.cut hu) fun z xs hdr hH hE => hb z xs hdr (take_get hH).2 (take_get hE).2

theorem Cx.cut_ok {X : Cx} (hX : X.Ok) {n : Nat} (hu : ∀ (k : Nat) h, k < n → X.H[k]? = some h → Ent.under n h = true) : (X.cut n).Ok where
  len := by simp [Cx.cut, hX.len]
  bnd := fun b hm => hX.bnd b hm.1
  ent := fun k h e hH hE => by
    obtain ⟨hk, hH⟩ := take_get hH
    obtain ⟨_, hE⟩ := take_get hE
    have hr := hX.ent k h e hH hE
    have hm : ∀ b, e.blk = some b → (X.cut n).M b := fun b hb => ⟨hr.m hb, fun j ej hj hEj hbj => absurd (hX.apart k j e ej b hE hEj hb hbj) (by omega)⟩
    have hun := hu k h hk hH
    cases h <;> cases e <;> simp only [EntRel] at hr ⊢
    · obtain ⟨_, arr, T, h1, h2, h4, h3⟩ := hr
      exact ⟨hm _ rfl, arr, T, h1, h2, h4, fun j c v hc hv => (h3 j c v hc hv).cut (underL_get hun j c hc)⟩
    · obtain ⟨hz, hl, h⟩ := hr
      refine ⟨hz, hl, ?_⟩
      rcases h with h | ⟨b, cap, arr, T, rfl, _, h3, h4, h5, h7, h6⟩
      · exact .inl h
      · refine .inr ⟨b, cap, arr, T, rfl, hm _ rfl, h3, h4, h5, h7, fun i j x c hx hc => ?_⟩
        obtain ⟨v, hv, hf⟩ := h6 i j x c hx hc
        exact ⟨v, hv, hf.cut (underL_get (underLL_get hun i x hx) j c hc)⟩
    · exact ⟨hm _ rfl, hr.2⟩
  apart := fun i j e e' b hi hj => hX.apart i j e e' b (take_get hi).2 (take_get hj).2

theorem Cx.cut_holds {X : Cx} {n b : Nat} (h : (X.cut n).holds b) : X.holds b := by
  obtain ⟨k, e, hE, hb⟩ := h
  exact ⟨k, e, (take_get hE).2, hb⟩

theorem Trans.cut {X0 X : Cx} (t : Trans X0 X) {n : Nat} (hn : X0.E.length ≤ n) : Trans X0 (X.cut n) where
  later := t.later
  same := t.same
  mKeep := fun b hb hm hnh => ⟨t.mKeep b hb hm hnh, fun k e _ hE he => (t.held b ⟨k, e, hE, he⟩).elim hnh (by omega)⟩
  mNew := fun b hm => by
    rcases t.mNew b hm.1 with ⟨k, e, hE, hb⟩ | h
    · by_cases hk : k < n
      · exact .inl ⟨k, e, get_take hk hE, hb⟩
      · exact absurd hb (hm.2 k e (by omega) hE)
    · exact .inr h
  held := fun b hb => t.held b (Cx.cut_holds hb)
  turn := fun k h e hH hE => by
    obtain ⟨h', e', hH', hE', tt⟩ := t.turn k h e hH hE
    have hk : k < n := Nat.lt_of_lt_of_le (List.getElem?_eq_some_iff.1 hE).1 hn
    exact ⟨h', e', get_take hk hH', get_take hk hE', tt⟩
end Go.Abs

/- What the table of types must say of the program; what values look like; loads. -/
namespace Go.Abs

def aggD : TypeDesc → Bool
  | .struct _ | .array _ _ => true
  | _ => false

/-- The table tells the program's types. -/
structure TOk (P : Program) (T : TT) : Prop where
  size : ∀ t n g, T.size t = some (n, g) → ∃ i d, P.info? t = some i ∧ i.size = n ∧ P.underlying t = some d ∧ aggD d = g
  zero : ∀ t zs, T.zero t = some zs → ∃ i v, P.info? t = some i ∧ i.zero = some v ∧ v.cells.toList = zs ∧ ∀ z ∈ zs, z.oneCell' = true
  elem : ∀ t z eb, T.elem t = some (z, eb) → ∃ e i v, P.underlying t = some (.slice e) ∧ P.info? e = some i ∧ i.size = z ∧ i.bytes = eb ∧ i.zero = some v ∧ v.cells.size = z ∧ ∀ x ∈ v.cells.toList, x.oneCell' = true
  ety : ∀ t e, T.ety t = some e → P.underlying t = some (.slice e)
  arr : ∀ t n z g, T.arr t = some (n, z, g) → ∃ e i d, P.underlying t = some (.array n e) ∧ P.info? e = some i ∧ i.size = z ∧ P.underlying e = some d ∧ aggD d = g
  fld : ∀ t l, T.flds t = some l → ∃ fs, P.underlying t = some (.struct fs) ∧ fs.size = l.length ∧
    ∀ (f : Nat) off n g, l[f]? = some (off, n, g) → ∃ fl i d, fs[f]? = some fl ∧ fl.offset = off ∧ P.info? fl.type = some i ∧ i.size = n ∧ 0 < n ∧ P.underlying fl.type = some d ∧ aggD d = g
  eqc : ∀ t (cs ds : List Value) (e : Bool) (w : World), eqShape (T.eqc t) (cs.map .sc) = true → aggEq (cs.map .sc) (ds.map .sc) = some e →
    P.eqGuardType P.depth t = false ∧ (Op.equal t (.agg cs.toArray) (.agg ds.toArray)).run P w = .ok e w
  int : ∀ t k, T.int t = some k → P.underlying t = some (.int k)
  bool : ∀ t, T.bool t = true → P.underlying t = some .bool
  ifc : ∀ t, T.ifc t = true → ∃ ms, P.underlying t = some (.interface ms)

section inv
variable {X : Cx} {L : List Nat}

theorem VRel.sc_inv {u v : Value} (h : VRel X L (.sc u) v) : v = u := by
  cases h with
  | frz h => cases h; rfl

theorem VRel.agg_inv {cs : List AV} {v : Value} (h : VRel X L (.agg cs) v) : ∃ vs : Array Value, v = .agg vs ∧ vs.size = cs.length ∧ (∀ (i : Nat) v, vs[i]? = some v → v.oneCell' = true) ∧
    ∀ (i : Nat) c v, cs[i]? = some c → vs[i]? = some v → VRel X L c v := by
  cases h with
  | frz h => cases h with
    | agg hl h1 h => exact ⟨_, rfl, hl, h1, fun i c v hc hv => .frz (h i c v hc hv)⟩
  | agg hl h1 h => exact ⟨_, rfl, hl, h1, h⟩

theorem VRel.tup_inv {cs : List AV} {v : Value} (h : VRel X L (.tup cs) v) : ∃ vs : Array Value, v = .tuple vs ∧ vs.size = cs.length ∧
    ∀ (i : Nat) c v, cs[i]? = some c → vs[i]? = some v → VRel X L c v := by
  cases h with
  | frz h => cases h with
    | tup hl h => exact ⟨_, rfl, hl, fun i c v hc hv => .frz (h i c v hc hv)⟩
  | tup hl h => exact ⟨_, rfl, hl, h⟩

theorem VRel.fn_inv {f : Nat} {cs : List AV} {v : Value} (h : VRel X L (.fn f cs) v) : ∃ vs : Array Value, v = .func (.func f) #[] vs ∧ vs.size = cs.length ∧
    ∀ (i : Nat) c v, cs[i]? = some c → vs[i]? = some v → VRel X L c v := by
  cases h with
  | frz h => cases h with
    | fn hl h => exact ⟨_, rfl, hl, fun i c v hc hv => .frz (h i c v hc hv)⟩
  | fn hl h => exact ⟨_, rfl, hl, h⟩

theorem VRel.ifc_inv {t : Nat} {a : AV} {v : Value} (h : VRel X L (.ifc t a) v) : ∃ u, v = .iface t u ∧ VRel X L a u := by
  cases h with
  | frz h => cases h with
    | ifc h => exact ⟨_, rfl, .frz h⟩
  | ifc h => exact ⟨_, rfl, h⟩

theorem VRel.yl_inv {j : Nat} {v : Value} (h : VRel X L (.yl j) v) : ∃ l, L[j]? = some l ∧ v = .func (.yield l) #[] #[] := by
  cases h with
  | frz h => cases h
  | yl h => exact ⟨_, h, rfl⟩

theorem VRel.fp_inv {cs : List AV} {v : Value} (h : VRel X L (.fp cs) v) : ∃ a, v = .pointer (some a) ∧ a.spot = none ∧ a.block < X.w.heap.size ∧ ¬ X.M a.block ∧
    ∀ (j : Nat) c, cs[j]? = some c → ∃ u, X.w.cell? ⟨a.block, a.off + j, none⟩ = some u ∧ u.oneCell' = true ∧ FRel X.w X.M c u := by
  cases h with
  | frz h => cases h with
    | fp g hs hb hM hg h1 h => exact ⟨_, rfl, hs, hb, hM, fun j c hc => ⟨_, hg j c hc, h1 j c hc, h j c hc⟩⟩

theorem VRel.bp_inv {k off : Nat} {v : Value} (h : VRel X L (.bp k off) v) : k < X.E.length ∧ v.oneCell' = true ∧ ∀ b, X.E[k]? = some (.box b) → v = .pointer (some ⟨b, off, none⟩) := by
  cases h with
  | frz h => cases h
  | bp h1 hk h => exact ⟨hk, h1, h⟩

theorem VRel.bxs_inv {k off len z : Nat} {v : Value} (h : VRel X L (.bxs k off len z) v) : k < X.E.length ∧ v.oneCell' = true ∧ ∀ b, X.E[k]? = some (.box b) → ∃ cap, v = .slice (some ⟨b, off, none⟩) len cap ∧ len ≤ cap := by
  cases h with
  | frz h => cases h
  | bxs h1 hk h => exact ⟨hk, h1, h⟩

theorem VRel.os_inv {k off len vr : Nat} {v : Value} (h : VRel X L (.os k off len vr) v) : k < X.E.length ∧ okVer X.H k vr ∧ v.oneCell' = true ∧
    ∀ z xs hdr, X.H[k]? = some (.own vr z xs) → X.E[k]? = some (.own hdr) → SubSl hdr off len z v := by
  cases h with
  | frz h => cases h
  | os h1 hk hv h => exact ⟨hk, hv, h1, h⟩

theorem VRel.op_inv {k i off vr : Nat} {v : Value} (h : VRel X L (.op k i off vr) v) : k < X.E.length ∧ okVer X.H k vr ∧ v.oneCell' = true ∧
    ∀ z xs hdr, X.H[k]? = some (.own vr z xs) → X.E[k]? = some (.own hdr) → ∃ a n cap, hdr = .slice (some a) n cap ∧ v = .pointer (some ⟨a.block, i * z + off, none⟩) := by
  cases h with
  | frz h => cases h
  | op h1 hk hv h => exact ⟨hk, hv, h1, h⟩

/-- A slice that nobody writes, as the machine has it. -/
theorem VRel.sl_inv {f : Bool} {z : Nat} {xs : List (List AV)} {v : Value} (h : VRel X L (.sl f z xs) v) : ∃ a cap, v = .slice a xs.length cap ∧ xs.length ≤ cap ∧ (f = true → cap = xs.length) ∧
    (xs ≠ [] → (∀ x ∈ xs, x.length = z) ∧ ∃ ad : Addr, a = some ad ∧ ad.spot = none ∧ ad.block < X.w.heap.size ∧ ¬ X.M ad.block ∧
      ∀ (i j : Nat) x c, xs[i]? = some x → x[j]? = some c → ∃ u, X.w.cell? ⟨ad.block, ad.off + (i * z + j), none⟩ = some u ∧ u.oneCell' = true ∧ FRel X.w X.M c u) := by
  cases h with
  | frz h => cases h with
    | slE hf => exact ⟨_, _, rfl, Nat.zero_le _, fun h => by simpa using hf h, fun h => absurd rfl h⟩
    | sl g hn hc hf hs hb hM hz hg h1 h =>
      subst hn
      exact ⟨_, _, rfl, hc, hf, fun _ => ⟨hz, _, rfl, hs, hb, hM, fun i j x c hx hc => ⟨_, hg i j x c hx hc, h1 i j x c hx hc, h i j x c hx hc⟩⟩⟩

theorem VRel.nsl_inv {n : Bool} {z : Nat} {u : Value} (h : VRel X L (.nsl n z) u) : ∃ a c, n = Option.isNone a ∧ u = .slice a 0 c := by
  cases h with
  | frz h => cases h with
    | nsl hn => exact ⟨_, _, hn, rfl⟩

/-- The cells of a storable value. -/
theorem VRel.cells {a : AV} {v : Value} (h : VRel X L a v) (hs : AV.storable a = true) : v.cells.size = a.cells.length ∧ (∀ (i : Nat) u, v.cells[i]? = some u → u.oneCell' = true) ∧
    ∀ (i : Nat) c u, a.cells[i]? = some c → v.cells[i]? = some u → VRel X L c u := by
  have one : v.oneCell' = true → (∀ cs, a ≠ .agg cs) → v.cells.size = a.cells.length ∧ (∀ (i : Nat) u, v.cells[i]? = some u → u.oneCell' = true) ∧
      ∀ (i : Nat) c u, a.cells[i]? = some c → v.cells[i]? = some u → VRel X L c u := by
    intro h1 ha
    have hv : v.cells = #[v] := by cases v <;> first | rfl | simp [Value.oneCell'] at h1
    have hc : a.cells = [a] := by cases a <;> first | rfl | exact absurd rfl (ha _)
    rw [hv, hc]
    refine ⟨rfl, fun i u hu => ?_, fun i c u hc hu => ?_⟩
    · cases i with
      | zero => simp at hu; exact hu ▸ h1
      | succ i => simp at hu
    · cases i with
      | zero => simp at hu hc; exact hc ▸ hu ▸ h
      | succ i => simp at hu
  cases a with
  | und => simp [AV.storable] at hs
  | tup vs => simp [AV.storable] at hs
  | sc u => rw [h.sc_inv] at one ⊢; exact one hs (by simp)
  | agg cs =>
    obtain ⟨vs, rfl, hl, h1, hp⟩ := h.agg_inv
    exact ⟨hl, h1, hp⟩
  | sl f z xs =>
    obtain ⟨a, cap, rfl, _⟩ := h.sl_inv
    exact one rfl (by simp)
  | fp cs =>
    obtain ⟨a, rfl, _⟩ := h.fp_inv
    exact one rfl (by simp)
  | fn f cs =>
    obtain ⟨vs, rfl, _⟩ := h.fn_inv
    exact one rfl (by simp)
  | yl j =>
    obtain ⟨l, _, rfl⟩ := h.yl_inv
    exact one rfl (by simp)
  | bp k off => exact one h.bp_inv.2.1 (by simp)
  | bxs k off len z => exact one h.bxs_inv.2.1 (by simp)
  | os k off len vr => exact one h.os_inv.2.2.1 (by simp)
  | op k i off vr => exact one h.op_inv.2.2.1 (by simp)
  | ifc t u =>
    obtain ⟨u', rfl, _⟩ := h.ifc_inv
    exact one rfl (by simp)
  | nsl n z =>
    obtain ⟨a, c, _, rfl⟩ := h.nsl_inv
    exact one rfl (by simp)
end inv

section run
variable {P : Program} {T : TT} (hT : TOk P T) {w : World}
include hT

theorem TOk.isAgg {t n : Nat} {g : Bool} (h : T.size t = some (n, g)) : (isAgg t).run P w = .ok g w := by
  obtain ⟨i, d, h1, h2, h3, h4⟩ := hT.size t n g h
  simp only [Go.isAgg, Sem.run_bind, run_underlying h3, Result.andThen_ok]
  cases d <;> simp [aggD] at h4 <;> subst h4 <;> rfl

theorem TOk.sizeOf {t n : Nat} {g : Bool} (h : T.size t = some (n, g)) : (sizeOf t).run P w = .ok n w := by
  obtain ⟨i, d, h1, h2, h3, h4⟩ := hT.size t n g h
  simp [Go.sizeOf, typeInfo, h1, h2]
end run

theorem add_at (b o j : Nat) : (⟨b, o, none⟩ : Addr).add j = ⟨b, o + j, none⟩ := by unfold Addr.add; split <;> simp_all
theorem add_none {a : Addr} (hs : a.spot = none) (j : Nat) : a.add j = ⟨a.block, a.off + j, none⟩ := by
  obtain ⟨b, o, s⟩ := a
  simp only at hs
  subst hs
  exact add_at b o j

section load
variable {P : Program} {T : TT} (hT : TOk P T) {X : Cx} {L : List Nat}
include hT

/-- Loading cells that are there. -/
theorem run_load_cells {t n : Nat} {g : Bool} (h : T.size t = some (n, g)) {cs : List AV} {r : AV} (hr : valOf n g cs = some r) {b o : Nat}
    (hc : ∀ (j : Nat) c, cs[j]? = some c → ∃ u, X.w.cell? ⟨b, o + j, none⟩ = some u ∧ u.oneCell' = true ∧ VRel X L c u) :
    ∃ v, (loadVar t ⟨b, o, none⟩).run P X.w = .ok v X.w ∧ VRel X L r v := by
  unfold loadVar
  simp only [Sem.run_bind, hT.isAgg h, Result.andThen_ok]
  cases g with
  | false =>
    simp only [valOf, Bool.false_eq_true, if_false] at hr
    cases cs with
    | nil => simp at hr
    | cons c cs =>
      simp only [List.head?_cons, Option.some.injEq] at hr
      subst hr
      obtain ⟨u, h1, _, h2⟩ := hc 0 c rfl
      refine ⟨u, ?_, h2⟩
      simp only [Nat.add_zero] at h1
      simp [h1]
  | true =>
    simp only [valOf, if_true] at hr
    split at hr
    · rename_i hn
      simp only [Option.some.injEq] at hr
      subst hr
      have hex : ∀ j, j < n → ∃ u, X.w.cell? ⟨b, o + j, none⟩ = some u ∧ u.oneCell' = true ∧ ∀ c, cs[j]? = some c → VRel X L c u := by
        intro j hj
        obtain ⟨u, h1, h2, h3⟩ := hc j cs[j] (List.getElem?_eq_getElem (by omega))
        exact ⟨u, h1, h2, fun c hcc => by rw [List.getElem?_eq_getElem (by omega)] at hcc; cases hcc; exact h3⟩
      let f : Nat → Value := fun j => if hj : j < n then (hex j hj).choose else undef
      have hf : ∀ j, j < n → X.w.cell? ⟨b, o + j, none⟩ = some (f j) ∧ (f j).oneCell' = true ∧ ∀ c, cs[j]? = some c → VRel X L c (f j) := by
        intro j hj
        simp only [f, hj, dif_pos]
        exact (hex j hj).choose_spec
      refine ⟨.agg ((List.range n).map f).toArray, ?_, .agg (by simp; omega) (fun i v hv => ?_) (fun i c v hcc hv => ?_)⟩
      · simp only [if_true, Sem.run_bind, hT.sizeOf h, Result.andThen_ok, run_loadCells X.w ⟨b, o, none⟩ n f (fun j hj => by rw [add_at]; exact (hf j hj).1), Sem.run_pure]
      · simp only [List.getElem?_toArray, List.getElem?_map] at hv
        obtain ⟨j, hj, rfl⟩ := Option.map_eq_some_iff.1 hv
        obtain ⟨hi, rfl⟩ := List.getElem?_eq_some_iff.1 hj
        simp at hi ⊢
        exact (hf i hi).2.1
      · simp only [List.getElem?_toArray, List.getElem?_map] at hv
        obtain ⟨j, hj, rfl⟩ := Option.map_eq_some_iff.1 hv
        obtain ⟨hi, rfl⟩ := List.getElem?_eq_some_iff.1 hj
        simp at hi ⊢
        rw [List.getElem?_take, if_pos hi] at hcc
        exact (hf i hi).2.2 c hcc
    · cases hr

omit hT in
theorem cell_of_blk {w : World} {b o : Nat} {arr : Array Value} {ty : TypeId} {fr : Nat × Nat} (h : w.heap[b]? = some (.cells arr ty fr)) : w.cell? ⟨b, o, none⟩ = arr[o]? := by
  simp [World.cell?, h]

theorem aLoad_run (hX : X.Ok) {t : Nat} {a r : AV} (h : aLoad T X.H t a = some r) {v : Value} (hv : VRel X L a v) :
    ∃ u, (Instr.loadAt t v).run P X.w = .ok u X.w ∧ VRel X L r u := by
  unfold aLoad at h
  cases hs : T.size t with
  | none => simp [hs] at h
  | some ng =>
    obtain ⟨n, g⟩ := ng
    simp only [hs] at h
    cases a with
    | fp cs =>
      obtain ⟨a, rfl, ha, hb, hM, hc⟩ := hv.fp_inv
      obtain ⟨b, o, s⟩ := a
      simp only at ha
      subst ha
      obtain ⟨u, h1, h2⟩ := run_load_cells hT (X := X) (L := L) hs h (b := b) (o := o) (fun j c hj => by
        obtain ⟨u, h1, h2, h3⟩ := hc j c hj
        exact ⟨u, h1, h2, .frz h3⟩)
      exact ⟨u, by simpa [Instr.loadAt, Instr.sureAddr] using h1, h2⟩
    | bp k off =>
      cases hk : X.H[k]? with
      | none => simp [hk] at h
      | some e =>
        cases e <;> simp only [hk] at h <;> try (cases h; done)
        rename_i cs
        obtain ⟨e', hE, hr⟩ := hX.hec hk
        cases e' <;> simp only [EntRel] at hr
        rename_i b
        obtain ⟨_, arr, ty, h1, h2, h3, h4⟩ := hr
        have hv := hv.bp_inv.2.2 b hE
        subst hv
        obtain ⟨u, h5, h6⟩ := run_load_cells hT (X := X) (L := L) hs h (b := b) (o := off) (fun j c hj => by
          rw [List.getElem?_drop] at hj
          have hlt := (List.getElem?_eq_some_iff.1 hj).1
          have hcell : arr[off + j]? = some (arr[off + j]'(by omega)) := Array.getElem?_eq_getElem _
          exact ⟨_, (cell_of_blk h1).trans hcell, h3 _ _ hcell, (h4 _ _ _ hj hcell).wider (by simp)⟩)
        exact ⟨u, by simpa [Instr.loadAt, Instr.sureAddr] using h5, h6⟩
    | op k i off vr =>
      cases hk : X.H[k]? with
      | none => simp [hk] at h
      | some e =>
        cases e <;> simp only [hk] at h <;> try (cases h; done)
        rename_i vr' z xs
        split at h
        · rename_i hvr
          subst hvr
          cases hx : xs[i]? with
          | none => simp [hx] at h
          | some x =>
            simp only [hx] at h
            obtain ⟨e', hE, hr⟩ := hX.hec hk
            cases e' <;> simp only [EntRel] at hr
            rename_i hdr
            obtain ⟨a, nn, cap', hhdr, hv⟩ := hv.op_inv.2.2.2 z xs hdr hk hE
            subst hv
            obtain ⟨hz, hlen, hr⟩ := hr
            rcases hr with ⟨_, _, rfl⟩ | ⟨b, cap, arr, ty, h1, hm, h2, h3, h4, h7, h5⟩
            · simp at hx
            · rw [h1] at hhdr
              cases hhdr
              obtain ⟨u, h8, h9⟩ := run_load_cells hT (X := X) (L := L) hs h (b := b) (o := i * z + off) (fun j c hj => by
                rw [List.getElem?_drop] at hj
                obtain ⟨u, h8, h9⟩ := h5 i (off + j) x c hx hj
                exact ⟨u, (cell_of_blk h2).trans (by rw [Nat.add_assoc]; exact h8), h7 _ _ (by rw [← Nat.add_assoc] at h8; rw [← Nat.add_assoc] at *; exact h8), h9.wider (by simp)⟩)
              exact ⟨u, by simpa [Instr.loadAt, Instr.sureAddr] using h8, h9⟩
        · cases h
    | _ => cases h
end load
end Go.Abs

/- Operations that only compute. -/
namespace Go.Abs

section pure
variable {P : Program} {T : TT} (hT : TOk P T) {X : Cx} {L : List Nat}

theorem intBin_run {op : BinOp} {k : IntKind} {a b : Int} {r : Value} (h : intBin op k a b = some r) (t : TypeId) (w : World) :
    (binOp op t (.int k a) (.int k b)).run P w = .ok r w := by
  cases op <;> simp only [intBin] at h <;> first
    | (cases h; rfl)
    | (cases h; simp [binOp, Op.intArith]; done)
    | (cases h; simp [binOp, Op.intBits]; done)
    | (cases h; simp [binOp, Op.intCmp]; done)
    | (split at h
       · cases h
       · cases h; simp [binOp, Op.intDiv, *]; done)
    | (cases h; done)

theorem intShift_run {op : BinOp} {k k' : IntKind} {a b : Int} {r : Value} (h : intShift op k a b = some r) (t : TypeId) (w : World) :
    (binOp op t (.int k a) (.int k' b)).run P w = .ok r w := by
  simp only [intShift] at h
  split at h
  · cases h
  · rename_i hb
    cases op <;> simp only at h <;> first
      | (cases h; simp [binOp, Op.shift, hb]; done)
      | (cases h; done)

theorem aUn_run {op : UnOp} {a r : AV} (h : aUn op a = some r) {v : Value} (hv : VRel X L a v) :
    ∃ u, (Op.unary op v).run P X.w = .ok u X.w ∧ VRel X L r u := by
  unfold aUn at h
  split at h
  · split at h <;> cases h
    rw [hv.sc_inv]
    exact ⟨_, rfl, .frz (.sc _)⟩
  · split at h <;> cases h <;> rw [hv.sc_inv]
    · exact ⟨_, rfl, .frz (.sc _)⟩
    · exact ⟨_, rfl, .frz (.sc _)⟩
  · cases h

theorem scEq_sc {a b : AV} {e : Bool} (h : scEq a b = some e) : (∃ u, a = .sc u) ∧ ∃ u, b = .sc u := by
  unfold scEq at h
  split at h
  · exact ⟨⟨_, rfl⟩, ⟨_, rfl⟩⟩
  · exact ⟨⟨_, rfl⟩, ⟨_, rfl⟩⟩
  · cases h

theorem aggEq_sc : ∀ {cs ds : List AV} {e : Bool}, aggEq cs ds = some e → ∃ us vs : List Value, cs = us.map .sc ∧ ds = vs.map .sc
  | [], [], _, _ => ⟨[], [], rfl, rfl⟩
  | [], _ :: _, _, h => by simp [aggEq] at h
  | _ :: _, [], _, h => by simp [aggEq] at h
  | c :: cs, d :: ds, e, h => by
    simp only [aggEq] at h
    obtain ⟨e1, h1, h2⟩ := Option.bind_eq_some_iff.1 h
    obtain ⟨e2, h3, _⟩ := Option.map_eq_some_iff.1 h2
    obtain ⟨⟨u, rfl⟩, ⟨v, rfl⟩⟩ := scEq_sc h1
    obtain ⟨us, vs, rfl, rfl⟩ := aggEq_sc h3
    exact ⟨u :: us, v :: vs, rfl, rfl⟩

theorem agg_of_sc {us : List Value} {v : Value} (h : VRel X L (.agg (us.map .sc)) v) : v = .agg us.toArray := by
  obtain ⟨vs, rfl, hl, _, hp⟩ := h.agg_inv
  congr 1
  apply Array.ext
  · simpa using hl
  · intro i h1 h2
    have hi : i < us.length := by simpa using h2
    have := (hp i (.sc us[i]) vs[i] (by simp [hi]) (Array.getElem?_eq_getElem h1)).sc_inv
    simpa using this

theorem equalIn_bool {t : TypeId} (hd : P.underlying t = some .bool) (d : Nat) (a b : Bool) (w : World) : (Op.equalIn (d + 1) t (.bool a) (.bool b)).run P w = .ok (a == b) w := by
  unfold Op.equalIn
  simp only [Sem.run_bind, run_underlying hd, Result.andThen_ok, Sem.run_pure]
theorem equalIn_ifc {t : TypeId} {ms : Array (String × TypeId)} (hd : P.underlying t = some (.interface ms)) (d : Nat) (tt : TypeId) (q : Value) (w : World) :
    (Op.equalIn (d + 1) t (.iface tt q) .nilIface).run P w = .ok false w := by
  unfold Op.equalIn
  simp only [Sem.run_bind, run_underlying hd, Result.andThen_ok, Sem.run_pure]
theorem equal_bool {t : TypeId} (hd : P.underlying t = some .bool) (a b : Bool) (w : World) : (Op.equal t (.bool a) (.bool b)).run P w = .ok (a == b) w := equalIn_bool hd 9999 a b w
theorem equal_ifc {t : TypeId} {ms : Array (String × TypeId)} (hd : P.underlying t = some (.interface ms)) (tt : TypeId) (q : Value) (w : World) :
    (Op.equal t (.iface tt q) .nilIface).run P w = .ok false w := equalIn_ifc hd 9999 tt q w

theorem equalIn_slice {t e : TypeId} (hd : P.underlying t = some (.slice e)) (d : Nat) (a : Option Addr) (n c : Nat) (w : World) :
    (Op.equalIn (d + 1) t (.slice a n c) (.slice none 0 0)).run P w = .ok a.isNone w := by
  unfold Op.equalIn
  cases a <;> simp only [Sem.run_bind, run_underlying hd, Result.andThen_ok, Sem.run_pure] <;> rfl
theorem equal_slice {t e : TypeId} (hd : P.underlying t = some (.slice e)) (a : Option Addr) (n c : Nat) (w : World) :
    (Op.equal t (.slice a n c) (.slice none 0 0)).run P w = .ok a.isNone w := equalIn_slice hd 9999 a n c w
theorem quiet_slice (op : BinOp) (t : TypeId) (x y : Operand) (a b : Option Addr) (n c m d : Nat) (w : World) : (eqGuard op t x y (.slice a n c) (.slice b m d)).run P w = .ok () w := by
  unfold eqGuard; cases op <;> rfl
theorem sl_some {f : Bool} {z : Nat} {x : List AV} {xs : List (List AV)} {u : Value} (h : VRel X L (.sl f z (x :: xs)) u) : ∃ a n c, u = .slice (some a) n c := by
  cases h with
  | frz h => cases h with
    | sl => exact ⟨_, _, _, rfl⟩

theorem quiet_int (op : BinOp) (t : TypeId) (x y : Operand) (k k' : IntKind) (a b : Int) (w : World) : (eqGuard op t x y (.int k a) (.int k' b)).run P w = .ok () w := by
  unfold eqGuard; cases op <;> rfl
theorem quiet_bool (op : BinOp) (t : TypeId) (x y : Operand) (a b : Bool) (w : World) : (eqGuard op t x y (.bool a) (.bool b)).run P w = .ok () w := by
  unfold eqGuard; cases op <;> rfl
theorem quiet_ifc (op : BinOp) (t : TypeId) (x y : Operand) (tt : TypeId) (q : Value) (w : World) : (eqGuard op t x y (.iface tt q) .nilIface).run P w = .ok () w := by
  unfold eqGuard; cases op <;> rfl

include hT in
theorem aBin_run {op : BinOp} {t : Nat} {a b r : AV} (h : aBin T op t a b = some r) {u v : Value} (hu : VRel X L a u) (hv : VRel X L b v) (x y : Operand) :
    ∃ q, (do eqGuard op t x y u v; binOp op t u v : Sem Value).run P X.w = .ok q X.w ∧ VRel X L r q := by
  unfold aBin at h
  split at h
  · rename_i k a k' b
    rw [hu.sc_inv, hv.sc_inv]
    simp only [Sem.run_bind, quiet_int, Result.andThen_ok]
    split at h
    · obtain ⟨q, h1, rfl⟩ := Option.map_eq_some_iff.1 h
      exact ⟨q, intShift_run h1 t X.w, .frz (.sc _)⟩
    · obtain ⟨q, h1, rfl⟩ := Option.map_eq_some_iff.1 h
      exact ⟨q, intShift_run h1 t X.w, .frz (.sc _)⟩
    · split at h
      · rename_i hk
        subst hk
        obtain ⟨q, h1, rfl⟩ := Option.map_eq_some_iff.1 h
        exact ⟨q, intBin_run h1 t X.w, .frz (.sc _)⟩
      · cases h
  · rename_i a b
    rw [hu.sc_inv, hv.sc_inv]
    simp only [Sem.run_bind, quiet_bool, Result.andThen_ok]
    split at h
    · rename_i ht
      have hd := hT.bool t ht
      split at h <;> cases h
      · exact ⟨_, by simp only [binOp, Sem.run_bind, equal_bool hd, Result.andThen_ok, Sem.run_pure], .frz (.sc _)⟩
      · exact ⟨_, by simp only [binOp, Sem.run_bind, equal_bool hd, Result.andThen_ok, Sem.run_pure], .frz (.sc _)⟩
    · cases h
  · rename_i cs ds
    split at h
    · rename_i ht
      have key : ∀ e, aggEq cs ds = some e → ∃ us vs, u = .agg us ∧ v = .agg vs ∧ P.eqGuardType P.depth t = false ∧ (Op.equal t (.agg us) (.agg vs)).run P X.w = .ok e X.w := by
        intro e he
        obtain ⟨us, vs, rfl, rfl⟩ := aggEq_sc he
        obtain ⟨h1, h2⟩ := hT.eqc t us vs e X.w ht he
        exact ⟨_, _, agg_of_sc hu, agg_of_sc hv, h1, h2⟩
      split at h
      · obtain ⟨e, he, rfl⟩ := Option.map_eq_some_iff.1 h
        obtain ⟨us, vs, rfl, rfl, h1, h2⟩ := key e he
        refine ⟨.bool e, ?_, .frz (.sc _)⟩
        simp [eqGuard, h1, binOp, h2]
      · obtain ⟨e, he, rfl⟩ := Option.map_eq_some_iff.1 h
        obtain ⟨us, vs, rfl, rfl, h1, h2⟩ := key e he
        refine ⟨.bool (!e), ?_, .frz (.sc _)⟩
        simp [eqGuard, h1, binOp, h2]
      · cases h
    · cases h
  · split at h
    · rename_i ht
      obtain ⟨⟨z, eb⟩, ht⟩ := Option.isSome_iff_exists.1 ht
      obtain ⟨e, _, _, hd, _⟩ := hT.elem _ _ _ ht
      obtain ⟨a, n, c, rfl⟩ := sl_some hu
      rw [hv.sc_inv]
      simp only [Sem.run_bind, quiet_slice, Result.andThen_ok]
      split at h <;> cases h
      · exact ⟨_, by simp only [binOp, Sem.run_bind, equal_slice hd, Result.andThen_ok, Sem.run_pure, Option.isNone_some], .frz (.sc _)⟩
      · exact ⟨_, by simp only [binOp, Sem.run_bind, equal_slice hd, Result.andThen_ok, Sem.run_pure, Option.isNone_some, Bool.not_false], .frz (.sc _)⟩
    · cases h
  · split at h
    · rename_i ht
      obtain ⟨⟨z, eb⟩, ht⟩ := Option.isSome_iff_exists.1 ht
      obtain ⟨e, _, _, hd, _⟩ := hT.elem _ _ _ ht
      rw [hu.sc_inv, hv.sc_inv]
      simp only [Sem.run_bind, quiet_slice, Result.andThen_ok]
      split at h <;> cases h
      · exact ⟨_, by simp only [binOp, Sem.run_bind, equal_slice hd, Result.andThen_ok, Sem.run_pure, Option.isNone_none], .frz (.sc _)⟩
      · exact ⟨_, by simp only [binOp, Sem.run_bind, equal_slice hd, Result.andThen_ok, Sem.run_pure, Option.isNone_none, Bool.not_true], .frz (.sc _)⟩
    · cases h
  · rename_i n z
    split at h
    · rename_i ht
      obtain ⟨⟨z, eb⟩, ht⟩ := Option.isSome_iff_exists.1 ht
      obtain ⟨e, _, _, hd, _⟩ := hT.elem _ _ _ ht
      obtain ⟨a, c, rfl, rfl⟩ := hu.nsl_inv
      rw [hv.sc_inv]
      simp only [Sem.run_bind, quiet_slice, Result.andThen_ok]
      split at h <;> cases h
      · exact ⟨_, by simp only [binOp, Sem.run_bind, equal_slice hd, Result.andThen_ok, Sem.run_pure], .frz (.sc _)⟩
      · exact ⟨_, by simp only [binOp, Sem.run_bind, equal_slice hd, Result.andThen_ok, Sem.run_pure], .frz (.sc _)⟩
    · cases h
  · rename_i tt aa
    split at h
    · rename_i ht
      obtain ⟨ms, hd⟩ := hT.ifc t ht
      obtain ⟨q, rfl, _⟩ := hu.ifc_inv
      rw [hv.sc_inv]
      simp only [Sem.run_bind, quiet_ifc, Result.andThen_ok]
      split at h <;> cases h
      · exact ⟨_, by simp only [binOp, Sem.run_bind, equal_ifc hd, Result.andThen_ok, Sem.run_pure, Bool.not_false], .frz (.sc _)⟩
      · exact ⟨_, by simp only [binOp, Sem.run_bind, equal_ifc hd, Result.andThen_ok, Sem.run_pure, Bool.not_false], .frz (.sc _)⟩
    · cases h
  · cases h

include hT in
theorem aConv_run {src dst : Nat} {a r : AV} (h : aConv T src dst a = some r) {v : Value} (hv : VRel X L a v) :
    ∃ u, (convert src dst v).run P X.w = .ok u X.w ∧ VRel X L r u := by
  unfold aConv at h
  split at h
  · split at h
    · rename_i hs
      obtain ⟨k, h1, rfl⟩ := Option.map_eq_some_iff.1 h
      obtain ⟨⟨n, g⟩, h2⟩ := Option.isSome_iff_exists.1 hs
      obtain ⟨i, d, _, _, hd, _⟩ := hT.size _ _ _ h2
      rw [hv.sc_inv]
      refine ⟨_, ?_, .frz (.sc _)⟩
      unfold convert
      simp only [Sem.run_bind, run_underlying hd, run_underlying (hT.int _ _ h1), Result.andThen_ok]
      cases d <;> rfl
    · cases h
  · cases h

theorem valOf_part {t n : Nat} {g : Bool} {i : TypeInfo} {d : TypeDesc} (hi : P.info? t = some i) (hn : i.size = n) (hd : P.underlying t = some d) (hg : aggD d = g)
    {cs : List AV} {vs : Array Value} (hl : vs.size = cs.length) (h1 : ∀ (i : Nat) v, vs[i]? = some v → v.oneCell' = true) (hp : ∀ (i : Nat) c v, cs[i]? = some c → vs[i]? = some v → VRel X L c v)
    {off : Nat} {r : AV} (h : valOf n g (cs.drop off) = some r) : ∃ u, (part t vs off).run P X.w = .ok u X.w ∧ VRel X L r u := by
  have hagg : (isAgg t).run P X.w = .ok g X.w := by
    simp only [Go.isAgg, Sem.run_bind, run_underlying hd, Result.andThen_ok]
    cases d <;> simp [aggD] at hg <;> subst hg <;> rfl
  unfold part
  simp only [Sem.run_bind, hagg, Result.andThen_ok]
  cases g with
  | false =>
    simp only [valOf, Bool.false_eq_true, if_false] at h
    rw [List.head?_drop] at h
    have hlt := (List.getElem?_eq_some_iff.1 h).1
    have hv : vs[off]? = some (vs[off]'(by omega)) := Array.getElem?_eq_getElem _
    exact ⟨_, by simp [hv], hp off r _ h hv⟩
  | true =>
    simp only [valOf, if_true] at h
    split at h
    · rename_i hn'
      cases h
      simp only [List.length_drop] at hn'
      refine ⟨.agg (vs.extract off (off + n)), by simp [Go.sizeOf, typeInfo, hi, hn], .agg (by simp; omega) (fun i v hv => ?_) (fun i c v hc hv => ?_)⟩
      · rw [Array.getElem?_extract] at hv
        split at hv
        · exact h1 _ _ hv
        · cases hv
      · rw [Array.getElem?_extract] at hv
        split at hv
        · rw [List.getElem?_take] at hc
          split at hc
          · rw [List.getElem?_drop] at hc
            exact hp _ _ _ hc hv
          · cases hc
        · cases hv
    · cases h

include hT in
theorem aFieldVal_run {t f : Nat} {a r : AV} (h : aFieldVal T t f a = some r) {v : Value} (hv : VRel X L a v) :
    ∃ u, (Instr.field t v f).run P X.w = .ok u X.w ∧ VRel X L r u := by
  unfold aFieldVal at h
  split at h
  · split at h
    · rename_i off n g hf
      simp only [TT.fld] at hf
      obtain ⟨l, h1, h2⟩ := Option.bind_eq_some_iff.1 hf
      obtain ⟨fs, hu, _, hfs⟩ := hT.fld t l h1
      obtain ⟨fl, i, d, h3, h4, h5, h6, _, h7, h8⟩ := hfs f off n g h2
      obtain ⟨vs, rfl, hl, h9, hp⟩ := hv.agg_inv
      subst h4
      obtain ⟨u, h10, h11⟩ := valOf_part h5 h6 h7 h8 hl h9 hp h
      exact ⟨u, by simp [Instr.field, run_underlying hu, h3, asAgg, h10], h11⟩
    · cases h
  · cases h

include hT in
theorem aIndex_run {t : Nat} {a b r : AV} (h : aIndex T t a b = some r) {u v : Value} (hu : VRel X L a u) (hv : VRel X L b v) :
    ∃ q, (Instr.index t u v).run P X.w = .ok q X.w ∧ VRel X L r q := by
  unfold aIndex at h
  split at h
  · split at h
    · rename_i n z g ha
      split at h
      · rename_i hi
        obtain ⟨e, i, d, h1, h2, h3, h4, h5⟩ := hT.arr _ _ _ _ ha
        obtain ⟨vs, rfl, hl, h9, hp⟩ := hu.agg_inv
        rw [hv.sc_inv]
        obtain ⟨q, h10, h11⟩ := valOf_part h2 h3 h4 h5 hl h9 hp h
        refine ⟨q, ?_, h11⟩
        simp [Instr.index, asIntOf, run_underlying h1, hi, Go.sizeOf, typeInfo, h2, h3, h10]
      · cases h
    · cases h
  · cases h

theorem alive_addr (hX : X.Ok) {a : AV} (h : alive X.H a = true) {v : Value} (hv : VRel X L a v) :
    ∃ b o, v = .pointer (some ⟨b, o, none⟩) ∧ ∀ d, VRel X L (a.shift d) (.pointer (some ⟨b, o + d, none⟩)) := by
  cases a <;> simp only [alive] at h <;> try (cases h; done)
  · rename_i cs
    obtain ⟨ad, rfl, hs, hb, hM, hc⟩ := hv.fp_inv
    obtain ⟨b, o, s⟩ := ad
    simp only at hs
    subst hs
    refine ⟨b, o, rfl, fun d => ?_⟩
    have hex : ∀ j, ∃ u, ∀ c, cs[j]? = some c → X.w.cell? ⟨b, o + j, none⟩ = some u ∧ u.oneCell' = true ∧ FRel X.w X.M c u := by
      intro j
      cases hj : cs[j]? with
      | none => exact ⟨undef, fun c hc => by cases hc⟩
      | some c =>
        obtain ⟨u, hu⟩ := hc j c hj
        exact ⟨u, fun c' hc' => by cases hc'; exact hu⟩
    refine .frz (.fp (fun j => (hex (d + j)).choose) rfl hb hM (fun j c hj => ?_) (fun j c hj => ?_) (fun j c hj => ?_))
    · rw [List.getElem?_drop] at hj
      have := ((hex (d + j)).choose_spec c hj).1
      simpa [Nat.add_assoc] using this
    · rw [List.getElem?_drop] at hj
      exact ((hex (d + j)).choose_spec c hj).2.1
    · rw [List.getElem?_drop] at hj
      exact ((hex (d + j)).choose_spec c hj).2.2
  · rename_i k off
    split at h
    · rename_i cs hk
      obtain ⟨e', hE, hr⟩ := hX.hec hk
      cases e' <;> simp only [EntRel] at hr
      rename_i b
      obtain ⟨h1, h2, h3⟩ := hv.bp_inv
      exact ⟨b, off, h3 b hE, fun d => .bp rfl h1 fun b' hb' => by rw [hE] at hb'; cases hb'; rfl⟩
    · cases h
  · rename_i k i off vr
    split at h
    · rename_i vr' z xs hk
      have hvr := Nat.eq_of_beq_eq_true h
      subst hvr
      obtain ⟨e', hE, hr⟩ := hX.hec hk
      cases e' <;> simp only [EntRel] at hr
      rename_i hdr
      obtain ⟨h1, h2, h3, h4⟩ := hv.op_inv
      obtain ⟨a, n, cap, h5, h6⟩ := h4 z xs hdr hk hE
      refine ⟨a.block, i * z + off, h6, fun d => .op rfl h1 h2 fun z' xs' hdr' hH' hE' => ?_⟩
      rw [hk] at hH'
      rw [hE] at hE'
      cases hH'
      cases hE'
      exact ⟨a, n, cap, h5, by simp [Nat.add_assoc]⟩
    · cases h

theorem shift_zero (a : AV) : a.shift 0 = a := by cases a <;> simp [AV.shift]

include hT in
theorem aField_run (hX : X.Ok) {t f : Nat} {a r : AV} (h : aField T X.H t f a = some r) {v : Value} (hv : VRel X L a v) :
    ∃ u, (Instr.fieldAt t v f).run P X.w = .ok u X.w ∧ VRel X L r u := by
  unfold aField at h
  split at h
  · rename_i ha
    obtain ⟨⟨off, n, g⟩, h1, rfl⟩ := Option.map_eq_some_iff.1 h
    simp only [TT.fld] at h1
    obtain ⟨l, h2, h3⟩ := Option.bind_eq_some_iff.1 h1
    obtain ⟨fs, hu, _, hfs⟩ := hT.fld t l h2
    obtain ⟨fl, i, d, h4, h5, h6, h7, h8, _, _⟩ := hfs f off n g h3
    obtain ⟨b, o, rfl, hsh⟩ := alive_addr hX ha hv
    refine ⟨_, ?_, hsh off⟩
    subst h5
    subst h7
    have hne : i.size ≠ 0 := by omega
    simp [Instr.fieldAt, run_underlying hu, h4, Instr.sureAddr, fieldPlace, Go.sizeOf, typeInfo, h6, hne, add_at]
  · cases h

theorem bounds_in {i : Int} {n : Nat} (h0 : ¬ i < 0) (h : i.toNat < n) : 0 ≤ i ∧ i < (n : Int) := by omega

include hT in
theorem aIndexAddr_run (hX : X.Ok) {t : Nat} {a b r : AV} (h : aIndexAddr T X.H t a b = some r) {u v : Value} (hu : VRel X L a u) (hv : VRel X L b v) :
    ∃ q, (Instr.indexAt t u v).run P X.w = .ok q X.w ∧ VRel X L r q := by
  unfold aIndexAddr at h
  split at h
  · rename_i kk i
    rw [hv.sc_inv]
    split at h
    · cases h
    · rename_i hi
      have sl : ∀ (z' eb : Nat), T.elem t = some (z', eb) → ∀ (ad : Addr) (len cap : Nat), i.toNat < len →
          (Instr.indexAt t (.slice (some ad) len cap) (.int kk i)).run P X.w = .ok (.pointer (some (ad.add (i.toNat * z')))) X.w := by
        intro z' eb he ad len cap hlt
        obtain ⟨e, ii, vv, h1, h2, h3, _⟩ := hT.elem _ _ _ he
        subst h3
        simp [Instr.indexAt, asIntOf, run_underlying h1, bounds_in hi hlt, Go.sizeOf, typeInfo, h2]
      split at h
      · rename_i f z xs
        split at h
        · rename_i z' eb he
          split at h
          · rename_i hz
            subst hz
            obtain ⟨x, hx, rfl⟩ := Option.map_eq_some_iff.1 h
            have hlt := (List.getElem?_eq_some_iff.1 hx).1
            obtain ⟨a, cap, rfl, hc, hf, hne⟩ := hu.sl_inv
            obtain ⟨hz, ad, rfl, hs, hb, hM, hcell⟩ := hne (by rintro rfl; simp at hlt)
            refine ⟨_, sl z eb he ad _ _ hlt, ?_⟩
            rw [add_none hs]
            have hex : ∀ j, ∃ u, ∀ c, x[j]? = some c → X.w.cell? ⟨ad.block, ad.off + (i.toNat * z + j), none⟩ = some u ∧ u.oneCell' = true ∧ FRel X.w X.M c u := by
              intro j
              cases hj : x[j]? with
              | none => exact ⟨undef, fun c hc => by cases hc⟩
              | some c =>
                obtain ⟨u, hu⟩ := hcell i.toNat j x c hx hj
                exact ⟨u, fun c' hc' => by cases hc'; exact hu⟩
            refine .frz (.fp (fun j => (hex j).choose) rfl hb hM (fun j c hj => ?_) (fun j c hj => ?_) (fun j c hj => ?_))
            · simpa [Nat.add_assoc] using ((hex j).choose_spec c hj).1
            · exact ((hex j).choose_spec c hj).2.1
            · exact ((hex j).choose_spec c hj).2.2
          · cases h
        · cases h
      · rename_i k off len vr
        split at h
        · rename_i z' eb vr' z xs he hk
          split at h
          · rename_i hc
            obtain ⟨rfl, rfl, hlt, hlt2⟩ := hc
            cases h
            obtain ⟨e', hE, hr⟩ := hX.hec hk
            cases e' <;> simp only [EntRel] at hr
            rename_i hdr
            obtain ⟨h1, h2, h3, h4⟩ := hu.os_inv
            have h4 := h4 z xs hdr hk hE
            obtain ⟨hz, hl, hr⟩ := hr
            rcases hr with ⟨_, _, rfl⟩ | ⟨b, cap, arr, ty, rfl, _⟩
            · simp at hlt2
            · simp only [SubSl] at h4
              subst h4
              refine ⟨_, sl z eb he _ _ _ hlt, ?_⟩
              rw [add_at]
              refine .op rfl h1 h2 fun z' xs' hdr' hH' hE' => ?_
              rw [hk] at hH'
              rw [hE] at hE'
              cases hH'
              cases hE'
              exact ⟨_, _, _, rfl, by simp [Nat.add_mul]⟩
          · cases h
        · cases h
      · rename_i k off len z
        split at h
        · rename_i z' eb cs he hk
          split at h
          · rename_i hc
            obtain ⟨rfl, hlt⟩ := hc
            cases h
            obtain ⟨e', hE, hr⟩ := hX.hec hk
            cases e' <;> simp only [EntRel] at hr
            rename_i b
            obtain ⟨h1, _, h3⟩ := hu.bxs_inv
            obtain ⟨cap, rfl, _⟩ := h3 b hE
            refine ⟨_, sl z eb he _ _ _ hlt, ?_⟩
            rw [add_at]
            exact .bp rfl h1 fun b' hb' => by rw [hE] at hb'; cases hb'; rfl
          · cases h
        · cases h
      · split at h
        · rename_i n z g ha
          split at h
          · rename_i hc
            obtain ⟨hlt, hal⟩ := hc
            cases h
            obtain ⟨e, ii, d, h1, h2, h3, _⟩ := hT.arr _ _ _ _ ha
            obtain ⟨b, o, rfl, hsh⟩ := alive_addr hX hal hu
            refine ⟨_, ?_, hsh _⟩
            subst h3
            simp [Instr.indexAt, asIntOf, run_underlying h1, Instr.sureAddr, bounds_in hi hlt, Go.sizeOf, typeInfo, h2, add_at]
          · cases h
        · cases h
  · cases h
end pure
end Go.Abs

/- Operations on memory: reading a slice whole; appending. -/
namespace Go.Abs

theorem later_setRow (w : World) (b : Nat) (x : Array Value) : Later w (w.setRow b x) := ⟨by simp [World.setRow], rfl, rfl⟩

/-- Where a slice's elements lie. -/
def SlAt (X : Cx) (fl : Bool) (B : Nat → Prop) (z : Nat) (ys : List (List AV)) (v : Value) : Prop :=
  ∃ a cap, v = .slice a ys.length cap ∧ ys.length ≤ cap ∧ (ys ≠ [] → ∃ ad : Addr, a = some ad ∧ ad.spot = none ∧ B ad.block ∧ (∀ y ∈ ys, y.length = z) ∧
    ∀ (i j : Nat) y c, ys[i]? = some y → y[j]? = some c → ∃ u, X.w.cell? ⟨ad.block, ad.off + (i * z + j), none⟩ = some u ∧ u.oneCell' = true ∧ VRel X [] c u ∧ (fl = true → FRel X.w X.M c u))

/-- The block in which a slice's elements lie: nobody writes it, or it is the entity's. -/
def OfSl (X : Cx) (a : AV) (b : Nat) : Prop :=
  b < X.w.heap.size ∧ (¬ X.M b ∨ ∃ k e, ((∃ off len vr, a = .os k off len vr) ∨ ∃ off len z, a = .bxs k off len z) ∧ X.E[k]? = some e ∧ e.blk = some b)

section
variable {X : Cx} {L : List Nat}

theorem chunks_length (z n : Nat) (cs : List AV) : (chunks z n cs).length = n := by
  induction n generalizing cs with
  | zero => rfl
  | succ n ih => simp [chunks, ih]

theorem chunks_get {z : Nat} : ∀ {n : Nat} {cs : List AV} {i : Nat} {y : List AV}, (chunks z n cs)[i]? = some y → y = (cs.drop (i * z)).take z ∧ i < n
  | 0, cs, i, y, h => by simp [chunks] at h
  | n + 1, cs, 0, y, h => by
    simp [chunks] at h
    exact ⟨by simp [h], by omega⟩
  | n + 1, cs, i + 1, y, h => by
    simp only [chunks, List.getElem?_cons_succ] at h
    obtain ⟨h1, h2⟩ := chunks_get h
    refine ⟨?_, by omega⟩
    rw [h1, List.drop_drop, Nat.add_mul, Nat.one_mul, Nat.add_comm z]

theorem pureLL_get {xs : List (List AV)} (h : AV.pureLL xs = true) : ∀ (i : Nat) x, xs[i]? = some x → AV.pureL x = true := by
  induction xs with
  | nil => intro i c hc; simp at hc
  | cons x cs ih =>
    simp only [AV.pureLL, Bool.and_eq_true] at h
    intro i c hc
    cases i with
    | zero => simp at hc; exact hc ▸ h.1
    | succ i => exact ih h.2 i c (by simpa using hc)

theorem snap_at (hX : X.Ok) {a : AV} {f : Bool} {z : Nat} {ys : List (List AV)} (h : snap X.H a = some (f, z, ys)) {v : Value} (hv : VRel X L a v) : SlAt X f (OfSl X a) z ys v := by
  cases a <;> simp only [snap] at h <;> try (cases h; done)
  · rename_i f' z' xs
    cases h
    obtain ⟨a, cap, rfl, hc, _, hne⟩ := hv.sl_inv
    refine ⟨a, cap, rfl, hc, fun h => ?_⟩
    obtain ⟨hz, ad, rfl, hs, hb, hM, hcell⟩ := hne h
    exact ⟨ad, rfl, hs, ⟨hb, .inl hM⟩, hz, fun i j y c hy hc => by
      obtain ⟨u, q1, q2, q3⟩ := hcell i j y c hy hc
      exact ⟨u, q1, q2, .frz q3, fun _ => q3⟩⟩
  · rename_i k off len z'
    split at h
    · rename_i cs hk
      split at h
      · rename_i hp
        obtain ⟨hp, hle⟩ := hp
        cases h
        obtain ⟨e', hE, hr⟩ := hX.hec hk
        cases e' <;> simp only [EntRel] at hr
        rename_i b
        obtain ⟨_, arr, ty, h1, h2, h3, h4⟩ := hr
        obtain ⟨_, _, h5⟩ := hv.bxs_inv
        obtain ⟨cap, rfl, hc⟩ := h5 b hE
        refine ⟨some ⟨b, off, none⟩, cap, by rw [chunks_length], by rw [chunks_length]; exact hc, fun _ => ⟨⟨b, off, none⟩, rfl, rfl, ⟨(Array.getElem?_eq_some_iff.1 h1).1, .inr ⟨k, _, .inr ⟨_, _, _, rfl⟩, hE, rfl⟩⟩, fun y hy => ?_, fun i j y c hy hc => ?_⟩⟩
        · obtain ⟨i, hi⟩ := List.mem_iff_getElem?.1 hy
          obtain ⟨rfl, hlt⟩ := chunks_get hi
          have : (i + 1) * z ≤ len * z := Nat.mul_le_mul_right _ hlt
          rw [Nat.add_mul] at this
          simp
          omega
        · obtain ⟨rfl, hi⟩ := chunks_get hy
          rw [List.getElem?_take] at hc
          split at hc
          · rw [List.getElem?_drop, List.getElem?_drop] at hc
            have hlt := (List.getElem?_eq_some_iff.1 hc).1
            have hcell : arr[off + (i * z + j)]? = some (arr[off + (i * z + j)]'(by omega)) := Array.getElem?_eq_getElem _
            exact ⟨_, (cell_of_blk h1).trans hcell, h3 _ _ hcell, h4 _ _ _ hc hcell, fun _ => (h4 _ _ _ hc hcell).pure (pureL_get hp _ _ hc)⟩
          · cases hc
      · cases h
    · cases h
  · rename_i k off len vr
    split at h
    · rename_i vr' z' xs hk
      split at h
      · rename_i hvr
        obtain ⟨hvr, hle⟩ := hvr
        cases h
        subst hvr
        obtain ⟨e', hE, hr⟩ := hX.hec hk
        cases e' <;> simp only [EntRel] at hr
        rename_i hdr
        obtain ⟨_, _, _, h4⟩ := hv.os_inv
        have h4 := h4 z xs hdr hk hE
        obtain ⟨hz, hl, hr⟩ := hr
        have hlen : ((xs.drop off).take len).length = len := by simp; omega
        rcases hr with ⟨a, rfl, rfl⟩ | ⟨b, cap, arr, ty, rfl, hm, h2, h3, h5, h7, h6⟩
        · simp only [SubSl] at h4
          obtain ⟨rfl, rfl, rfl⟩ := h4
          exact ⟨a, 0, by simp, by simp, fun h => absurd rfl h⟩
        · simp only [SubSl] at h4
          subst h4
          refine ⟨some ⟨b, off * z, none⟩, cap + 1 - off, by rw [hlen], by rw [hlen]; omega, fun _ => ⟨⟨b, off * z, none⟩, rfl, rfl, ⟨(Array.getElem?_eq_some_iff.1 h2).1, .inr ⟨k, _, .inl ⟨_, _, _, rfl⟩, hE, rfl⟩⟩, fun y hy => hl y (List.mem_of_mem_drop (List.mem_of_mem_take hy)), fun i j y c hy hc => ?_⟩⟩
          have hy0 := hy
          rw [List.getElem?_take] at hy
          split at hy
          · rw [List.getElem?_drop] at hy
            obtain ⟨u, h8, h9⟩ := h6 _ j y c hy hc
            refine ⟨u, (cell_of_blk h2).trans ?_, h7 _ _ h8, h9, fun hf => h9.pure (pureL_get (pureLL_get hf _ _ hy0) _ _ hc)⟩
            rw [show off * z + (i * z + j) = (off + i) * z + j by rw [Nat.add_mul]; omega]
            exact h8
          · cases hy
      · cases h
    · cases h
  · cases h
    obtain ⟨a, c, _, rfl⟩ := hv.nsl_inv
    exact ⟨a, c, rfl, Nat.zero_le _, fun h => absurd rfl h⟩

/-- The cells of a slice's elements, as they are read. -/
structure News (X : Cx) (fl : Bool) (z : Nat) (ys : List (List AV)) (news : List Value) : Prop where
  len : news.length = ys.length * z
  row : ∀ y ∈ ys, y.length = z
  one : ∀ v ∈ news, v.oneCell' = true
  rel : ∀ (i j : Nat) y c, ys[i]? = some y → y[j]? = some c → ∃ u, news[i * z + j]? = some u ∧ VRel X [] c u ∧ (fl = true → FRel X.w X.M c u)

theorem SlAt.read {P : Program} {fl : Bool} {B : Nat → Prop} {z : Nat} (hz : 0 < z) {ys : List (List AV)} {v : Value} (h : SlAt X fl B z ys v) :
    ∃ news, News X fl z ys news ∧ ∀ w' : World, w'.heap = X.w.heap → (Builtin.firstCells z ys.length v).run P w' = .ok news.toArray w' := by
  obtain ⟨a, cap, rfl, hc, hne⟩ := h
  by_cases hys : ys = []
  · subst hys
    refine ⟨[], ⟨by simp, by simp, by simp, by simp⟩, fun w' _ => ?_⟩
    cases a <;> simp [Builtin.firstCells, loadCells, loadCellsFrom]
  · obtain ⟨ad, rfl, hs, _, hrow, hcell⟩ := hne hys
    have hex : ∀ m, m < ys.length * z → ∃ u, X.w.cell? ⟨ad.block, ad.off + m, none⟩ = some u ∧ u.oneCell' = true ∧ ∀ (i j : Nat) y c, m = i * z + j → ys[i]? = some y → y[j]? = some c → VRel X [] c u ∧ (fl = true → FRel X.w X.M c u) := by
      intro m hm
      have hi : m / z < ys.length := (Nat.div_lt_iff_lt_mul hz).2 hm
      have hj : m % z < z := Nat.mod_lt _ hz
      obtain ⟨y0, hy⟩ : ∃ y0, ys[m / z]? = some y0 := ⟨_, List.getElem?_eq_getElem hi⟩
      have hyl : y0.length = z := hrow _ (List.mem_of_getElem? hy)
      obtain ⟨c0, hc⟩ : ∃ c0, y0[m % z]? = some c0 := ⟨_, List.getElem?_eq_getElem (by omega)⟩
      obtain ⟨u, h1, h2, h3⟩ := hcell _ _ _ _ hy hc
      rw [show m / z * z + m % z = m by rw [Nat.mul_comm]; exact Nat.div_add_mod m z] at h1
      refine ⟨u, h1, h2, fun i j y c he hy' hc' => ?_⟩
      have hjl : j < z := by
        have := (List.getElem?_eq_some_iff.1 hc').1
        rw [hrow y (List.mem_of_getElem? hy')] at this
        exact this
      have h4 : m / z = i := by rw [he]; rw [Nat.mul_comm, Nat.mul_add_div hz, Nat.div_eq_of_lt hjl, Nat.add_zero]
      have h5 : m % z = j := by rw [he, Nat.mul_comm, Nat.mul_add_mod, Nat.mod_eq_of_lt hjl]
      rw [h4, hy'] at hy
      cases hy
      rw [h5, hc'] at hc
      cases hc
      exact h3
    let f : Nat → Value := fun m => if hm : m < ys.length * z then (hex m hm).choose else undef
    have hf : ∀ m, m < ys.length * z → X.w.cell? ⟨ad.block, ad.off + m, none⟩ = some (f m) ∧ (f m).oneCell' = true ∧
        ∀ (i j : Nat) y c, m = i * z + j → ys[i]? = some y → y[j]? = some c → VRel X [] c (f m) ∧ (fl = true → FRel X.w X.M c (f m)) := by
      intro m hm
      simp only [f, hm, dif_pos]
      exact (hex m hm).choose_spec
    refine ⟨(List.range (ys.length * z)).map f, ⟨by simp, hrow, fun v hv => ?_, fun i j y c hy hc => ?_⟩, fun w' hw => ?_⟩
    · obtain ⟨m, hm, rfl⟩ := List.mem_map.1 hv
      exact (hf m (by simpa using hm)).2.1
    · have hi := (List.getElem?_eq_some_iff.1 hy).1
      have hj := (List.getElem?_eq_some_iff.1 hc).1
      rw [hrow y (List.mem_of_getElem? hy)] at hj
      have hlt : i * z + j < ys.length * z := by
        have : (i + 1) * z ≤ ys.length * z := Nat.mul_le_mul_right _ hi
        rw [Nat.add_mul] at this
        omega
      exact ⟨f (i * z + j), by simp [hlt], (hf _ hlt).2.2 i j y c rfl hy hc⟩
    · simp only [Builtin.firstCells]
      exact run_loadCells w' ad _ f fun m hm => by
        rw [add_none hs]
        have := (hf m hm).1
        simp only [World.cell?, hw] at this ⊢
        exact this

theorem SlAt.any {fl : Bool} {B : Nat → Prop} {z : Nat} {ys : List (List AV)} {v : Value} (h : SlAt X fl B z ys v) : SlAt X fl (fun _ => True) z ys v := by
  obtain ⟨a, cap, rfl, hc, hne⟩ := h
  refine ⟨a, cap, rfl, hc, fun h => ?_⟩
  obtain ⟨ad, h1, h2, _, h3⟩ := hne h
  exact ⟨ad, h1, h2, trivial, h3⟩

theorem elemsOf_at (hX : X.Ok) {a : AV} {z : Nat} {fl : Bool} {ys : List (List AV)} (h : elemsOf X.H z a = some (fl, ys)) {v : Value} (hv : VRel X L a v) : SlAt X fl (fun _ => True) z ys v := by
  unfold elemsOf at h
  split at h
  · cases h
    rw [hv.sc_inv]
    exact ⟨none, 0, rfl, Nat.le_refl _, fun h => absurd rfl h⟩
  · split at h
    · rename_i f z' xs hs
      split at h
      · rename_i hz
        cases h
        subst hz
        exact (snap_at hX hs hv).any
      · cases h
    · cases h
end

section append
variable {P : Program}

/-- The built-in append, where its second operand's elements can be read. -/
theorem run_append_any {t t2 ty e : TypeId} {i : TypeInfo} {zv : Value} (ht : P.underlying t = some (.slice e)) (hi : P.info? e = some i) (hz : i.zero = some zv)
    {e2 : TypeId} (ht2 : P.underlying t2 = some (.slice e2)) {tys : Array TypeId} (h0 : tys[0]? = some t) (h1 : tys[1]? = some t2)
    {a : Option Addr} {len cap m : Nat} {a2 : Option Addr} {c2 : Nat} {olds news : List Value} (w : World)
    (hnew : ∀ w' : World, w'.heap = w.heap → (Builtin.firstCells i.size m (.slice a2 m c2)).run P w' = .ok news.toArray w')
    (hold : ∀ w' : World, w'.heap = w.heap → (Builtin.firstCells i.size len (.slice a len cap)).run P w' = .ok olds.toArray w')
    (hb : (len + m) * i.bytes ≤ 140737488355328) (h63 : (len + m) ≤ 9223372036854775807) :
    (len + m ≤ cap ∧ ∀ w1, (match a with | some a => storeCells (a.add (len * i.size)) news | none => pure ()).run P w = .ok () w1 →
      (Builtin.append_ tys ty #[.slice a len cap, .slice a2 m c2]).run P w = .ok (.slice a (len + m) cap) w1) ∨
    (cap < len + m ∧ ∃ ncap, len + m ≤ ncap ∧
      (Builtin.append_ tys ty #[.slice a len cap, .slice a2 m c2]).run P w =
        .ok (.slice (some ⟨w.heap.size, 0, none⟩) (len + m) ncap) (w.drew.alloc (.cells (olds.toArray ++ news.toArray ++ Builtin.zeroCells zv.cells (ncap - (len + m))) e))) := by
  by_cases hc : len + m ≤ cap
  · refine .inl ⟨hc, fun w1 hst => ?_⟩
    have hn := hnew w rfl
    cases a with
    | none =>
      simp only [Sem.run_pure] at hst
      cases hst
      simp [Builtin.append_, h0, h1, run_underlying ht, run_underlying ht2, sizeOf, typeInfo, hi, Builtin.lenOf, hc, hn]
    | some ad =>
      simp only at hst
      simp [Builtin.append_, h0, h1, run_underlying ht, run_underlying ht2, sizeOf, typeInfo, hi, Builtin.lenOf, hc, hn, hst]
  · refine .inr ⟨by omega, grownCap w (len + m) cap e, grownCap_ge w _ _ _, ?_⟩
    have hn := hnew w.drew rfl
    have ho := hold w.drew rfl
    have hfit : ¬ (281474976710656 < Builtin.nextslicecap (len + m) cap * i.bytes) := by
      have := growslice_fits (show cap < len + m by omega) hb
      omega
    have h63' : ¬ ((9223372036854775807 : Int) < ((len + m : Nat) : Int) ∧ i.bytes = 0) := by omega
    have hmax : IntKind.max .i64 = 9223372036854775807 := by decide
    simp only [Int.natCast_add] at h63'
    simp [Builtin.append_, h0, h1, run_underlying ht, run_underlying ht2, sizeOf, typeInfo, hi, Builtin.lenOf, hc, zeroValue, hz, Question.forced, hfit, h63', hmax, hn, ho, grownCap, newRow]
    congr 2
    apply Array.ext'
    simp
end append
end Go.Abs

