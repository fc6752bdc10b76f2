/- A pure evaluator for the code of the model: values are trees, memory is a short list of entities. Definitions alone; that the machine does what it says is proved in the texts behind. -/
import Derived.RangeFuncLeaves
import Derived.OrdersIn
import Derived.Laws.Sem
namespace Go.Abs

/-- What is known of a value. -/
inductive AV where
  | und                                          -- nothing
  | sc (v : Value)                               -- this very value
  | agg (cs : List AV)                           -- a struct or an array, cell by cell
  | tup (vs : List AV)                           -- several results
  | sl (full : Bool) (z : Nat) (xs : List (List AV))   -- a slice that nobody writes: its elements, z cells each; full: nothing lies behind
  | fp (cs : List AV)                            -- the address of cells that nobody writes
  | fn (f : Nat) (caps : List AV)                -- a function and what it has captured
  | yl (j : Nat)                                 -- the j-th yield function
  | bp (k off : Nat)                             -- an address in box k
  | bxs (k off len z : Nat)                      -- a slice over the cells of box k
  | os (k off len vr : Nat)                      -- a slice over the owned slice k, at version vr
  | op (k i off vr : Nat)                        -- an address in element i of the owned slice k
  | ifc (t : Nat) (v : AV)                       -- an interface value
  | nsl (nil : Bool) (z : Nat)                   -- an empty slice: nil or not
  deriving Inhabited

/-- How a round of a range over a function leaves its body. -/
inductive Jmp where
  | ret
  | exit (id : Nat)

/-- An entity: memory of the call's own. -/
inductive Ent where
  | box (cs : List AV)
  | own (vr z : Nat) (xs : List (List AV))
  | loop (st : LoopState) (p : Option Jmp)
  | dead
  deriving Inhabited

/-- What is known of types. -/
structure TT where
  size : Nat → Option (Nat × Bool)               -- cells, struct or array
  zero : Nat → Option (List Value)               -- its zero value's cells
  elem : Nat → Option (Nat × Nat)                -- of a slice type: its elements' cells and bytes
  ety : Nat → Option Nat                         -- of a slice type: its elements' type
  arr : Nat → Option (Nat × Nat × Bool)          -- of an array type: its length, its elements' cells, struct or array
  flds : Nat → Option (List (Nat × Nat × Bool))  -- of a struct type, of each field: place, cells, struct or array
  eqc : Nat → Option (List Bool)                 -- struct and array types compared cell by cell: which cells are numbers (and which booleans)
  int : Nat → Option IntKind
  bool : Nat → Bool
  ifc : Nat → Bool

def TT.ezero (T : TT) (t : Nat) : Option (List Value) := (T.ety t).bind fun e => T.zero e
def TT.fld (T : TT) (t f : Nat) : Option (Nat × Nat × Bool) := (T.flds t).bind (·[f]?)

/-- What an operation does beside its result is told by a word of the translator's: nothing; it makes memory of the call's own; a call by value; a call by value to which owned memory is lent; a call that is handed the entities; a call that is asked twice if it is handed an empty slice. -/
inductive Fl where
  | non | own | lend | gen | cln
  deriving DecidableEq, Inhabited

structure AOp where
  o : Oper
  f : Fl := .non
  g : Option (Nat × Bool) := none                -- the slot that guards it

inductive Ghost where
  | cut (slots : List Nat) (m : Nat)             -- forget all slots but these, and all entities from the m-th of this call on
  | freeze (slot : Nat)                          -- the owned slice in this slot is written no more
  | own (slot z : Nat)                           -- the nil slice in this slot is owned
  | ownAt (slot off z : Nat)                     -- the nil slice in the box to which this slot leads is owned
  | frz (slot : Nat)                             -- the box to which this slot leads is written no more

inductive AC where
  | skip
  | region (id : Nat) (ops : List AOp) (draw : Bool)
  | seq (a b : AC)
  | cond (c : Operand) (a b : AC)
  | block (id : Nat) (a : AC)
  | loop (a : AC)
  | exit (id : Nat)
  | ret
  | rangeFunc (f : Operand) (params : List Nat) (assign body : AC)
  | ghost (g : Ghost) (a : AC)

/-- The code of which this is. -/
def AC.erase : AC → Code
  | .skip => .skip
  | .region id ops d => .region id (ops.map (·.o)).toArray d
  | .seq a b => .seq a.erase b.erase
  | .cond c a b => .cond c a.erase b.erase
  | .block id a => .block id a.erase
  | .loop a => .loop a.erase
  | .exit id => .exit id
  | .ret => .ret
  | .rangeFunc f ps a b => .rangeFunc f ps.toArray a.erase b.erase
  | .ghost _ a => a.erase

abbrev Slots := List (Nat × AV)
def Slots.get : Slots → Nat → AV
  | [], _ => .und
  | (k, v) :: s, t => bif Nat.beq k t then v else Slots.get s t
def Slots.put (s : Slots) (t : Nat) (v : AV) : Slots := (t, v) :: s
def Slots.putAll : Slots → List Nat → List AV → Slots
  | s, t :: ts, v :: vs => Slots.putAll (s.put t v) ts vs
  | s, _, _ => s
def Slots.init : Nat → List AV → Slots
  | _, [] => []
  | i, v :: vs => (i, v) :: Slots.init (i + 1) vs

structure St where
  tm : Slots
  H : List Ent
  b : Nat                                        -- how many entities were there when the call began

inductive Ex where
  | normal | exit (id : Nat) | ret | pan (v : AV)

inductive Out where
  | ret (v : AV)
  | pan (v : AV)

abbrev YF := List AV → List Ent → Option (Out × List Ent)
abbrev CF := Nat → List AV → List Ent → List YF → Option (Out × List Ent)

/-- An operation's answer. -/
inductive OR where
  | val (v : AV) (H : List Ent)
  | pan (v : AV) (H : List Ent)

def aval (G : Nat → AV) (tm : Slots) : Operand → AV
  | .tmp t => tm.get t
  | .const v => .sc v
  | .global g => G g
  | .func f => .fn f []

-- No address of an entity from b on lies in it (what a frozen slice leads to bears none).
mutual
def AV.under (b : Nat) : AV → Bool
  | .und | .sc _ | .sl .. | .fp _ | .yl _ | .nsl .. => true
  | .agg cs | .tup cs | .fn _ cs => AV.underL b cs
  | .bp k _ | .bxs k _ _ _ | .os k _ _ _ | .op k _ _ _ => decide (k < b)
  | .ifc _ v => AV.under b v
def AV.underL (b : Nat) : List AV → Bool
  | [] => true
  | v :: vs => AV.under b v && AV.underL b vs
end
-- No address of an entity lies in it, and no yield function.
mutual
def AV.pure : AV → Bool
  | .sc _ | .sl .. | .fp _ | .und | .nsl .. => true
  | .agg cs | .tup cs | .fn _ cs => AV.pureL cs
  | .bp .. | .bxs .. | .os .. | .op .. | .yl _ => false
  | .ifc _ v => AV.pure v
def AV.pureL : List AV → Bool
  | [] => true
  | v :: vs => AV.pure v && AV.pureL vs
end

-- No yield function lies in it.
mutual
def AV.still : AV → Bool
  | .yl _ => false
  | .agg cs | .tup cs | .fn _ cs => AV.stillL cs
  | .ifc _ v => AV.still v
  | _ => true
def AV.stillL : List AV → Bool
  | [] => true
  | v :: vs => AV.still v && AV.stillL vs
end

def AV.underLL (b : Nat) : List (List AV) → Bool
  | [] => true
  | x :: xs => AV.underL b x && AV.underLL b xs

def Ent.under (b : Nat) : Ent → Bool
  | .box cs => AV.underL b cs
  | .own _ _ xs => AV.underLL b xs
  | _ => true

/-- Rows of z cells. -/
def chunks (z : Nat) : Nat → List AV → List (List AV)
  | 0, _ => []
  | n + 1, cs => cs.take z :: chunks z n (cs.drop z)

def AV.pureLL : List (List AV) → Bool
  | [] => true
  | x :: xs => AV.pureL x && AV.pureLL xs

/-- The elements of a slice as they are; first: they lead to nothing that may be written. -/
def snap (H : List Ent) : AV → Option (Bool × Nat × List (List AV))
  | .sl _ z xs => some (true, z, xs)
  | .nsl _ z => some (true, z, [])
  | .os k off len vr =>
    match H[k]? with
    | some (.own vr' z xs) => if vr = vr' ∧ off + len ≤ xs.length then some (AV.pureLL ((xs.drop off).take len), z, (xs.drop off).take len) else none
    | _ => none
  | .bxs k off len z =>
    match H[k]? with
    | some (.box cs) => if AV.pureL cs = true ∧ off + len * z ≤ cs.length then some (true, z, chunks z len (cs.drop off)) else none
    | _ => none
  | _ => none

def isNilSl : AV → Bool
  | .sc (.slice none 0 0) => true
  | _ => false

/-- The elements, of a nil slice too. -/
def elemsOf (H : List Ent) (z : Nat) (v : AV) : Option (Bool × List (List AV)) :=
  match v with
  | .sc (.slice none 0 0) => some (true, [])
  | v => match snap H v with
    | some (p, z', xs) => if z = z' then some (p, xs) else none
    | none => none

def mapO {α β : Type} (f : α → Option β) : List α → Option (List β)
  | [] => some []
  | x :: xs => (f x).bind fun y => (mapO f xs).map (y :: ·)

/-- What a call hands back: owned slices of its own are written no more (d: how deep they may lie in each other). -/
def AV.freeze (b : Nat) (H : List Ent) : Nat → AV → Option AV
  | 0, _ => none
  | d + 1, v =>
    let row (x : List AV) : Option (List AV) := if AV.pureL x then some x else (mapO (AV.freeze b H d) x).bind fun y => if AV.pureL y then some y else none
    match v with
    | .os k off len vr => if k < b then some (.os k off len vr) else (snap H (.os k off len vr)).bind fun r => (mapO row r.2.2).map fun xs => .sl false r.2.1 xs
    | .bxs k off len z => if k < b then some (.bxs k off len z) else (snap H (.bxs k off len z)).map fun r => .sl false r.2.1 r.2.2
    | .agg cs => (mapO (AV.freeze b H d) cs).map .agg
    | .tup cs => (mapO (AV.freeze b H d) cs).map .tup
    | .ifc t v => (AV.freeze b H d v).map (.ifc t)
    | v => if AV.under b v then some v else none

def AV.cells : AV → List AV
  | .agg cs => cs
  | v => [v]

/-- It can be put into memory (cell by cell, if it is a struct or an array). -/
def AV.storable : AV → Bool
  | .und | .tup _ => false
  | .sc v => v.oneCell'
  | _ => true

/-- Memory that an append may take up. -/
def room (n bytes : Nat) : Bool := decide (0 < bytes ∧ n * bytes ≤ 140737488355328)

section ops
variable (T : TT)

def scEq : AV → AV → Option Bool
  | .sc (.int k a), .sc (.int k' b) => if k = k' then some (a == b) else none
  | .sc (.bool a), .sc (.bool b) => some (a == b)
  | _, _ => none
def aggEq : List AV → List AV → Option Bool
  | [], [] => some true
  | a :: as, b :: bs => (scEq a b).bind fun e => (aggEq as bs).map (e && ·)
  | _, _ => none

/-- Cells of these shapes: numbers, booleans. -/
def shapeOk : List Bool → List AV → Bool
  | [], [] => true
  | true :: k, .sc (.int _ _) :: cs => shapeOk k cs
  | false :: k, .sc (.bool _) :: cs => shapeOk k cs
  | _, _ => false
def eqShape (k : Option (List Bool)) (cs : List AV) : Bool := match k with
  | some k => shapeOk k cs
  | none => false

def intBin (op : BinOp) (k : IntKind) (a b : Int) : Option Value :=
  match op with
  | .add => some (.int k (k.wrap (a + b)))
  | .sub => some (.int k (k.wrap (a - b)))
  | .mul => some (.int k (k.wrap (a * b)))
  | .quo => if b = 0 then none else some (.int k (k.wrap (a.tdiv b)))
  | .rem => if b = 0 then none else some (.int k (a.tmod b))
  | .and => some (.int k (k.wrap (BitVec.ofInt k.bits a &&& BitVec.ofInt k.bits b).toNat))
  | .or => some (.int k (k.wrap (BitVec.ofInt k.bits a ||| BitVec.ofInt k.bits b).toNat))
  | .xor => some (.int k (k.wrap (BitVec.ofInt k.bits a ^^^ BitVec.ofInt k.bits b).toNat))
  | .andNot => some (.int k (k.wrap (BitVec.ofInt k.bits a &&& ~~~BitVec.ofInt k.bits b).toNat))
  | .eql => some (.bool (a == b))
  | .neq => some (.bool (a != b))
  | .lss => some (.bool (a < b))
  | .leq => some (.bool (a ≤ b))
  | .gtr => some (.bool (a > b))
  | .geq => some (.bool (a ≥ b))
  | _ => none
def intShift (op : BinOp) (k : IntKind) (a b : Int) : Option Value :=
  if b < 0 then none else
  match op with
  | .shl => some (.int k (k.wrap (a * 2 ^ min b.toNat k.bits)))
  | .shr => some (.int k (a.fdiv (2 ^ min b.toNat k.bits)))
  | _ => none

def aBin (op : BinOp) (t : Nat) : AV → AV → Option AV
  | .sc (.int k a), .sc (.int k' b) =>
    match op with
    | .shl | .shr => (intShift op k a b).map .sc
    | _ => if k = k' then (intBin op k a b).map .sc else none
  | .sc (.bool a), .sc (.bool b) =>
    if T.bool t then
      match op with
      | .eql => some (.sc (.bool (a == b)))
      | .neq => some (.sc (.bool (!(a == b))))
      | _ => none
    else none
  | .agg cs, .agg ds =>
    if eqShape (T.eqc t) cs = true then
      match op with
      | .eql => (aggEq cs ds).map fun e => .sc (.bool e)
      | .neq => (aggEq cs ds).map fun e => .sc (.bool (!e))
      | _ => none
    else none
  | .sl _ _ (_ :: _), .sc (.slice none 0 0) =>
    if (T.elem t).isSome then
      match op with
      | .eql => some (.sc (.bool false))
      | .neq => some (.sc (.bool true))
      | _ => none
    else none
  | .sc (.slice none 0 0), .sc (.slice none 0 0) =>
    if (T.elem t).isSome then
      match op with
      | .eql => some (.sc (.bool true))
      | .neq => some (.sc (.bool false))
      | _ => none
    else none
  | .nsl n _, .sc (.slice none 0 0) =>
    if (T.elem t).isSome then
      match op with
      | .eql => some (.sc (.bool n))
      | .neq => some (.sc (.bool !n))
      | _ => none
    else none
  | .ifc .., .sc .nilIface =>
    if T.ifc t then
      match op with
      | .eql => some (.sc (.bool false))
      | .neq => some (.sc (.bool true))
      | _ => none
    else none
  | _, _ => none

def aUn (op : UnOp) : AV → Option AV
  | .sc (.bool b) => match op with
    | .not => some (.sc (.bool !b))
    | _ => none
  | .sc (.int k n) => match op with
    | .neg => some (.sc (.int k (k.wrap (0 - n))))
    | .xor => some (.sc (.int k (k.wrap (BitVec.ofInt k.bits (if k.signed then -1 else k.max) ^^^ BitVec.ofInt k.bits n).toNat)))
    | _ => none
  | _ => none

def aConv (src dst : Nat) : AV → Option AV
  | .sc (.int _ n) => if (T.size src).isSome then (T.int dst).map fun k => .sc (.int k (k.wrap n)) else none
  | _ => none

/-- The value of n cells. -/
def valOf (n : Nat) (agg : Bool) (cs : List AV) : Option AV :=
  if agg then if n ≤ cs.length then some (.agg (cs.take n)) else none
  else cs.head?

def aLoad (H : List Ent) (t : Nat) (a : AV) : Option AV :=
  match T.size t with
  | none => none
  | some (n, g) =>
    match a with
    | .fp cs => valOf n g cs
    | .bp k off => match H[k]? with
      | some (.box cs) => valOf n g (cs.drop off)
      | _ => none
    | .op k i off vr => match H[k]? with
      | some (.own vr' _ xs) => if vr = vr' then match xs[i]? with
        | some x => valOf n g (x.drop off)
        | none => none else none
      | _ => none
    | _ => none

/-- An address that nobody writes. -/
def AV.isFp : AV → Bool
  | .fp _ => true
  | _ => false

/-- Cells put over others from a place on. -/
def putAt (off : Nat) (vs cs : List AV) : List AV := cs.take off ++ vs ++ cs.drop (off + vs.length)

/-- What is put over a cell leads nowhere, or to where the cell led. -/
def refCell : AV → AV → Bool
  | .os j _ _ _, .os j' _ _ _ => Nat.beq j j'
  | v, _ => AV.pure v
def refCells : List AV → List AV → Bool
  | [], _ => true
  | v :: vs, c :: cs => refCell v c && refCells vs cs
  | _, [] => false

def aStore (b : Nat) (H : List Ent) (t : Nat) (a v : AV) : Option (List Ent) :=
  match T.size t with
  | none => none
  | some (n, _) =>
    if v.cells.length = n ∧ AV.storable v = true then
      match a with
      | .bp k off => match H[k]? with
        | some (.box cs) => if off + n ≤ cs.length ∧ AV.still v = true ∧ (k < b → refCells v.cells (cs.drop off) = true) then some (H.set k (.box (putAt off v.cells cs))) else none
        | _ => none
      | .op k i off vr => match H[k]? with
        | some (.own vr' z xs) => if vr = vr' then match xs[i]? with
          | some x => if off + n ≤ x.length ∧ AV.still v = true ∧ (k < b → refCells v.cells (x.drop off) = true) then some (H.set k (.own vr' z (xs.set i (putAt off v.cells x)))) else none
          | none => none else none
        | _ => none
      | _ => none
    else none

/-- An address that still leads where it led. -/
def alive (H : List Ent) : AV → Bool
  | .fp _ => true
  | .bp k _ => match H[k]? with
    | some (.box _) => true
    | _ => false
  | .op k _ _ vr => match H[k]? with
    | some (.own vr' _ _) => Nat.beq vr vr'
    | _ => false
  | _ => false
def AV.shift (d : Nat) : AV → AV
  | .fp cs => .fp (cs.drop d)
  | .bp k off => .bp k (off + d)
  | .op k i off vr => .op k i (off + d) vr
  | v => v

def aField (H : List Ent) (t f : Nat) (a : AV) : Option AV :=
  if alive H a then (T.fld t f).map fun r => a.shift r.1 else none

/-- The address of an element. -/
def aIndexAddr (H : List Ent) (t : Nat) (x ix : AV) : Option AV :=
  match ix with
  | .sc (.int _ i) =>
    if i < 0 then none else
    match x with
    | .sl _ z xs => match T.elem t with
      | some (z', _) => if z = z' then (xs[i.toNat]?).map .fp else none
      | none => none
    | .os k off len vr => match T.elem t, H[k]? with
      | some (z', _), some (.own vr' z xs) => if z = z' ∧ vr = vr' ∧ i.toNat < len ∧ off + i.toNat < xs.length then some (.op k (off + i.toNat) 0 vr) else none
      | _, _ => none
    | .bxs k off len z => match T.elem t, H[k]? with
      | some (z', _), some (.box _) => if z = z' ∧ i.toNat < len then some (.bp k (off + i.toNat * z)) else none
      | _, _ => none
    | x => match T.arr t with
      | some (n, z, _) => if i.toNat < n ∧ alive H x = true then some (x.shift (i.toNat * z)) else none
      | none => none
  | _ => none

/-- An element of an array's value. -/
def aIndex (t : Nat) (x ix : AV) : Option AV :=
  match x, ix with
  | .agg cs, .sc (.int _ i) => match T.arr t with
    | some (n, z, g) => if 0 ≤ i ∧ i < n then valOf z g (cs.drop (i.toNat * z)) else none
    | none => none
  | _, _ => none

def aFieldVal (t f : Nat) : AV → Option AV
  | .agg cs => match T.fld t f with
    | some (off, n, g) => valOf n g (cs.drop off)
    | none => none
  | _ => none

def fillA (place : Nat → Option (Nat × Nat)) : List (Nat × AV) → List AV → Option (List AV)
  | [], cs => some cs
  | (i, v) :: rest, cs =>
    match place i with
    | none => none
    | some (off, size) => if v.cells.length = size ∧ AV.storable v = true ∧ off + size ≤ cs.length then fillA place rest (putAt off v.cells cs) else none

def aBuild (t : Nat) (parts : List (Nat × AV)) : Option AV :=
  match T.zero t with
  | none => none
  | some zs =>
    match T.flds t, T.arr t with
    | some fs, _ => (fillA (fun i => (fs[i]?).map fun r => (r.1, r.2.1)) parts (zs.map .sc)).map .agg
    | none, some (_, z, _) => (fillA (fun i => some (i * z, z)) parts (zs.map .sc)).map .agg
    | none, none => none

/-- The cells of a slice literal. -/
def slLit (own : Bool) (t len : Nat) (parts : List (Nat × AV)) (zs : List Value) : Option (Nat × List (List AV)) :=
  match T.elem t with
  | none => none
  | some (z, _) =>
    if zs.length = z ∧ 0 < z ∧ len * z ≤ 16777216 ∧ (bif own then AV.stillL (parts.map (·.2)) else AV.pureL (parts.map (·.2))) = true then
      (fillA (fun i => some (i * z, z)) parts (List.replicate len (zs.map AV.sc)).flatten).map fun cs => (z, chunks z len cs)
    else none

def aLen (H : List Ent) (t : Nat) (v : AV) : Option AV :=
  match T.arr t with
  | some (n, _, _) => some (.sc (.int .i64 n))
  | none =>
    match T.elem t with
    | none => none
    | some _ =>
      match v with
      | .sc (.slice none 0 0) => some (.sc (.int .i64 0))
      | .sl _ _ xs => some (.sc (.int .i64 xs.length))
      | .os k _ len vr => match H[k]? with
        | some (.own vr' _ _) => if vr = vr' then some (.sc (.int .i64 len)) else none
        | _ => none
      | .bxs k _ len _ => match H[k]? with
        | some (.box _) => some (.sc (.int .i64 len))
        | _ => none
      | _ => none


/-- What an append that makes new memory, or that grows an owned slice, hands back. -/
def aAppend (own : Bool) (b : Nat) (H : List Ent) (t : Nat) (s x : AV) : Option (AV × List Ent) :=
  match T.elem t with
  | none => none
  | some (z, eb) =>
    match elemsOf H z x with
    | none => none
    | some (py, ys) =>
      match s with
      | .os k 0 len vr => match H[k]? with
        | some (.own vr' z' xs) =>
          if vr = vr' ∧ z = z' ∧ len ≤ xs.length ∧ room (len + ys.length) eb = true ∧ (k < b → AV.pureLL ys = true) then
            some (.os k 0 (len + ys.length) (vr + 1), H.set k (.own (vr + 1) z (xs.take len ++ ys)))
          else none
        | _ => none
      | s =>
        match (if isNilSl s then some (true, z, []) else match s with | .sl f z' xs => some (f, z', xs) | _ => none) with
        | some (true, z', xs) =>
          if z = z' ∧ 0 < z ∧ room (xs.length + ys.length) eb = true then
            if own then match xs with
              | [] => some (.os H.length 0 ys.length 0, H ++ [.own 0 z ys])
              | _ => none
            else if py then some (.sl false z (xs ++ ys), H) else none
          else none
        | _ => none

/-- The bounds of a slice expression. -/
def bound (d : Nat) : Option AV → Option Nat
  | none => some d
  | some (.sc (.int _ i)) => if 0 ≤ i then some i.toNat else none
  | _ => none

def aSlice (H : List Ent) (t : Nat) (x : AV) (lo hi mx : Option AV) : Option AV :=
  match T.arr t with
  | some (n, z, _) =>
    match bound 0 lo, bound n hi, mx, x with
    | some l, some h, none, .bp k off => if l ≤ h ∧ h ≤ n ∧ l < n ∧ alive H x = true then some (.bxs k (off + l * z) (h - l) z) else none
    | _, _, _, _ => none
  | none =>
    match T.elem t with
    | none => none
    | some (z, _) =>
      match x with
      | .sc (.slice none 0 0) =>
        match bound 0 lo, bound 0 hi, bound 0 mx with
        | some 0, some 0, some 0 => if (!mx.isSome || hi.isSome) = true then some (.sc (.slice none 0 0)) else none
        | _, _, _ => none
      | .sl f z' xs =>
        match bound 0 lo, bound xs.length hi with
        | some l, some h =>
          if z = z' ∧ l ≤ h ∧ h ≤ xs.length then
            match mx with
            | none => some (.sl (f && Nat.beq h xs.length) z ((xs.drop l).take (h - l)))
            | some m => match bound 0 (some m) with
              | some m => if h ≤ m ∧ m ≤ xs.length ∧ hi.isSome = true then some (.sl (Nat.beq m h) z ((xs.drop l).take (h - l))) else none
              | none => none
          else none
        | _, _ => none
      | .os k off len vr =>
        match H[k]? with
        | some (.own vr' z' xs) =>
          match bound 0 lo, bound len hi, mx with
          | some l, some h, none =>
            if vr = vr' ∧ z = z' ∧ l ≤ h ∧ h ≤ len ∧ off + len ≤ xs.length then
              if l = 0 then some (.os k off h vr) else if l < h then some (.os k (off + l) (h - l) vr) else some (.sl false z [])
            else none
          | _, _, _ => none
        | _ => none
      | _ => none

def aMake (own : Bool) (H : List Ent) (t : Nat) (len cap : AV) (zs : Option (List Value)) : Option (AV × List Ent) :=
  match T.elem t, len, cap, zs with
  | some (z, eb), .sc (.int .i64 l), .sc (.int .i64 c), some zs =>
    if 0 ≤ l ∧ l ≤ c ∧ c ≤ 1099511627776 ∧ zs.length = z ∧ 0 < z ∧ room c.toNat eb = true then
      if own then some (.os H.length 0 l.toNat 0, H ++ [.own 0 z (List.replicate l.toNat (zs.map .sc))])
      else if l = c then some (.sl false z (List.replicate l.toNat (zs.map .sc)), H) else none
    else none
  | _, _, _, _ => none

/-- dst[i:] := src, as far as both reach. -/
def overlay (ys xs : List (List AV)) : List (List AV) := ys ++ xs.drop ys.length

def aCopy (b : Nat) (H : List Ent) (t : Nat) (dst src : AV) : Option (AV × List Ent) :=
  match T.elem t with
  | none => none
  | some (z, _) =>
    match elemsOf H z src with
    | none => none
    | some (py, ys) =>
      match dst with
      | .os k off len vr => match H[k]? with
        | some (.own vr' z' xs) =>
          if vr = vr' ∧ z = z' ∧ off + len ≤ xs.length ∧ 0 < z ∧ (k < b → AV.pureLL ys = true) then
            some (.sc (.int .i64 ((min ys.length len : Nat) : Int)), H.set k (.own vr z (xs.take off ++ overlay (ys.take len) (xs.drop off))))
          else none
        | _ => none
      | _ => none

def aMin2 : AV → AV → Option AV
  | .sc (.int k x), .sc (.int k' y) => if k = k' then some (.sc (.int k (if y < x then y else x))) else none
  | _, _ => none
def aMax2 : AV → AV → Option AV
  | .sc (.int k x), .sc (.int k' y) => if k = k' then some (.sc (.int k (if y > x then y else x))) else none
  | _, _ => none

/-- The value of an owned slice or of a part of a box, for a call that writes nothing. -/
def lend (H : List Ent) (v : AV) : Option AV :=
  if AV.pure v then some v else match snap H v with
    | some (p, z, xs) => if p then some (.sl false z xs) else none
    | none => none
def lendAll (H : List Ent) : List AV → Option (List AV)
  | [] => some []
  | v :: vs => (lend H v).bind fun v' => (lendAll H vs).map (v' :: ·)

-- Nothing that it says depends on memory.
mutual
def AV.flat : AV → Bool
  | .sc _ => true
  | .agg cs | .tup cs => AV.flatL cs
  | _ => false
def AV.flatL : List AV → Bool
  | [] => true
  | v :: vs => AV.flat v && AV.flatL vs
end
end ops

/-- What is given of the program: the types; the values of package-level variables' addresses. -/
structure Env where
  T : TT
  G : Nat → AV := fun _ => .und

section step
variable (E : Env) (C : CF) (Y : List YF)

/-- What a call by value hands back: what it has made of its own is written no more. -/
def bareRet (H1 : List Ent) (v : AV) : Option AV :=
  if AV.pure v then some v else match AV.freeze 0 H1 6 v with
    | some v' => if AV.pure v' then some v' else none
    | none => none

def emptySl : AV → Bool
  | .sc (.slice none 0 0) | .sl _ _ [] => true
  | _ => false
/-- A call that is handed no memory. -/
def bareCall (g : Nat) (as : List AV) (H : List Ent) : Option OR :=
  match C g as [] [] with
  | some (.ret v, H1) => match bareRet H1 v with
    | some v' => some (.val v' H)
    | none => none
  | some (.pan v, _) => if AV.pure v then some (.pan v H) else none
  | none => none
/-- What a call answers, asked for an empty slice. -/
def askEmpty (g : Nat) (as : List AV) : Bool :=
  match C g as [] [] with
  | some (.ret v, H1) => match bareRet H1 v with
    | some v' => emptySl v'
    | none => false
  | _ => false

def outR : Option (Out × List Ent) → Option OR
  | some (.ret v, H) => some (.val v H)
  | some (.pan v, H) => some (.pan v H)
  | none => none

/-- A call of a function value. -/
def aCallFn (f : Fl) (H : List Ent) (callee : AV) (args : List AV) : Option OR :=
  match callee with
  | .fn g caps =>
    match f with
    | .gen | .own => outR (C g (args ++ caps) H Y)
    | .lend =>
      match lendAll H args with
      | none => none
      | some as =>
        if AV.pureL caps then
          match C g (as ++ caps) [] [] with
          | some (.ret v, _) => if AV.flat v then some (.val v H) else none
          | _ => none
        else none
    | .non =>
      if AV.pureL args && AV.pureL caps then
        match C g (args ++ caps) [] [] with
        | some (.ret v, H1) => match bareRet H1 v with
          | some v' => some (.val v' H)
          | none => none
        | some (.pan v, _) => if AV.pure v then some (.pan v H) else none
        | none => none
      else none
    | .cln =>
      if AV.pureL args && AV.pureL caps then
        match args with
        | [.sl _ z []] => if askEmpty C g (.nsl true z :: caps) && askEmpty C g (.nsl false z :: caps) then some (.val (.sl false z []) H) else none
        | _ => bareCall C g (args ++ caps) H
      else none
  | .yl j => match Y[j]? with
    | some y => outR (y args H)
    | none => none
  | _ => none

def ok (H : List Ent) : Option AV → Option OR
  | some v => some (.val v H)
  | none => none
def okH : Option (AV × List Ent) → Option OR
  | some (v, H) => some (.val v H)
  | none => none

def aBuiltin (f : Fl) (b0 : Nat) (H : List Ent) (b : Builtin) (tys : Array TypeId) (args : List AV) : Option OR :=
  match b, args with
  | .len, [x] => match tys[0]? with
    | some t => ok H (aLen E.T H t x)
    | none => none
  | .append, [s, x] => match tys[0]?, tys[1]? with
    | some t, some t2 => if (E.T.elem t2).isSome then okH (aAppend E.T (f == .own) b0 H t s x) else none
    | _, _ => none
  | .copy, [d, s] => match tys[0]? with
    | some t => okH (aCopy E.T b0 H t d s)
    | none => none
  | .min, [x, y] => ok H (aMin2 x y)
  | .max, [x, y] => ok H (aMax2 x y)
  | _, _ => none

/-- One operation. -/
def aopW (ρ : Operand → AV) (a : AOp) (b : Nat) (H : List Ent) : Option OR :=
  match a.o.op with
  | .move x | .assign x => some (.val (ρ x) H)
  | .pick c x y => match ρ c with
    | .sc (.bool t) => some (.val (if t then ρ x else ρ y) H)
    | _ => none
  | .alloc t => match E.T.zero t with
    | some zs => some (.val (.bp H.length 0) (H ++ [.box (zs.map .sc)]))
    | none => none
  | .box t x => match E.T.size t with
    | some (n, _) => if (ρ x).cells.length = n ∧ 0 < n ∧ AV.storable (ρ x) = true ∧ AV.still (ρ x) = true then some (.val (.bp H.length 0) (H ++ [.box (ρ x).cells])) else none
    | none => none
  | .build t parts => ok H (aBuild E.T t (parts.toList.map fun p => (p.1, ρ p.2)))
  | .buildSlice t len parts =>
    match E.T.ezero t with
    | none => none
    | some zs =>
      match slLit E.T (a.f == .own) t len (parts.toList.map fun p => (p.1, ρ p.2)) zs with
      | none => none
      | some (z, xs) => if a.f == .own then some (.val (.os H.length 0 len 0) (H ++ [.own 0 z xs])) else some (.val (.sl false z xs) H)
  | .load t x => if (a.f == .own && !(ρ x).isFp) = true then none else ok H (aLoad E.T H t (ρ x))
  | .store t x y => match aStore E.T b H t (ρ x) (ρ y) with
    | some H' => some (.val .und H')
    | none => none
  | .nilCheck x => if alive H (ρ x) then some (.val (ρ x) H) else none
  | .binOp op t x y _ => ok H (aBin E.T op t (ρ x) (ρ y))
  | .unOp op _ x => ok H (aUn op (ρ x))
  | .convert src dst x => ok H (aConv E.T src dst (ρ x))
  | .makeFunc fn first captured => match fn with
    | .func f => if first.size = 0 then some (.val (.fn f (captured.toList.map ρ)) H) else none
    | _ => none
  | .makeSlice t l c => okH (aMake E.T (a.f == .own) H t (ρ l) (ρ c) (E.T.ezero t))
  | .slice t x lo hi mx => ok H (aSlice E.T H t (ρ x) (lo.map ρ) (hi.map ρ) (mx.map ρ))
  | .fieldAddr t x f => if (a.f == .own && !(ρ x).isFp) = true then none else ok H (aField E.T H t f (ρ x))
  | .field t x f => ok H (aFieldVal E.T t f (ρ x))
  | .indexAddr t x ix => ok H (aIndexAddr E.T H t (ρ x) (ρ ix))
  | .index t x ix => ok H (aIndex E.T t (ρ x) (ρ ix))
  | .extract x i => match ρ x with
    | .tup vs => ok H vs[i]?
    | _ => none
  | .makeInterface t x => if (E.T.int t).isSome then some (.val (.ifc t (ρ x)) H) else none
  | .panic x => match ρ x with
    | .ifc t v => some (.pan (.ifc t v) H)
    | _ => none
  | .call c =>
    match c.callee with
    | .value f => aCallFn C Y a.f H (ρ f) (c.args.toList.map ρ)
    | .builtin bi => aBuiltin E a.f b H bi c.argTypes (c.args.toList.map ρ)
    | .invoke _ _ => none
  | _ => none

def aop (a : AOp) (b : Nat) (tm : Slots) (H : List Ent) : Option OR := aopW E C Y (aval E.G tm) a b H

def setDst (dst : Option Nat) (v : AV) (tm : Slots) : Slots :=
  match dst with
  | some d => tm.put d v
  | none => tm

/-- An operation in its place: it may be guarded. -/
def stepOp (a : AOp) (st : St) : Option (Ex × St) :=
  match a.g with
  | none =>
    match aop E C Y a st.b st.tm st.H with
    | some (.val v H) => some (.normal, { st with tm := setDst a.o.dst v st.tm, H := H })
    | some (.pan v H) => some (.pan v, { st with H := H })
    | none => none
  | some (g, want) =>
    match st.tm.get g with
    | .sc (.bool t) =>
      if t = want then
        match aop E C Y a st.b st.tm st.H with
        | some (.val v H) => some (.normal, { st with tm := setDst a.o.dst v st.tm, H := H })
        | some (.pan v H) => some (.pan v, { st with H := H })
        | none => none
      else some (.normal, { st with tm := setDst a.o.dst (.sc undef) st.tm })
    | .sc (.tuple _) => some (.normal, { st with tm := setDst a.o.dst (.sc undef) st.tm })
    | _ => none

def runOps : List AOp → St → Option (Ex × St)
  | [], st => some (.normal, st)
  | a :: as, st =>
    match stepOp E C Y a st with
    | some (.normal, st') => runOps as st'
    | r => r

def ghost (g : Ghost) (st : St) : Option St :=
  match g with
  | .cut slots m =>
    let tm := slots.map fun t => (t, st.tm.get t)
    if tm.all (fun p => AV.under (st.b + m) p.2) && ((st.H.take (st.b + m)).drop st.b).all (Ent.under (st.b + m)) then
      some { st with tm := tm, H := st.H.take (st.b + m) }
    else none
  | .freeze s =>
    match st.tm.get s with
    | .os k off len vr =>
      if st.b ≤ k then
        match snap st.H (.os k off len vr) with
        | some (p, z, xs) => if p then some { st with tm := st.tm.put s (.sl false z xs), H := st.H.set k .dead } else none
        | none => none
      else none
    | _ => none
  | .own s z =>
    if isNilSl (st.tm.get s) ∧ 0 < z then some { st with tm := st.tm.put s (.os st.H.length 0 0 0), H := st.H ++ [.own 0 z []] } else none
  | .ownAt s off z =>
    match st.tm.get s with
    | .bp k o => match st.H[k]? with
      | some (.box cs) => match cs[o + off]? with
        | some v => if isNilSl v ∧ 0 < z ∧ st.b ≤ k then some { st with H := st.H.set k (.box (cs.set (o + off) (.os st.H.length 0 0 0))) ++ [.own 0 z []] } else none
        | none => none
      | _ => none
    | _ => none
  | .frz s =>
    match st.tm.get s with
    | .bp k o =>
      if st.b ≤ k then
        match st.H[k]? with
        | some (.box cs) => if AV.pureL cs then some { st with tm := st.tm.put s (.fp (cs.drop o)), H := st.H.set k .dead } else none
        | _ => none
      else none
    | _ => none

def loopIter : Nat → (St → Option (Ex × St)) → St → Option (Ex × St)
  | 0, _, _ => none
  | n + 1, D, st =>
    match D st with
    | some (.normal, st') => loopIter n D st'
    | r => r

/-- How a round ends, by how its body was left. -/
def roundEnd (k hl : Nat) (ex : Ex) (H : List Ent) : Option (Out × List Ent) :=
  match ex with
  | .normal => some (.ret (.sc (.bool true)), (H.set k (.loop .ready none)).take hl)
  | .ret => some (.ret (.sc (.bool false)), (H.set k (.loop .done (some .ret))).take hl)
  | .exit id => some (.ret (.sc (.bool false)), (H.set k (.loop .done (some (.exit id)))).take hl)
  | .pan _ => none

/-- What a yield function does: the assignment, the body. -/
def roundOf (ps : List Nat) (tm : Slots) (k : Nat) (asg body : St → Option (Ex × St)) : YF := fun args H =>
  match H[k]? with
  | some (.loop .ready none) =>
    if args.length = ps.length ∧ AV.pureL args = true then
      match asg { tm := tm.putAll ps args, H := H, b := H.length } with
      | some (.normal, st) =>
        match st.H[k]? with
        | some (.loop .ready none) =>
          match body { st with H := st.H.set k (.loop .busy none) } with
          | some (ex, st') => roundEnd k H.length ex st'.H
          | none => none
        | _ => none
      | _ => none
    else none
  | _ => none

def afterLoop (st : St) (H : List Ent) : Option Jmp → Option (Ex × St)
  | none => some (.normal, { st with H := H })
  | some .ret => some (.ret, { st with H := H })
  | some (.exit id) => some (.exit id, { st with H := H })

def rangeFn (f : AV) (ps : List Nat) (asg body : St → Option (Ex × St)) (st : St) : Option (Ex × St) :=
  match f with
  | .fn g caps =>
    match C g (.yl Y.length :: caps) (st.H ++ [.loop .ready none]) (Y ++ [roundOf ps st.tm st.H.length asg body]) with
    | some (.ret _, H') =>
      match H'[st.H.length]? with
      | some (.loop .busy _) => none
      | some (.loop _ p) => afterLoop st (H'.take st.H.length) p
      | _ => none
    | _ => none
  | _ => none

/-- What code does. lp: what a loop does. -/
def den (lp : (St → Option (Ex × St)) → St → Option (Ex × St)) : AC → St → Option (Ex × St)
  | .skip, st => some (.normal, st)
  | .region _ ops d, st =>
    match runOps E C Y ops st with
    | some (.normal, st') => some (.normal, st')
    | some (ex, st') => if d then none else some (ex, st')
    | none => none
  | .seq a b, st =>
    match den lp a st with
    | some (.normal, st') => den lp b st'
    | r => r
  | .cond c a b, st =>
    match aval E.G st.tm c with
    | .sc (.bool t) => if t then den lp a st else den lp b st
    | _ => none
  | .block id a, st =>
    match den lp a st with
    | some (.exit id', st') => if id' = id then some (.normal, st') else some (.exit id', st')
    | r => r
  | .loop a, st => lp (den lp a) st
  | .exit id, st => some (.exit id, st)
  | .ret, st => some (.ret, st)
  | .rangeFunc f ps asg body, st => rangeFn C Y (aval E.G st.tm f) ps (den lp asg) (den lp body) st
  | .ghost g a, st =>
    match ghost g st with
    | some st' => den lp a st'
    | none => none

end step

/-- A function, as it is evaluated. -/
structure AFn where
  ac : AC
  ntmps : Nat
  results : List ResultVar
  adopt : Bool := false                          -- its entities outlive it

def results (T : TT) (tm : Slots) (H : List Ent) : List ResultVar → Option (List AV)
  | [] => some []
  | .tmp t :: rs => (results T tm H rs).map (tm.get t :: ·)
  | .cell a t :: rs => (aLoad T H t (tm.get a)).bind fun v => (results T tm H rs).map (v :: ·)

def pack : List AV → AV
  | [v] => v
  | vs => .tup vs

def leave (T : TT) (A : AFn) (b : Nat) (st : St) : Option (Out × List Ent) :=
  match results T st.tm st.H A.results with
  | none => none
  | some vs =>
    if A.adopt then some (.ret (pack vs), st.H)
    else if AV.pure (pack vs) then some (.ret (pack vs), st.H.take b)
    else match AV.freeze b st.H 6 (pack vs) with
      | some v => some (.ret v, st.H.take b)
      | none => none

/-- A call: n bounds the depth and the rounds. -/
def callN (E : Env) (F : Nat → Option AFn) : Nat → CF
  | 0, _, _, _, _ => none
  | n + 1, f, args, H, Y =>
    match F f with
    | none => none
    | some A =>
      match den E (callN E F n) Y (loopIter n) A.ac { tm := Slots.init 0 args, H := H, b := H.length } with
      | some (.normal, st) | some (.ret, st) => leave E.T A H.length st
      | some (.pan v, st) => if AV.under H.length v then some (.pan v, st.H.take H.length) else none
      | _ => none

end Go.Abs
