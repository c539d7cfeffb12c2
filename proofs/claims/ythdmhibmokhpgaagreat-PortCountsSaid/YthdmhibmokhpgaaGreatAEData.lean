/- The data over which the abstract evaluator runs: plain structures for the program's records, the kinds of elements that slices hold, abstract values, abstract objects, tables of types. -/
import Derived.Calls
import Derived.Laws.Sem
import Derived.Orders
set_option linter.unusedVariables false
set_option linter.unusedSimpArgs false
namespace Go.AE

structure FrameD where
  op : Int
  pc : Int
  r0 : Int
  r1 : Int
  r2 : Int
  r3 : Int
  r4 : Int
  r5 : Int
  r6 : Int
  r7 : Int
  S : List Int

structure CoreD where
  F : List FrameD
  V : Int
  E : Int
  x0 : Int
  x1 : Int
  x2 : Int
  Ret : List Int

structure EvD where
  core : Int
  kind : Int
  a : Int
  b : Int
  v : Int

structure MemD where
  W : List Int
  G : List Int
  bad : Bool

structure SysD where
  M : MemD
  C : List CoreD
  L : List EvD

structure CallD where
  no : Int
  a : Int
  b : Int

structure PastD where
  c : CallD
  v : Int
  e : Int
  fr : Int
  to : Int
  at_ : Int

structure ThreadD where
  P : List CallD
  pc : Int
  fr : Int
  out : List PastD

structure KernD where
  S : SysD
  T : List ThreadD
  On : List Int
  Turn : List Int

structure StepD where
  id : Int
  tick : Bool

structure MoveD where
  kind : Int
  n : Int

structure PairD where
  a : Int
  b : Int

/-- The kinds of elements of slices. -/
inductive STy where
  | int | u16 | bool | str | frame | core | ev | call | calls | past | thread | step | move | pair | ints

/-- The elements. -/
def El : STy → Type
  | .int => Int
  | .u16 => Int
  | .bool => Bool
  | .str => List UInt8
  | .frame => FrameD
  | .core => CoreD
  | .ev => EvD
  | .call => CallD
  | .calls => List CallD
  | .past => PastD
  | .thread => ThreadD
  | .step => StepD
  | .move => MoveD
  | .pair => PairD
  | .ints => List Int

/-- How many cells an element has. -/
def STy.sz : STy → Nat
  | .int => 1
  | .u16 => 1
  | .bool => 1
  | .str => 1
  | .frame => 11
  | .core => 7
  | .ev => 5
  | .call => 3
  | .calls => 1
  | .past => 8
  | .thread => 4
  | .step => 2
  | .move => 2
  | .pair => 2
  | .ints => 1

/-- Abstract values. u: nothing is known; und: a temporary that was not written. p: a cell of the abstract heap, and how many cells of its variable there are from it on; px: in an element of a slice that nobody writes; pr: in an element of a row of one's own; sl: a slice that nobody writes, ex: its capacity is its length; o: a row of one's own, whole, at its so-manieth state, as a slice; ov: a part of one (from where on, how many); cs: cells in a row, as a slice. -/
inductive V where
  | u
  | und
  | b (x : Bool)
  | i (k : IntKind) (n : Int)
  | s (x : List UInt8)
  | p (id n : Nat)
  | pnil
  | px (t : STy) (x : El t) (off : Nat)
  | pr (id ver ix off : Nat)
  | nils
  | sl (t : STy) (xs : List (El t)) (ex : Bool)
  | o (id ver : Nat)
  | ov (id ver off len : Nat)
  | cs (id len esz : Nat)
  | f (fn : Fn) (fs cs : List V)
  | fnil
  | m (id : Nat)
  | mnil
  | agg (cs : List V)
  | tup (cs : List V)
  | ifc (t : TypeId) (v : V)
  | ifnil

/-- Abstract objects: a cell; a row of one's own (its elements' type; its elements; how often it was appended to; may it be stored into, may it be appended to in its place, has it surely an element); a map from integers; one that is gone. -/
inductive Ob where
  | c (v : V)
  | row (e : Nat) (t : STy) (xs : List (El t)) (ver : Nat) (mu ap nz : Bool)
  | map (ag : Bool) (es : List (Int × List V))
  | tmap (ag : Bool) (t : STy) (es : List (Int × El t))
  | dead

abbrev I (n : Int) : V := .i .i64 n

/-- An element's cells. -/
def cellsOf : (t : STy) → El t → List V
  | .int, x => [.i .i64 x]
  | .u16, x => [.i .u16 x]
  | .bool, x => [.b x]
  | .str, x => [.s x]
  | .frame, x => [I x.op, I x.pc, I x.r0, I x.r1, I x.r2, I x.r3, I x.r4, I x.r5, I x.r6, I x.r7, .sl .int x.S false]
  | .core, x => [.sl .frame x.F false, I x.V, I x.E, I x.x0, I x.x1, I x.x2, .sl .int x.Ret false]
  | .ev, x => [I x.core, I x.kind, I x.a, I x.b, I x.v]
  | .call, x => [I x.no, I x.a, I x.b]
  | .calls, x => [.sl .call x false]
  | .past, x => [I x.c.no, I x.c.a, I x.c.b, I x.v, I x.e, I x.fr, I x.to, I x.at_]
  | .thread, x => [.sl .call x.P false, I x.pc, I x.fr, .sl .past x.out false]
  | .step, x => [I x.id, .b x.tick]
  | .move, x => [I x.kind, I x.n]
  | .pair, x => [I x.a, I x.b]
  | .ints, x => [.sl .int x false]

def asSl (t : STy) : V → Option (List (El t))
  | .nils => some []
  | .sl u xs _ => match t, u, xs with
    | .int, .int, xs => some xs
    | .u16, .u16, xs => some xs
    | .bool, .bool, xs => some xs
    | .str, .str, xs => some xs
    | .frame, .frame, xs => some xs
    | .core, .core, xs => some xs
    | .ev, .ev, xs => some xs
    | .call, .call, xs => some xs
    | .calls, .calls, xs => some xs
    | .past, .past, xs => some xs
    | .thread, .thread, xs => some xs
    | .step, .step, xs => some xs
    | .move, .move, xs => some xs
    | .pair, .pair, xs => some xs
    | .ints, .ints, xs => some xs
    | _, _, _ => none
  | _ => none

/-- The element whose cells these are. -/
def ofCells : (t : STy) → List V → Option (El t)
  | .int => fun cs => match cs with | [.i .i64 x] => some x | _ => none
  | .u16 => fun cs => match cs with | [.i .u16 x] => some x | _ => none
  | .bool => fun cs => match cs with | [.b x] => some x | _ => none
  | .str => fun cs => match cs with | [.s x] => some x | _ => none
  | .frame => fun cs => match cs with
    | [.i .i64 a, .i .i64 b, .i .i64 c, .i .i64 d, .i .i64 e, .i .i64 f, .i .i64 g, .i .i64 h, .i .i64 i, .i .i64 j, s] =>
      match asSl .int s with
      | some s => some ⟨a, b, c, d, e, f, g, h, i, j, s⟩
      | none => none
    | _ => none
  | .core => fun cs => match cs with
    | [f, .i .i64 a, .i .i64 b, .i .i64 c, .i .i64 d, .i .i64 e, r] =>
      match asSl .frame f, asSl .int r with
      | some f, some r => some ⟨f, a, b, c, d, e, r⟩
      | _, _ => none
    | _ => none
  | .ev => fun cs => match cs with | [.i .i64 a, .i .i64 b, .i .i64 c, .i .i64 d, .i .i64 e] => some ⟨a, b, c, d, e⟩ | _ => none
  | .call => fun cs => match cs with | [.i .i64 a, .i .i64 b, .i .i64 c] => some ⟨a, b, c⟩ | _ => none
  | .calls => fun cs => match cs with | [s] => asSl .call s | _ => none
  | .past => fun cs => match cs with | [.i .i64 a, .i .i64 b, .i .i64 c, .i .i64 d, .i .i64 e, .i .i64 f, .i .i64 g, .i .i64 h] => some ⟨⟨a, b, c⟩, d, e, f, g, h⟩ | _ => none
  | .thread => fun cs => match cs with
    | [p, .i .i64 a, .i .i64 b, o] =>
      match asSl .call p, asSl .past o with
      | some p, some o => some ⟨p, a, b, o⟩
      | _, _ => none
    | _ => none
  | .step => fun cs => match cs with | [.i .i64 a, .b x] => some ⟨a, x⟩ | _ => none
  | .move => fun cs => match cs with | [.i .i64 a, .i .i64 b] => some ⟨a, b⟩ | _ => none
  | .pair => fun cs => match cs with | [.i .i64 a, .i .i64 b] => some ⟨a, b⟩ | _ => none
  | .ints => fun cs => match cs with | [s] => asSl .int s | _ => none

/-- A zero's kind, cell by cell. -/
inductive Z where
  | b | i (k : IntKind) | s | p | sl | f | m | ifc | other
  deriving DecidableEq

inductive TD where
  | int (k : IntKind) | bool | str | slice (e : Nat) | arr (n e : Nat) | struct (fs : List (Nat × Nat)) | ptr (e : Nat) | func | map (k e : Nat) | iface | other
  deriving DecidableEq

/-- What is known of a type: what it is, how many cells, how many bytes, its zero. -/
structure TI where
  d : TD
  size : Nat
  bytes : Nat
  zero : List Z
  deriving DecidableEq

def zOf : Value → Z
  | .bool false => .b
  | .int k 0 => .i k
  | .string s => if s.size = 0 then .s else .other
  | .pointer none => .p
  | .slice none 0 0 => .sl
  | .nilFunc => .f
  | .map none => .m
  | .nilIface => .ifc
  | _ => .other

def tdOf : TypeDesc → TD
  | .int k => .int k
  | .bool => .bool
  | .string => .str
  | .slice e => .slice e
  | .array n e => .arr n e
  | .struct fs => .struct (fs.toList.map fun f => (f.offset, f.type))
  | .pointer e => .ptr e
  | .func .. => .func
  | .map k e => .map k e
  | .interface _ => .iface
  | _ => .other

def isAgg : TD → Bool
  | .struct _ => true
  | .arr _ _ => true
  | _ => false

def isAggV : Value → Bool
  | .agg _ => true
  | _ => false

def tiOf (P : Program) (t : TypeId) : Option TI :=
  match P.info? t, P.underlying t with
  | some i, some d =>
    match i.zero with
    | some z => if (z.cells.toList.map zOf).contains .other ∨ isAgg (tdOf d) ≠ isAggV z then none else some ⟨tdOf d, i.size, i.bytes, z.cells.toList.map zOf⟩
    | none => none
  | _, _ => none

def Z.v : Z → V
  | .b => .b false
  | .i k => .i k 0
  | .s => .s []
  | .p => .pnil
  | .sl => .nils
  | .f => .fnil
  | .ifc => .ifnil
  | .m => .mnil
  | .other => .u

end Go.AE
