/- The abstract evaluator: the loaded code, run on abstract values; it goes two ways only by brB, brO, and what is made of them. -/
import Derived.Test.YthdmhibmokhpgaaGreatAEData
set_option linter.unusedVariables false
set_option linter.unusedSimpArgs false
namespace Go.AE

/-- One way or the other. -/
def brB {ρ : Type} (b : Bool) (x y : Unit → Option ρ) : Option ρ := match b with | true => x () | false => y ()
/-- What there is, or nothing. -/
def brO {α ρ : Type} (o : Option α) (k : α → Option ρ) : Option ρ := match o with | some a => k a | none => none

/-- An element of a list, by a number. -/
def idx {α : Type} (xs : List α) (i : Int) : Option α := if 0 ≤ i then xs[i.toNat]? else none

/-- A place in a row of n cells, by a number: each place is a way of its own. -/
def brI {ρ : Type} : (n : Nat) → (i : Int) → (Nat → Option ρ) → Option ρ
  | 0, _, _ => none
  | n + 1, i, k => brB (decide (i = (n : Int))) (fun _ => k n) (fun _ => brI n i k)

/-- Numbers, bools and strings alone? -/
def plain1 : V → Bool
  | .b _ => true
  | .i _ _ => true
  | .s _ => true
  | _ => false

def plain2 : V → Bool
  | .agg cs => cs.all plain1
  | v => plain1 v

def plainV : V → Bool
  | .tup vs => vs.all plain2
  | v => plain2 v

/-- A spec of a function: what it answers, of arguments that can be read. keeps: may the answer share memory with the arguments? -/
structure Spec where
  β : Type
  run : List V → Option (Option β)
  enc : β → V
  keeps : Bool

/-- What was touched: was it written, the first cell, how many. -/
structure Acc where
  w : Bool
  id : Nat
  n : Nat

abbrev Lg := List Acc

structure St where
  tm : List V
  H : List Ob
  lg : Lg

inductive Ex where
  | normal | exit (id : Nat) | goto (l : Nat) | ret

/-- A spec of a loop: what comes of it, of a state that can be read; it is left in one way or another. -/
structure LSpec where
  base : Nat
  A : Type
  B : Type
  run : St → Option (Option (A ⊕ B))
  exA : Ex
  encA : A → St
  exB : Ex
  encB : B → St

structure Cfg where
  ty : Nat → Option TI
  sty : Nat → Option STy
  fns : List (Nat × Func)
  specs : List (Nat × Spec)
  keep : List (Nat × Nat × List Nat × List (Nat × Nat × STy) × List (Nat × Nat × STy))
  clones : List (Nat × Nat × STy)
  grows : List (Nat × Nat × STy)
  splits : List (Nat × Nat × Nat)
  sets : List Nat
  eqs : List Nat
  loops : List (Nat × Nat × LSpec)
  N : Nat

universe u

def look {α : Type u} (k : Nat) : List (Nat × α) → Option α
  | [] => none
  | (j, a) :: r => if k = j then some a else look k r

def look2 {α : Type u} (f id : Nat) : List (Nat × Nat × α) → Option α
  | [] => none
  | (g, j, l) :: r => if f = g ∧ id = j then some l else look2 f id r

/-- One of two. -/
def brS {α β ρ : Type} (o : α ⊕ β) (k : α → Option ρ) (l : β → Option ρ) : Option ρ := match o with | .inl a => k a | .inr b => l b

def inR (k : IntKind) (n : Int) : Bool := decide (k.min ≤ n) && decide (n ≤ k.max)

def ofVal1 : Value → V
  | .bool b => .b b
  | .int k n => if inR k n then .i k n else .u
  | .string s => if s.size ≤ 1000000 then .s s.data.toList else .u
  | .pointer none => .pnil
  | .slice none 0 0 => .nils
  | .nilFunc => .fnil
  | .nilIface => .ifnil
  | .map none => .mnil
  | _ => .u

def ofVal : Value → V
  | .agg cs => if cs.toList.all Value.oneCell' then .agg (cs.toList.map ofVal1) else .u
  | v => ofVal1 v

/-- A temporary. -/
noncomputable def getR (tm : List V) (t : Nat) : V :=
  List.rec (motive := fun _ => Nat → V) (fun _ => .und) (fun a _ ih n => Nat.rec (motive := fun _ => V) a (fun n _ => ih n) n) tm t

theorem getR_eq : ∀ (tm : List V) (t : Nat), getR tm t = tm.getD t .und
  | [], _ => rfl
  | _ :: _, 0 => rfl
  | a :: l, n + 1 => by
    have := getR_eq l n
    simp only [List.getD_cons_succ]
    exact this

noncomputable def opd (tm : List V) : Operand → V
  | .tmp t => getR tm t
  | .const v => ofVal v
  | .global _ => .u
  | .func f => .f (.func f) [] []

/-- The cells of a value. -/
def cellsV : V → Option (List V)
  | .agg cs => some cs
  | .u => none
  | .und => none
  | .tup _ => none
  | v => some [v]

/-- Cells laid over others, from a place on. -/
def splice : List V → Nat → List V → List V
  | cs, 0, vs => vs ++ cs.drop vs.length
  | [], _ + 1, _ => []
  | c :: cs, n + 1, vs => c :: splice cs n vs

def cellsOfObs : List Ob → Option (List V)
  | [] => some []
  | .c v :: r => match cellsOfObs r with | some l => some (v :: l) | none => none
  | _ :: _ => none

/-- n cells from a place of the heap on. -/
def loadC (H : List Ob) (id n : Nat) : Option (List V) :=
  match cellsOfObs ((H.drop id).take n) with
  | some l => if l.length = n then some l else none
  | none => none

def storeC : List Ob → Nat → List V → Option (List Ob)
  | H, 0, vs => storeH H vs
  | [], _ + 1, _ => none
  | o :: H, n + 1, vs => match storeC H n vs with | some H => some (o :: H) | none => none
where
  storeH : List Ob → List V → Option (List Ob)
    | H, [] => some H
    | .c _ :: H, v :: vs => match storeH H vs with | some H => some (.c v :: H) | none => none
    | _, _ :: _ => none

def mkVal (d : TD) (cs : List V) : Option V :=
  if isAgg d then some (.agg cs) else match cs with | [v] => some v | _ => none

def part (d : TD) (size : Nat) (cs : List V) (off : Nat) : Option V :=
  if off + size ≤ cs.length then mkVal d ((cs.drop off).take size) else none

/-- A frozen view of a value: what is a row of one's own is told by its elements. -/
def fz1 (H : List Ob) : V → V
  | .o id ver => match H[id]? with
    | some (.row _ t xs v _ _ _) => if ver = v then .sl t xs false else .u
    | _ => .u
  | .ov id ver off len => match H[id]? with
    | some (.row _ t xs v _ _ _) => if ver = v then .sl t ((xs.drop off).take len) false else .u
    | _ => .u
  | .cs id len 1 => match loadC H id len with
    | some l => match intsOf l with
      | some xs => .sl .int xs false
      | none => .cs id len 1
    | none => .cs id len 1
  | v => v
where
  intsOf : List V → Option (List Int)
    | [] => some []
    | .i .i64 n :: r => match intsOf r with | some l => some (n :: l) | none => none
    | _ :: _ => none

/-- The same, of what isn't to be kept as a part of a variable. -/
def fz0 (H : List Ob) : V → V
  | .cs id len esz => .cs id len esz
  | v => fz1 H v

def fz2 (H : List Ob) : V → V
  | .agg cs => .agg (cs.map (fz1 H))
  | v => fz1 H v

def fz (H : List Ob) : V → V
  | .tup vs => .tup (vs.map (fz2 H))
  | v => fz2 H v

/-- The rows of one's own that a value tells. -/
def rows1 : V → List Nat
  | .o id _ => [id]
  | .ov id _ _ _ => [id]
  | _ => []
def rows2 : V → List Nat
  | .agg cs => cs.flatMap rows1
  | v => rows1 v

def views2 : V → Lg
  | .agg cs => cs.flatMap views1
  | v => views1 v
where
  views1 : V → Lg
    | .o id _ => [⟨false, id, 1⟩]
    | .ov id _ _ _ => [⟨false, id, 1⟩]
    | .cs id len esz => [⟨false, id, len * esz⟩]
    | _ => []

/-- The cells that a value tells as a slice. -/
def kills2 : V → List (Nat × Nat)
  | .agg cs => cs.flatMap kills1
  | v => kills1 v
where
  kills1 : V → List (Nat × Nat)
    | .cs id len esz => [(id, len * esz)]
    | _ => []

def killAt : List Ob → Nat → Nat → List Ob
  | [], _, _ => []
  | o :: H, 0, 0 => o :: H
  | _ :: H, 0, n + 1 => .dead :: killAt H 0 n
  | o :: H, id + 1, n => o :: killAt H id n

def killAll : List Ob → List (Nat × Nat) → List Ob
  | H, [] => H
  | H, (id, n) :: r => killAll (killAt H id n) r

def freezeAt : List Ob → Nat → List Ob
  | [], _ => []
  | .row e t xs ver _ _ nz :: H, 0 => .row e t xs ver false false nz :: H
  | o :: H, 0 => o :: H
  | o :: H, n + 1 => o :: freezeAt H n

def freezeAll : List Ob → List Nat → List Ob
  | H, [] => H
  | H, id :: r => freezeAll (freezeAt H id) r

def verOf (H : List Ob) (id : Nat) : Option Nat :=
  match H[id]? with
  | some (.row _ _ _ ver _ _ _) => some ver
  | _ => none

def newVer (base id ver : Nat) : Nat := if base ≤ id then 0 else ver

def sub1 (H : List Ob) (base n : Nat) : V → V
  | .p id k => if id + k ≤ n then .p id k else .u
  | .pr id ver ix off => if id < n ∧ verOf H id = some ver then .pr id (newVer base id ver) ix off else .u
  | .o id ver => if id < n ∧ verOf H id = some ver then .o id (newVer base id ver) else .u
  | .ov id ver off len => if id < n ∧ verOf H id = some ver then .ov id (newVer base id ver) off len else .u
  | .cs id len esz => if id + len * esz ≤ n then .cs id len esz else .u
  | .m id => if id < n then .m id else .u
  | .f fn [] [] => .f fn [] []
  | .f _ _ _ => .u
  | .agg _ => .u
  | .tup _ => .u
  | .ifc _ _ => .u
  | v => v

/-- A value without what was made behind the first n objects, of rows as they are now; what was made from base on counts anew. -/
def scrub (H : List Ob) (base n : Nat) : V → V
  | .agg cs => .agg (cs.map (sub1 H base n))
  | .f fn fs cs => .f fn (fs.map (sub1 H base n)) (cs.map (sub1 H base n))
  | v => sub1 H base n v

def scrubOb (H : List Ob) (base n id : Nat) : Ob → Ob
  | .c v => .c (scrub H base n v)
  | .row e t xs ver mu ap _ => .row e t xs (newVer base id ver) mu ap false
  | .map ag es => .map ag (es.map fun e => (e.1, e.2.map (scrub H base n)))
  | o => o

def scrubObs (H : List Ob) (base n : Nat) : Nat → List Ob → List Ob
  | _, [] => []
  | id, o :: r => scrubOb H base n id o :: scrubObs H base n (id + 1) r

def forget : Nat → List Nat → List V → List V
  | _, _, [] => []
  | i, ks, v :: vs => (if ks.contains i then v else .u) :: forget (i + 1) ks vs

/-- A state at a loop's head: what is kept of the temporaries, and the objects that were there when it was come to. -/
def St.cut (ks : List Nat) (base n : Nat) (st : St) : St :=
  ⟨(forget 0 ks st.tm).map (scrub st.H base n), scrubObs st.H base n 0 (st.H.take n), st.lg⟩

/-- Nil slices of one's own: temporaries, and cells from base on, are rows without elements. -/
def St.ownT : List (Nat × Nat × STy) → St → St
  | [], st => st
  | (d, e, t) :: r, st => match st.tm.getD d .u with
    | .nils => St.ownT r ⟨st.tm.set d (.o st.H.length 0), st.H ++ [.row e t [] 0 true true false], st.lg⟩
    | _ => St.ownT r st

def St.ownC (base : Nat) : List (Nat × Nat × STy) → St → St
  | [], st => st
  | (d, e, t) :: r, st => match st.H[base + d]? with
    | some (.c .nils) => St.ownC base r ⟨st.tm, st.H.set (base + d) (.c (.o st.H.length 0)) ++ [.row e t [] 0 true true false], ⟨true, base + d, 1⟩ :: st.lg⟩
    | _ => St.ownC base r st

def w64 (n : Int) : Int := IntKind.i64.wrap n
def band (k : IntKind) (x y : Int) : Int := k.wrap (BitVec.ofInt k.bits x &&& BitVec.ofInt k.bits y).toNat
def bor (k : IntKind) (x y : Int) : Int := k.wrap (BitVec.ofInt k.bits x ||| BitVec.ofInt k.bits y).toNat
def bxor (k : IntKind) (x y : Int) : Int := k.wrap (BitVec.ofInt k.bits x ^^^ BitVec.ofInt k.bits y).toNat
def bandn (k : IntKind) (x y : Int) : Int := k.wrap (BitVec.ofInt k.bits x &&& ~~~ BitVec.ofInt k.bits y).toNat
def shlI (k : IntKind) (x y : Int) : Int := k.wrap (x * 2 ^ (min y.toNat k.bits))
def shrI (k : IntKind) (x y : Int) : Int := x.fdiv (2 ^ (min y.toNat k.bits))

/-- Are two rows of cells the same? (Numbers, bools and strings alone.) -/
def eqCells : List V → List V → Option Bool
  | [], [] => some true
  | .i k x :: r, .i l y :: q => if k = l then (match eqCells r q with | some c => some (x == y && c) | none => none) else none
  | .b x :: r, .b y :: q => match eqCells r q with | some c => some (x == y && c) | none => none
  | .s x :: r, .s y :: q => match eqCells r q with | some c => some (x == y && c) | none => none
  | _, _ => none

/-- Is a value of a zero's kind? -/
def fitZ1 : V → Z → Bool
  | .i .i64 _, .i .i64 => true
  | .i .u16 _, .i .u16 => true
  | .i .u8 _, .i .u8 => true
  | .i .i32 _, .i .i32 => true
  | .b _, .b => true
  | .s _, .s => true
  | _, _ => false

def fitZ : List V → List Z → Bool
  | [], [] => true
  | v :: a, z :: zs => fitZ1 v z && fitZ a zs
  | _, _ => false

def isKind (k l : IntKind) : Bool := match k, l with
  | .i8, .i8 => true | .i16, .i16 => true | .i32, .i32 => true | .i64, .i64 => true | .u8, .u8 => true | .u16, .u16 => true | .u32, .u32 => true | .u64, .u64 => true
  | _, _ => false

def evBin {ρ : Type} (C : Cfg) (op : BinOp) (T : Nat) (x y : V) (K : V → Option ρ) : Option ρ :=
  match x, y with
  | .i k a, .i l b =>
    match op with
    | .shl => brB (decide (0 ≤ b)) (fun _ => K (.i k (shlI k a b))) (fun _ => none)
    | .shr => brB (decide (0 ≤ b)) (fun _ => K (.i k (shrI k a b))) (fun _ => none)
    | _ =>
      if isKind k l then
        match op with
        | .add => K (.i k (k.wrap (a + b)))
        | .sub => K (.i k (k.wrap (a - b)))
        | .mul => K (.i k (k.wrap (a * b)))
        | .quo => brB (decide (b = 0)) (fun _ => none) (fun _ => K (.i k (k.wrap (a.tdiv b))))
        | .rem => brB (decide (b = 0)) (fun _ => none) (fun _ => K (.i k (a.tmod b)))
        | .and => K (.i k (band k a b))
        | .or => K (.i k (bor k a b))
        | .xor => K (.i k (bxor k a b))
        | .andNot => K (.i k (bandn k a b))
        | .eql => K (.b (a == b))
        | .neq => K (.b (a != b))
        | .lss => K (.b (decide (a < b)))
        | .leq => K (.b (decide (a ≤ b)))
        | .gtr => K (.b (decide (a > b)))
        | .geq => K (.b (decide (a ≥ b)))
        | _ => none
      else none
  | .s a, .s b =>
    match op with
    | .eql => K (.b (a == b))
    | .neq => K (.b (!(a == b)))
    | _ => none
  | .b a, .b b =>
    match C.ty T with
    | some ⟨.bool, _, _, _⟩ => match op with
      | .eql => K (.b (a == b))
      | .neq => K (.b (!(a == b)))
      | _ => none
    | _ => none
  | .agg a, .agg b =>
    if C.eqs.contains T then match C.ty T with
    | some ti => if fitZ a ti.zero && fitZ b ti.zero then match eqCells a b with
      | some c => match op with
        | .eql => K (.b c)
        | .neq => K (.b (!c))
        | _ => none
      | none => none
      else none
    | none => none
    else none
  | .fnil, .fnil => match C.ty T with
    | some ⟨.func, _, _, _⟩ => match op with | .eql => K (.b true) | .neq => K (.b false) | _ => none
    | _ => none
  | .f _ _ _, .fnil => match C.ty T with
    | some ⟨.func, _, _, _⟩ => match op with | .eql => K (.b false) | .neq => K (.b true) | _ => none
    | _ => none
  | _, _ => none

def evUn {ρ : Type} (op : UnOp) (x : V) (K : V → Option ρ) : Option ρ :=
  match op, x with
  | .not, .b a => K (.b (!a))
  | .neg, .i k a => K (.i k (k.wrap (0 - a)))
  | _, _ => none

/-- A slice's ends: none, or a number. -/
def endI (d : Int) : Option V → Option Int
  | none => some d
  | some (.i .i64 n) => some n
  | some _ => none

/-- How many cells an element of a slice of a type has. -/
def elSz (C : Cfg) (T : Nat) : Option Nat :=
  match C.ty T with
  | some ⟨.slice e, _, _, _⟩ => match C.ty e with
    | some ti => some ti.size
    | none => none
  | _ => none

def isSl (C : Cfg) (T : Nat) : Bool := match C.ty T with
  | some ⟨.slice _, _, _, _⟩ => true
  | _ => false

def isStr (C : Cfg) (T : Nat) : Bool := match C.ty T with
  | some ⟨.str, _, _, _⟩ => true
  | _ => false

def evSlice {ρ : Type} (C : Cfg) (T : Nat) (x : V) (lo hi mx : Option V) (H : List Ob) (lg : Lg) (K : V → Lg → Option ρ) : Option ρ :=
  match x with
  | .p id k => match C.ty T with
    | some ⟨.arr n e, _, _, _⟩ => match C.ty e, endI 0 lo, endI n hi, mx with
      | some ti, some l, some h, none => if k < n * ti.size then none else brB (decide (0 ≤ l) && decide (l ≤ h) && decide (h ≤ n)) (fun _ => K (.cs (id + l.toNat * ti.size) (h.toNat - l.toNat) ti.size) lg) (fun _ => none)
      | _, _, _, _ => none
    | _ => none
  | .sl t xs ex => if elSz C T ≠ some t.sz then none else match endI 0 lo, endI xs.length hi, mx with
    | some l, some h, none => brB (decide (0 ≤ l) && decide (l ≤ h) && decide (h ≤ xs.length)) (fun _ => K (.sl t ((xs.take h.toNat).drop l.toNat) (match hi with | none => ex | some _ => false)) lg) (fun _ => none)
    | some l, some h, some (.i .i64 m) => if hi.isNone then none else brB (decide (0 ≤ l) && decide (l ≤ h) && decide (h ≤ xs.length) && decide (m = h)) (fun _ => K (.sl t ((xs.take h.toNat).drop l.toNat) true) lg) (fun _ => none)
    | _, _, _ => none
  | .nils => if isSl C T = false ∨ (elSz C T).isNone then none else match endI 0 lo, endI 0 hi, endI 0 mx with
    | some l, some h, some m => if hi.isNone && mx.isSome then none else brB (decide (l = 0) && decide (h = 0) && decide (m = 0)) (fun _ => K .nils lg) (fun _ => none)
    | _, _, _ => none
  | .o id ver => match H[id]? with
    | some (.row _ t xs v _ _ _) => if ver = v ∧ elSz C T = some t.sz then match endI 0 lo, endI xs.length hi, mx with
      | some l, some h, none => brB (decide (0 ≤ l) && decide (l ≤ h) && decide (h ≤ xs.length)) (fun _ => K (.ov id ver l.toNat (h.toNat - l.toNat)) (⟨false, id, 1⟩ :: lg)) (fun _ => none)
      | _, _, _ => none
      else none
    | _ => none
  | .s b => if isStr C T = false then none else match endI 0 lo, endI b.length hi, mx with
    | some l, some h, none => brB (decide (0 ≤ l) && decide (l ≤ h) && decide (h ≤ b.length)) (fun _ => K (.s ((b.take h.toNat).drop l.toNat)) lg) (fun _ => none)
    | _, _, _ => none
  | _ => none

def evIndexAddr {ρ : Type} (C : Cfg) (T : Nat) (x ix : V) (H : List Ob) (lg : Lg) (K : V → Lg → Option ρ) : Option ρ :=
  match ix with
  | .i _ i =>
    match C.ty T with
    | some ⟨.arr n e, _, _, _⟩ => match C.ty e with
      | some ti => match x with
        | .p id m => brI n i (fun k => K (.p (id + k * ti.size) (m - k * ti.size)) lg)
        | .px t y off => brI n i (fun k => K (.px t y (off + k * ti.size)) lg)
        | .pr id ver j off => brI n i (fun k => K (.pr id ver j (off + k * ti.size)) lg)
        | _ => none
      | none => none
    | some ⟨.slice _, _, _, _⟩ => match x with
      | .sl t xs _ => if elSz C T = some t.sz then brO (idx xs i) (fun y => K (.px t y 0) lg) else none
      | .o id ver => match H[id]? with
        | some (.row _ t xs v _ _ _) => if ver = v ∧ elSz C T = some t.sz then brB (decide (0 ≤ i) && decide (i < xs.length)) (fun _ => K (.pr id ver i.toNat 0) (⟨false, id, 1⟩ :: lg)) (fun _ => none) else none
        | _ => none
      | .ov id ver off len => match H[id]? with
        | some (.row _ t _ v _ _ _) => if ver = v ∧ elSz C T = some t.sz then brB (decide (0 ≤ i) && decide (i < len)) (fun _ => K (.pr id ver (off + i.toNat) 0) (⟨false, id, 1⟩ :: lg)) (fun _ => none) else none
        | _ => none
      | .cs id len esz => if esz = 0 then none else if elSz C T = some esz then brI len i (fun k => K (.p (id + k * esz) (len * esz - k * esz)) lg) else none
      | _ => none
    | _ => none
  | _ => none

def evLoad {ρ : Type} (C : Cfg) (T : Nat) (a : V) (H : List Ob) (lg : Lg) (K : V → Lg → Option ρ) : Option ρ :=
  match C.ty T with
  | some ti => match a with
    | .p id k => if k < ti.size then none else match loadC H id ti.size with
      | some l => match mkVal ti.d l with
        | some v => K v (⟨false, id, ti.size⟩ :: lg)
        | none => none
      | none => none
    | .px t y off => match part ti.d ti.size (cellsOf t y) off with
      | some v => K v lg
      | none => none
    | .pr id ver j off => match H[id]? with
      | some (.row _ t xs v _ _ _) => if ver = v then brO (xs[j]?) (fun y => match part ti.d ti.size (cellsOf t y) off with
        | some v => K v (⟨false, id, 1⟩ :: lg)
        | none => none) else none
      | _ => none
    | _ => none
  | none => none

def evStore {ρ : Type} (C : Cfg) (T : Nat) (a v : V) (H : List Ob) (lg : Lg) (K : List Ob → Lg → Option ρ) : Option ρ :=
  match C.ty T, cellsV v with
  | some ti, some vs =>
    if vs.length = ti.size then match a with
      | .p id k => if k < ti.size then none else match storeC H id vs with
        | some H' => K H' (⟨true, id, ti.size⟩ :: lg)
        | none => none
      | .pr id ver j off => match H[id]? with
        | some (.row e t xs v true ap nz) => if ver = v ∧ off + vs.length ≤ t.sz ∧ (vs.flatMap rows1).contains id = false then brO (xs[j]?) (fun y => match ofCells t (splice (cellsOf t y) off (vs.map (fz0 H))) with
          | some z => K (freezeAll (H.set id (.row e t (xs.set j z) v true ap nz)) (vs.flatMap rows1)) (⟨true, id, 1⟩ :: ((vs.flatMap rows1).map (fun r => ⟨true, r, 1⟩) ++ lg))
          | none => none) else none
        | _ => none
      | _ => none
    else none
  | _, _ => none

/-- The elements that are appended or copied, and whether there is one for sure. -/
def srcOf (H : List Ob) (t : STy) : V → Option (List (El t) × Bool × Lg)
  | .o id ver => match H[id]? with
    | some (.row _ u xs v _ _ nz) => if ver = v then match asSl t (.sl u xs false) with
      | some ys => some (ys, nz, [⟨false, id, 1⟩])
      | none => none
      else none
    | _ => none
  | .ov id ver off len => match H[id]? with
    | some (.row _ u xs v _ _ _) => if ver = v then match asSl t (.sl u xs false) with
      | some ys => some ((ys.drop off).take len, false, [⟨false, id, 1⟩])
      | none => none
      else none
    | _ => none
  | v => match asSl t v with
    | some ys => some (ys, false, [])
    | none => none

/-- The most elements that are made at once. -/
def most : Nat := 2 ^ 32

def evAppend {ρ : Type} (C : Cfg) (T : Nat) (s x : V) (H : List Ob) (lg : Lg) (K : V → List Ob → Lg → Option ρ) : Option ρ :=
  match C.ty T with
  | some ⟨.slice e, _, _, _⟩ => match C.sty e, C.ty e with
    | some t, some ti => if ti.size = t.sz ∧ ti.zero.length = t.sz ∧ ti.bytes ≤ 32768 then match srcOf H t x with
      | some (ys, nz, lx) => match s with
        | .nils => brB (decide (ys.length ≤ most)) (fun _ => K (.o H.length 0) (H ++ [.row e t ys 0 true true nz]) (lx ++ lg)) (fun _ => none)
        | .sl u xs true => match asSl t (.sl u xs true) with
          | some xs => brB (decide (xs.length + ys.length ≤ most)) (fun _ => K (.o H.length 0) (H ++ [.row e t (xs ++ ys) 0 nz nz nz]) (lx ++ lg)) (fun _ => none)
          | none => none
        | .o id ver => match H[id]? with
          | some (.row e' u xs v mu true nz0) => if ver = v ∧ e' = e then match asSl t (.sl u xs true) with
            | some xs => brB (decide (xs.length + ys.length ≤ most)) (fun _ => K (.o id (v + 1)) (H.set id (.row e t (xs ++ ys) (v + 1) mu true (nz0 || nz))) (⟨true, id, 1⟩ :: (lx ++ lg))) (fun _ => none)
            | none => none
            else none
          | _ => none
        | _ => none
      | none => none
      else none
    | _, _ => none
  | _ => none

def copyCells : List V → List Int → Option (List V)
  | [], _ => some []
  | .i .i64 n :: cs, xs => match copyCells cs xs.tail with
    | some r => some (.i .i64 (xs.headD n) :: r)
    | none => none
  | _ :: _, _ => none

/-- Elements laid over others, from the first one on. -/
def overlay {α : Type} (ys xs : List α) : List α := ys.take xs.length ++ xs.drop ys.length

def evCopy {ρ : Type} (C : Cfg) (T : Nat) (d x : V) (H : List Ob) (lg : Lg) (K : V → List Ob → Lg → Option ρ) : Option ρ :=
  match d with
  | .o id ver => match H[id]? with
    | some (.row e t xs v true ap nz) => if ver = v ∧ elSz C T = some t.sz then match srcOf H t x with
      | some (ys, _, lx) => K (I (min ys.length xs.length : Nat)) (H.set id (.row e t (overlay ys xs) v true ap nz)) (⟨true, id, 1⟩ :: (lx ++ lg))
      | none => none
      else none
    | _ => none
  | .ov id ver off len => match H[id]? with
    | some (.row e t xs v true ap nz) => if ver = v ∧ elSz C T = some t.sz then match srcOf H t x with
      | some (ys, _, lx) => brB (decide (off + len ≤ xs.length)) (fun _ =>
          K (I (min ys.length len : Nat)) (H.set id (.row e t (xs.take off ++ (ys.take len ++ xs.drop (off + min ys.length len))) v true ap nz)) (⟨true, id, 1⟩ :: (lx ++ lg))) (fun _ => none)
      | none => none
      else none
    | _ => none
  | .cs id len 1 => if elSz C T ≠ some 1 then none else match srcOf H .int x, loadC H id len with
    | some (ys, _, lx), some cs => match copyCells cs ys with
      | some vs => match storeC H id vs with
        | some H' => K (I (min ys.length len : Nat)) H' (⟨true, id, len⟩ :: (lx ++ lg))
        | none => none
      | none => none
    | _, _ => none
  | _ => none

def evLen {ρ : Type} (C : Cfg) (T : Nat) (x : V) (H : List Ob) (lg : Lg) (K : V → Lg → Option ρ) : Option ρ :=
  match x with
  | .nils => if isSl C T then K (I 0) lg else none
  | .sl _ xs _ => if isSl C T then K (I xs.length) lg else none
  | .o id ver => match H[id]? with
    | some (.row _ _ xs v _ _ _) => if ver = v ∧ isSl C T = true then K (I xs.length) (⟨false, id, 1⟩ :: lg) else none
    | _ => none
  | .ov _ _ _ len => if isSl C T then K (I len) lg else none
  | .cs _ len _ => if isSl C T then K (I len) lg else none
  | .s b => if isStr C T then K (I b.length) lg else none
  | _ => none

def mapGet {ρ : Type} (k : Int) : List (Int × List V) → (Option (List V) → Option ρ) → Option ρ
  | [], K => K none
  | (j, v) :: r, K => brB (decide (k = j)) (fun _ => K (some v)) (fun _ => mapGet k r K)

def tmapGet {α : Type} (k : Int) : List (Int × α) → Option α
  | [] => none
  | (j, v) :: r => if k = j then some v else tmapGet k r

def tmapSet {α : Type} (k : Int) (x : α) : List (Int × α) → List (Int × α)
  | [] => [(k, x)]
  | (j, v) :: r => if k = j then (j, x) :: r else (j, v) :: tmapSet k x r

def okV (v : V) (b : Bool) : Bool → V
  | true => .tup [v, .b b]
  | false => v

def lookFin {ρ : Type} (d : TD) (ok : Bool) (id : Nat) (lg : Lg) (K : V → Lg → Option ρ) (l : List V) (b : Bool) : Option ρ := match mkVal d l with
  | some v => K (okV v b ok) (⟨false, id, 1⟩ :: lg)
  | none => none

def evLookup {ρ : Type} (C : Cfg) (T : Nat) (m k : V) (ok : Bool) (H : List Ob) (lg : Lg) (K : V → Lg → Option ρ) : Option ρ :=
  match C.ty T, m, k with
  | some ⟨.map kt e, _, _, _⟩, .m id, .i .i64 n => match C.ty kt, C.ty e with
    | some ⟨.int _, _, _, _⟩, some ti =>
      match H[id]? with
      | some (.map ag es) => if ag ≠ isAgg ti.d then none else mapGet n es (fun r => match r with
        | some l => lookFin ti.d ok id lg K l true
        | none => lookFin ti.d ok id lg K (ti.zero.map Z.v) false)
      | some (.tmap ag t es) => match ofCells t (ti.zero.map Z.v) with
        | some z => if ag = isAgg ti.d then lookFin ti.d ok id lg K (cellsOf t ((tmapGet n es).getD z)) (tmapGet n es).isSome else none
        | none => none
      | _ => none
    | _, _ => none
  | _, _, _ => none

def isAggA : V → Bool
  | .agg _ => true
  | _ => false

/-- A map's entry laid in, if its key stands in it nowhere. -/
def evInsert {ρ : Type} (C : Cfg) (T : Nat) (m k v : V) (H : List Ob) (lg : Lg) (K : List Ob → Lg → Option ρ) : Option ρ :=
  match C.ty T, m, k, cellsV v with
  | some ⟨.map kt e, _, _, _⟩, .m id, .i .i64 n, some l => match C.ty kt, C.ty e, H[id]? with
    | some ⟨.int _, _, _, _⟩, some ti, some (.map ag es) => if ag = isAgg ti.d ∧ ag = isAggA v then mapGet n es (fun r => match r with
      | some _ => none
      | none => K (H.set id (.map ag (es ++ [(n, l)]))) (⟨true, id, 1⟩ :: lg)) else none
    | some ⟨.int _, _, _, _⟩, some ti, some (.tmap ag t es) => if ag = isAgg ti.d ∧ ag = isAggA v ∧ (l.flatMap rows1).contains id = false then match ofCells t (l.map (fz0 H)) with
      | some x => K (freezeAll (H.set id (.tmap ag t (tmapSet n x es))) (l.flatMap rows1)) (⟨true, id, 1⟩ :: ((l.flatMap rows1).map (fun r => ⟨true, r, 1⟩) ++ lg))
      | none => none
      else none
    | _, _, _ => none
  | _, _, _, _ => none

def evBox {ρ : Type} (v : V) (H : List Ob) (K : V → List Ob → Option ρ) : Option ρ :=
  match cellsV v with
  | some cs => K (.p H.length cs.length) (H ++ cs.map Ob.c)
  | none => none

noncomputable def fillParts (C : Cfg) (fs : Nat → Option (Nat × Nat)) (tm : List V) : List V → List (Nat × Operand) → Option (List V)
  | cs, [] => some cs
  | cs, (i, x) :: r => match fs i with
    | some (off, t) => match C.ty t, cellsV (opd tm x) with
      | some ti, some vs => if vs.length = ti.size ∧ off + vs.length ≤ cs.length then fillParts C fs tm (splice cs off vs) r else none
      | _, _ => none
    | none => none

noncomputable def evBuild {ρ : Type} (C : Cfg) (T : Nat) (ps : List (Nat × Operand)) (tm : List V) (K : V → Option ρ) : Option ρ :=
  match C.ty T with
  | some ⟨.struct fs, _, _, z⟩ => if fs.all (fun f => (C.ty f.2).isSome) then match fillParts C (fun i => fs[i]?) tm (z.map Z.v) ps with
    | some cs => K (.agg cs)
    | none => none
    else none
  | some ⟨.arr _ e, _, _, z⟩ => match C.ty e with
    | some ti => match fillParts C (fun i => some (i * ti.size, e)) tm (z.map Z.v) ps with
      | some cs => K (.agg cs)
      | none => none
    | none => none
  | _ => none

noncomputable def elems (t : STy) (tm : List V) (H : List Ob) : Nat → List (Nat × Operand) → Option (List (El t))
  | _, [] => some []
  | i, (j, x) :: r => if i = j then match cellsV (opd tm x) with
      | some vs => match ofCells t (vs.map (fz0 H)), elems t tm H (i + 1) r with
        | some y, some l => some (y :: l)
        | _, _ => none
      | none => none
    else none

noncomputable def rowsOf (tm : List V) (ps : List (Nat × Operand)) : List Nat := ps.flatMap (fun p => rows2 (opd tm p.2))

noncomputable def evBuildSlice {ρ : Type} (C : Cfg) (T len : Nat) (ps : List (Nat × Operand)) (tm : List V) (H : List Ob) (lg : Lg) (K : V → List Ob → Lg → Option ρ) : Option ρ :=
  match C.ty T with
  | some ⟨.slice e, _, _, _⟩ => match C.sty e, C.ty e with
    | some t, some ti => if ti.size = t.sz ∧ len ≤ 1000 ∧ ps.length = len then match elems t tm H 0 ps with
        | some xs => K (.o H.length 0) (freezeAll H (rowsOf tm ps) ++ [.row e t xs 0 true true (len != 0)]) ((rowsOf tm ps).map (fun r => ⟨true, r, 1⟩) ++ lg)
        | none => none
      else none
    | _, _ => none
  | _ => none

def evMake {ρ : Type} (C : Cfg) (T : Nat) (l : V) (H : List Ob) (K : V → List Ob → Option ρ) : Option ρ :=
  match C.ty T, l with
  | some ⟨.slice e, _, _, _⟩, .i .i64 n => match C.sty e, C.ty e with
    | some t, some ti => if ti.size = t.sz ∧ ti.bytes ≤ 65536 then match ofCells t (ti.zero.map Z.v) with
        | some z => brB (decide (0 ≤ n) && decide (n ≤ most)) (fun _ => K (.o H.length 0) (H ++ [.row e t (List.replicate n.toNat z) 0 true true false])) (fun _ => none)
        | none => none
      else none
    | _, _ => none
  | _, _ => none

def sameOpd : Operand → Operand → Bool
  | .tmp a, .tmp b => a == b
  | _, _ => false

def evFieldAddr (C : Cfg) (T : Nat) (x : V) (fd : Nat) : Option V :=
  match C.ty T with
  | some ⟨.struct fs, _, _, _⟩ => match fs[fd]? with
    | some (off, t) => match C.ty t with
      | some ti => if ti.size = 0 then none else match x with
        | .p id k => some (.p (id + off) (k - off))
        | .px t y o => some (.px t y (o + off))
        | .pr id ver j o => some (.pr id ver j (o + off))
        | _ => none
      | none => none
    | none => none
  | _ => none

def evField (C : Cfg) (T : Nat) (x : V) (fd : Nat) : Option V :=
  match C.ty T, x with
  | some ⟨.struct fs, _, _, _⟩, .agg cs => match fs[fd]? with
    | some (off, t) => match C.ty t with
      | some ti => part ti.d ti.size cs off
      | none => none
    | none => none
  | _, _ => none

def evIndex {ρ : Type} (C : Cfg) (T : Nat) (x ix : V) (K : V → Option ρ) : Option ρ :=
  match C.ty T, x, ix with
  | some ⟨.arr n e, _, _, _⟩, .agg cs, .i _ i => match C.ty e with
    | some ti => brI n i (fun k => match part ti.d ti.size cs (k * ti.size) with | some v => K v | none => none)
    | none => none
  | some ⟨.str, _, _, _⟩, .s b, .i _ i => brO (idx b i) (fun c => K (.i .u8 c.toNat))
  | _, _, _ => none

def evConvert {ρ : Type} (C : Cfg) (src dst : Nat) (x : V) (K : V → Option ρ) : Option ρ :=
  match C.ty src, C.ty dst, x with
  | some ⟨.int _, _, _, _⟩, some ⟨.int k, _, _, _⟩, .i _ n => K (.i k (k.wrap n))
  | some ⟨.str, _, _, _⟩, some ⟨.str, _, _, _⟩, .s b => K (.s b)
  | _, _, _ => none

def put (tm : List V) : Option Nat → V → List V
  | some d, v => tm.set d v
  | none, _ => tm

/-- Which way an operation's guard says; what is known of it then. -/
def evGuard {ρ : Type} (ops : Array Oper) (o : Oper) (tm : List V) (yes no : List V → Option ρ) : Option ρ :=
  match o.guard with
  | none => yes tm
  | some (j, want) => match (ops[j]?).bind (·.dst) with
    | some d => match tm.getD d .u with
      | .b x => match want with
        | true => brB x (fun _ => yes (tm.set d (.b true))) (fun _ => no (tm.set d (.b false)))
        | false => brB x (fun _ => no (tm.set d (.b true))) (fun _ => yes (tm.set d (.b false)))
      | .und => no tm
      | _ => none
    | none => none

abbrev CallK (ρ : Type) := Nat → List V → List Ob → Lg → (V → List Ob → Lg → Option ρ) → Option ρ

/-- A call of a function of a number, whose arguments are told as they are. -/
def evCallS {ρ : Type} (C : Cfg) (call : CallK ρ) (g : Nat) (args : List V) (H : List Ob) (lg : Lg) (K : V → List Ob → Lg → Option ρ) : Option ρ :=
  match look g C.specs with
  | some s => match s.run (args.map (fz2 H)) with
    | some o => brO o (fun y =>
      match s.keeps with
      | true => K (s.enc y) (killAll (freezeAll H (args.flatMap rows2)) (args.flatMap kills2)) (((args.flatMap rows2).map fun id => ⟨true, id, 1⟩) ++ (((args.flatMap kills2).map fun p => ⟨true, p.1, p.2⟩) ++ (args.flatMap views2 ++ lg)))
      | false => if plainV (s.enc y) then K (s.enc y) H (args.flatMap views2 ++ lg) else none)
    | none => call g args H lg K
  | none => call g args H lg K

/-- A closure that exchanges the last frame of a core. -/
def evSet {ρ : Type} (args : List V) (H : List Ob) (lg : Lg) (K : V → List Ob → Lg → Option ρ) : Option ρ :=
  match args with
  | [.pr id ver ix 0, .p q k] => if k < 11 then none else match H[id]?, loadC H q 11 with
    | some (.row e .core xs v true ap nz), some l => if ver = v ∧ (l.flatMap rows1).contains id = false then match ofCells .frame (l.map (fz0 H)) with
      | some y => brO (xs[ix]?) (fun c => brB (!c.F.isEmpty && decide (c.F.length ≤ most)) (fun _ => K (.tup []) (freezeAll (H.set id (.row e .core (xs.set ix { c with F := c.F.set (c.F.length - 1) y }) v true ap nz)) (l.flatMap rows1)) (⟨true, id, 1⟩ :: ⟨false, q, 11⟩ :: ((l.flatMap rows1).map (fun r => ⟨true, r, 1⟩) ++ lg))) (fun _ => none))
      | none => none
      else none
    | _, _ => none
  | _ => none

/-- A call of a function of a number: a copy of a slice; room for one; a call that goes one way for each number that an argument may be; any other one. -/
def evCallF {ρ : Type} (C : Cfg) (call : CallK ρ) (g : Nat) (args : List V) (H : List Ob) (lg : Lg) (K : V → List Ob → Lg → Option ρ) : Option ρ :=
  match look g C.clones with
  | some (e, t) => match args with
    | [x] => match srcOf H t x with
      | some (ys, _, lx) => brB (decide (ys.length ≤ most)) (fun _ => K (.o H.length 0) (H ++ [.row e t ys 0 true true false]) (lx ++ lg)) (fun _ => none)
      | none => none
    | _ => none
  | none => match look g C.grows with
    | some (e, t) => match args with
      | [.nils, .i .i64 n] => brB (decide (0 ≤ n) && decide (n ≤ most)) (fun _ => K (.o H.length 0) (H ++ [.row e t [] 0 true true false]) lg) (fun _ => none)
      | _ => none
    | none => match look g C.splits with
      | some (j, m) => match args[j]? with
        | some (.i k n) => brI m n (fun q => evCallS C call g (args.set j (.i k q)) H lg K)
        | _ => none
      | none => if C.sets.contains g then evSet args H lg K else evCallS C call g args H lg K

noncomputable def evOp {ρ : Type} (C : Cfg) (call : CallK ρ) (o : Oper) (tm : List V) (H : List Ob) (lg : Lg) (K : V → List Ob → Lg → Option ρ) : Option ρ :=
  let v (x : Option V) : Option ρ := match x with | some x => K x H lg | none => none
  match o.op with
  | .move x => K (opd tm x) H lg
  | .assign x => K (opd tm x) H lg
  | .pick c a b => match opd tm c with
    | .b x => brB x (fun _ => K (opd tm a) H lg) (fun _ => K (opd tm b) H lg)
    | _ => none
  | .alloc e => match C.ty e with
    | some ti => K (.p H.length ti.zero.length) (H ++ ti.zero.map fun z => Ob.c z.v) lg
    | none => none
  | .box _ x => evBox (opd tm x) H (fun y H => K y H lg)
  | .build t ps => evBuild C t ps.toList tm (fun y => K y H lg)
  | .buildSlice t len ps => evBuildSlice C t len ps.toList tm H lg K
  | .insert t m k x => evInsert C t (opd tm m) (opd tm k) (opd tm x) H lg (fun H lg => K .und H lg)
  | .mapUpdate t m k x => evInsert C t (opd tm m) (opd tm k) (opd tm x) H lg (fun H lg => K .und H lg)
  | .makeMap t none => match C.ty t with
    | some ⟨.map _ e, _, _, _⟩ => match C.ty e with
      | some ti => match C.sty e with
        | some t => K (.m H.length) (H ++ [.tmap (isAgg ti.d) t []]) lg
        | none => K (.m H.length) (H ++ [.map (isAgg ti.d) []]) lg
      | none => none
    | _ => none
  | .load t a => evLoad C t (opd tm a) H lg (fun y lg => K y H lg)
  | .store t a x => evStore C t (opd tm a) (opd tm x) H lg (fun H lg => K .und H lg)
  | .nilCheck x => match opd tm x with
    | .p id k => K (.p id k) H lg
    | .px t y off => K (.px t y off) H lg
    | .pr id ver j off => K (.pr id ver j off) H lg
    | _ => none
  | .binOp op T x y _ => evBin C op T (opd tm x) (opd tm y) (fun z => K z H lg)
  | .unOp op _ x => evUn op (opd tm x) (fun z => K z H lg)
  | .convert a b x => evConvert C a b (opd tm x) (fun z => K z H lg)
  | .makeFunc fn fs cs => K (.f fn (fs.toList.map (opd tm)) (cs.toList.map (opd tm))) H lg
  | .sliceToArrayPointer t x => match C.ty t, opd tm x with
    | some ⟨.arr n _, _, _, _⟩, .cs id len esz => if n ≤ len ∧ 0 < n ∧ 0 < esz then K (.p id (len * esz)) H lg else none
    | _, _ => none
  | .makeSlice t l c => if sameOpd l c then evMake C t (opd tm l) H (fun y H => K y H lg) else none
  | .slice t x lo hi mx => evSlice C t (opd tm x) (lo.map (opd tm)) (hi.map (opd tm)) (mx.map (opd tm)) H lg (fun y lg => K y H lg)
  | .fieldAddr t x fd => v (evFieldAddr C t (opd tm x) fd)
  | .field t x fd => v (evField C t (opd tm x) fd)
  | .indexAddr t x ix => evIndexAddr C t (opd tm x) (opd tm ix) H lg (fun y lg => K y H lg)
  | .index t x ix => evIndex C t (opd tm x) (opd tm ix) (fun y => K y H lg)
  | .lookup t m k ok => evLookup C t (opd tm m) (opd tm k) ok H lg (fun y lg => K y H lg)
  | .extract x ix => match opd tm x with
    | .tup vs => v vs[ix]?
    | _ => none
  | .call c => match c.callee with
    | .builtin .len => match c.args.toList, c.argTypes.toList with
      | [x], [T] => evLen C T (opd tm x) H lg (fun y lg => K y H lg)
      | _, _ => none
    | .builtin .append => match c.args.toList, c.argTypes.toList with
      | [s, x], [T, T'] => if T = T' then evAppend C T (opd tm s) (opd tm x) H lg K else none
      | _, _ => none
    | .builtin .copy => match c.args.toList, c.argTypes.toList with
      | [d, x], [T, T'] => if T ≠ T' then none else evCopy C T (opd tm d) (opd tm x) H lg K
      | _, _ => none
    | .builtin .max => match c.args.toList with
      | [x, y] => match opd tm x, opd tm y with
        | .i k a, .i l b => if isKind k l then K (.i k (if b > a then b else a)) H lg else none
        | _, _ => none
      | _ => none
    | .value f => match opd tm f with
      | .f (.func g) fs cs => evCallF C call g (fs ++ (c.args.toList.map (opd tm) ++ cs)) H lg K
      | _ => none
    | _ => none
  | _ => none

/-- A list, laid out. -/
noncomputable def nfT {α ρ : Type} (l : List α) (k : List α → ρ) : ρ :=
  List.rec (motive := fun _ => (List α → ρ) → ρ) (fun k => k []) (fun a _ ih k => ih (fun l' => k (a :: l'))) l k

/-- A value, laid out. -/
def fcV {ρ : Type} (v : V) (k : V → ρ) : ρ := match v with
  | .u => k .u
  | .und => k .und
  | .b x => k (.b x)
  | .i t n => k (.i t n)
  | .s x => k (.s x)
  | .p id n => k (.p id n)
  | .pnil => k .pnil
  | .px t x off => k (.px t x off)
  | .pr id ver ix off => k (.pr id ver ix off)
  | .nils => k .nils
  | .sl t xs ex => k (.sl t xs ex)
  | .o id ver => k (.o id ver)
  | .ov id ver off len => k (.ov id ver off len)
  | .cs id len esz => k (.cs id len esz)
  | .f fn fs cs => k (.f fn fs cs)
  | .fnil => k .fnil
  | .m id => k (.m id)
  | .mnil => k .mnil
  | .agg cs => k (.agg cs)
  | .tup cs => k (.tup cs)
  | .ifc t v => k (.ifc t v)
  | .ifnil => k .ifnil

noncomputable def putK {ρ : Type} (l : List V) (n : Nat) (v : V) (k : List V → ρ) : ρ :=
  List.rec (motive := fun _ => Nat → (List V → ρ) → ρ) (fun _ k => k []) (fun a l ih n k => Nat.rec (motive := fun _ => ρ) (k (v :: l)) (fun n _ => ih n (fun l' => k (a :: l'))) n) l n k

noncomputable def putO {ρ : Type} (tm : List V) (d : Option Nat) (v : V) (k : List V → ρ) : ρ := match d with
  | some d => putK tm d v k
  | none => k tm

theorem nfT_eq {α ρ : Type} : ∀ (l : List α) (k : List α → ρ), nfT l k = k l
  | [], _ => rfl
  | a :: l, k => nfT_eq l (fun l' => k (a :: l'))

theorem fcV_eq {ρ : Type} (v : V) (k : V → ρ) : fcV v k = k v := by cases v <;> rfl

theorem putK_eq {ρ : Type} : ∀ (l : List V) (n : Nat) (v : V) (k : List V → ρ), putK l n v k = k (l.set n v)
  | [], _, _, _ => rfl
  | _ :: _, 0, _, _ => rfl
  | a :: l, n + 1, v, k => putK_eq l n v (fun l' => k (a :: l'))

theorem putO_eq {ρ : Type} (tm : List V) (d : Option Nat) (v : V) (k : List V → ρ) : putO tm d v k = k (put tm d v) := by
  cases d with
  | none => rfl
  | some d => exact putK_eq tm d v k

/-- May an operation change the heap? -/
def chg : Op → Bool
  | .alloc .. => true
  | .box .. => true
  | .store .. => true
  | .buildSlice .. => true
  | .insert .. => true
  | .mapUpdate .. => true
  | .makeMap .. => true
  | .makeSlice .. => true
  | .call .. => true
  | _ => false

noncomputable def nfIf {α ρ : Type} (b : Bool) (l : List α) (k : List α → ρ) : ρ := match b with
  | true => nfT l k
  | false => k l

theorem nfIf_eq {α ρ : Type} (b : Bool) (l : List α) (k : List α → ρ) : nfIf b l k = k l := by
  cases b with
  | true => exact nfT_eq l k
  | false => rfl

/-- The operations of a region, one behind the other. -/
noncomputable def evOps {ρ : Type} (C : Cfg) (call : CallK ρ) (ops : Array Oper) : List Oper → St → (St → Option ρ) → Option ρ
  | [], st, K => K st
  | o :: r, st, K => evGuard ops o st.tm
      (fun tm => evOp C call o tm st.H st.lg (fun v H lg => fcV v fun v => nfIf (chg o.op) H fun H => putO tm o.dst v fun tm => evOps C call ops r ⟨tm, H, lg⟩ K))
      (fun tm => putO tm o.dst .und fun tm => evOps C call ops r ⟨tm, st.H, st.lg⟩ K)

end Go.AE
