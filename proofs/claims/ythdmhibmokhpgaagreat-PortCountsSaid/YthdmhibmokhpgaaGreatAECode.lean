/- The abstract evaluator, the code: regions whose order is open, blocks, loops, calls, whole functions. -/
import Derived.Test.YthdmhibmokhpgaaGreatAEval
set_option linter.unusedVariables false
set_option linter.unusedSimpArgs false
namespace Go.AE

def isData (e : Edge) : Bool := Region.binds .any e

/-- The operations that stand ahead of each one in whatever order, as bits. -/
def predsOf (acc : List Nat) : List Edge → Nat
  | [] => 0
  | e :: r => if isData e then 2 ^ e.on ||| (acc.getD e.on 0 ||| predsOf acc r) else predsOf acc r

def preds : List Nat → List Oper → List Nat
  | acc, [] => acc
  | acc, o :: r => preds (acc ++ [predsOf acc o.after.toList]) r

def meets (a b : Acc) : Bool := (a.w || b.w) && decide (a.id < b.id + b.n) && decide (b.id < a.id + a.n)

def clash : Lg → Lg → Bool
  | [], _ => false
  | a :: r, l => l.any (meets a) || clash r l

def tmpsOf : List Operand → List Nat
  | [] => []
  | .tmp t :: r => t :: tmpsOf r
  | _ :: r => tmpsOf r

def readsOf (ops : Array Oper) (o : Oper) : List Nat :=
  tmpsOf o.op.operands.toList ++ (match o.guard with
    | some (j, _) => match (ops[j]?).bind (·.dst) with | some d => [d] | none => []
    | none => [])

def tmpApart (ops : Array Oper) (a b : Oper) : Bool :=
  (match a.dst with
    | some d => !(readsOf ops b).contains d && (match b.dst with | some c => c != d | none => true)
    | none => true) &&
  (match b.dst with
    | some d => !(readsOf ops a).contains d
    | none => true)

/-- Is the j-th operation apart from each one ahead of it that needn't stand ahead of it? -/
def apartFrom (ops : Array Oper) (p : Nat) (o : Oper) (l : Lg) : Nat → List (Oper × Lg) → Bool
  | _, [] => true
  | i, (a, m) :: r => (p.testBit i || (!clash m l && tmpApart ops a o)) && apartFrom ops p o l (i + 1) r

def drawOk (ops : Array Oper) (ps : List Nat) : Nat → List (Oper × Lg) → List (Oper × Lg) → Bool
  | _, _, [] => true
  | j, had, (o, l) :: r => apartFrom ops (ps.getD j 0) o l 0 had && drawOk ops ps (j + 1) (had ++ [(o, l)]) r

/-- What was made counts as written. -/
def made (n n' : Nat) (l : Lg) : Lg := if n = n' then l else ⟨true, n, n' - n⟩ :: l

def edgesOk : Nat → List Oper → Bool
  | _, [] => true
  | j, o :: r => o.after.toList.all (fun e => !isData e || decide (e.on < j)) && edgesOk (j + 1) r

/-- The operations one behind the other, each with what it touched. -/
noncomputable def evOpsD {ρ : Type} (C : Cfg) (call : CallK ρ) (ops : Array Oper) : List Oper → St → List (Oper × Lg) → (St → List (Oper × Lg) → Option ρ) → Option ρ
  | [], st, acc, K => K st acc
  | o :: r, st, acc, K => evGuard ops o st.tm
      (fun tm => evOp C call o tm st.H [] (fun v H lg => fcV v fun v => nfIf (chg o.op) H fun H => putO tm o.dst v fun tm => evOpsD C call ops r ⟨tm, H, lg ++ st.lg⟩ (acc ++ [(o, made st.H.length H.length lg)]) K))
      (fun tm => putO tm o.dst .und fun tm => evOpsD C call ops r ⟨tm, st.H, st.lg⟩ (acc ++ [(o, [])]) K)

noncomputable def evDraw {ρ : Type} (C : Cfg) (call : CallK ρ) (ops : Array Oper) (st : St) (K : St → Option ρ) : Option ρ :=
  evOpsD C call ops ops.toList st [] (fun st' l => match edgesOk 0 ops.toList && drawOk ops (preds [] ops.toList) 0 [] l with
    | true => K st'
    | false => none)

def weakH (hs : List Nat) : Nat → List Ob → List Ob
  | _, [] => []
  | i, o :: r => (if hs.contains i then o else match o with | .c _ => .c .u | _ => .dead) :: weakH hs (i + 1) r

/-- A state of which some temporaries and some objects are kept. -/
def St.weak (ks hs : List Nat) (st : St) : St := ⟨forget 0 ks st.tm, weakH hs 0 st.H, st.lg⟩

/-- The spec of a loop that reads a state. -/
def loopAt (f id base : Nat) : List (Nat × Nat × LSpec) → St → Option ((L : LSpec) × Option (L.A ⊕ L.B))
  | [], _ => none
  | (g, j, L) :: r, st => if f = g ∧ id = j ∧ base = L.base then (match L.run st with | some o => some ⟨L, o⟩ | none => loopAt f id base r st) else loopAt f id base r st

/-- A loop counts as one that writes all objects. -/
def St.noted (st : St) : St := ⟨st.tm, st.H, ⟨true, 0, st.H.length⟩ :: st.lg⟩

abbrev BodyK (ρ : Type) := St → (Ex → St → Option ρ) → Option ρ

/-- A loop, at most so many rounds. -/
def iter {ρ : Type} (ks : List Nat) (base n : Nat) (body : BodyK ρ) (K : Ex → St → Option ρ) : Nat → St → Option ρ
  | 0, _ => none
  | k + 1, st => body st (fun e st' => match e with
      | .normal => iter ks base n body K k (st'.cut ks base n)
      | e => K e st')

/-- A loop, at most so many rounds, as they are. -/
def unroll {ρ : Type} (body : BodyK ρ) (K : Ex → St → Option ρ) : Nat → St → Option ρ
  | 0, _ => none
  | k + 1, st => body st (fun e st' => match e with
      | .normal => unroll body K k st'
      | e => K e st')

def resultsOf (C : Cfg) (H : List Ob) (tm : List V) : List ResultVar → Option (List V)
  | [] => some []
  | .tmp t :: r => match resultsOf C H tm r with
    | some l => some (tm.getD t .und :: l)
    | none => none
  | .cell a T :: r => match tm.getD a .und, C.ty T with
    | .p id k, some ti => if k < ti.size then none else match loadC H id ti.size with
      | some cs => match mkVal ti.d cs, resultsOf C H tm r with
        | some v, some l => some (v :: l)
        | _, _ => none
      | none => none
    | _, _ => none

def resultReads (C : Cfg) (tm : List V) : List ResultVar → Lg
  | [] => []
  | .tmp _ :: r => resultReads C tm r
  | .cell a T :: r => match tm.getD a .und, C.ty T with
    | .p id _, some ti => ⟨false, id, ti.size⟩ :: resultReads C tm r
    | _, _ => resultReads C tm r

def tuple : List V → V
  | [v] => v
  | vs => .tup vs

def pad (n : Nat) (args : List V) : List V := args ++ List.replicate (n - args.length) .und

/-- What a function hands back. -/
def evRet {ρ : Type} (C : Cfg) (fn : Func) (st : St) (K : V → List Ob → Lg → Option ρ) : Option ρ :=
  match resultsOf C st.H st.tm fn.results.toList with
  | some vs => K (tuple vs) st.H (resultReads C st.tm fn.results.toList ++ st.lg)
  | none => none

mutual
/-- Code of function f, at most so deep. -/
noncomputable def evC {ρ : Type} (C : Cfg) (f base : Nat) : Nat → Code → St → (Ex → St → Option ρ) → Option ρ
  | 0, _, _, _ => none
  | d + 1, c, st, K => match c with
    | .skip => K .normal st
    | .label _ => K .normal st
    | .region _ ops false => evOps C (evCall C d) ops ops.toList st (fun st => K .normal st)
    | .region _ ops true => evDraw C (evCall C d) ops st (fun st => K .normal st)
    | .seq a b => evC C f base d a st (fun e st => match e with
      | .normal => evC C f base d b st K
      | e => K e st)
    | .cond x a b => match opd st.tm x with
      | .b y => brB y (fun _ => evC C f base d a st K) (fun _ => evC C f base d b st K)
      | _ => none
    | .block id (.loop body) =>
      let out (e : Ex) (st : St) : Option ρ := match e with
        | .exit j => if j = id then K .normal st else K (.exit j) st
        | e => K e st
      match look2 f id C.keep with
      | some (ks, ot, oc) =>
        let st := St.ownC base oc (St.ownT ot st)
        match loopAt f id base C.loops (st.cut ks base st.H.length) with
        | some ⟨L, o⟩ => brO o (fun y => brS y
            (fun a => match Nat.ble base (L.encA a).H.length with | true => nfT (L.encA a).tm fun tm => nfT (L.encA a).H fun H => out L.exA ⟨tm, H, ⟨true, 0, st.H.length⟩ :: st.lg⟩ | false => none)
            (fun b => match Nat.ble base (L.encB b).H.length with | true => nfT (L.encB b).tm fun tm => nfT (L.encB b).H fun H => out L.exB ⟨tm, H, ⟨true, 0, st.H.length⟩ :: st.lg⟩ | false => none))
        | none => iter ks base st.H.length (evC C f base d body) out C.N (St.noted (st.cut ks base st.H.length))
      | none => unroll (evC C f base d body) out 100 st
    | .block id a => evC C f base d a st (fun e st => match e with
      | .exit j => if j = id then K .normal st else K (.exit j) st
      | e => K e st)
    | .exit id => K (.exit id) st
    | .goto l => K (.goto l) st
    | .ret => K .ret st
    | .scope a => evScope C f base d a a st K
    | _ => none
termination_by structural d => d
/-- A body with labels, from a piece of it on. -/
noncomputable def evScope {ρ : Type} (C : Cfg) (f base : Nat) : Nat → Code → Code → St → (Ex → St → Option ρ) → Option ρ
  | 0, _, _, _, _ => none
  | d + 1, a, c, st, K => evC C f base d c st (fun e st => match e with
    | .goto l => match findLabel a l with
      | some c' => evScope C f base d a c' st K
      | none => K (.goto l) st
    | e => K e st)
termination_by structural d => d
/-- A call of a function, in place. -/
noncomputable def evCall {ρ : Type} (C : Cfg) : Nat → Nat → List V → List Ob → Lg → (V → List Ob → Lg → Option ρ) → Option ρ
  | 0, _, _, _, _, _ => none
  | d + 1, g, args, H, lg, K => match look g C.fns with
    | some fn => match fn.body with
      | some c => nfT (pad fn.ntmps args) fun tm => evC C g H.length d c ⟨tm, H, lg⟩ (fun e st => match e with
        | .normal => evRet C fn st K
        | .ret => evRet C fn st K
        | _ => none)
      | none => none
    | none => none
termination_by structural d => d
end

/-- A function's answer, read off. -/
noncomputable def evFn {ρ : Type} (C : Cfg) (d : Nat) (g : Nat) (args : List V) (fin : V → Option ρ) : Option ρ :=
  evCall C d g args [] [] (fun v H _ => fin (fz H v))

end Go.AE
