/- Loops: the shape of a state and its leaves; a loop's rounds as a plain iteration. -/
import Derived.Test.YthdmhibmokhpgaaGreatAECode
set_option linter.unusedVariables false
set_option linter.unusedSimpArgs false
namespace Go.AE

/-- A leaf of a state. -/
inductive Lf where
  | n (x : Nat) | i (x : Int) | b (x : Bool) | s (x : List UInt8) | l (t : STy) (xs : List (El t)) | e (t : STy) (x : El t) | m (t : STy) (es : List (Int × El t))

/-- The kind of a leaf. -/
inductive LfK where
  | n | i | b | s | l (t : STy) | e (t : STy) | m (t : STy)

def LfTy : LfK → Type
  | .n => Nat
  | .i => Int
  | .b => Bool
  | .s => List UInt8
  | .l t => List (El t)
  | .e t => El t
  | .m t => List (Int × El t)

def TupC : LfK → List LfK → Type
  | k, [] => LfTy k
  | k, q :: r => LfTy k × TupC q r

/-- Leaves of so many kinds, as a tuple. -/
def Tup : List LfK → Type
  | [] => Unit
  | k :: r => TupC k r

/-- The shape of a value without parts. -/
inductive Pt where
  | u | und | b | i (k : IntKind) | s | p (id n : Nat) | pnil | px (t : STy) (off : Nat) | pr (id ver off : Nat) | nils | sl (t : STy) (ex : Bool) | o (id ver : Nat) | ov (id ver : Nat)
  | cs (id len esz : Nat) | fn (g : Nat) | fnil | m (id : Nat) | ifnil

/-- The shape of a value. -/
inductive Ps where
  | one (x : Pt) | agg (xs : List Pt) | f (g : Nat) (fs cs : List Pt)

/-- The shape of an object. -/
inductive Po where
  | c (x : Ps) | row (e : Nat) (t : STy) (ver : Nat) (mu ap nz : Bool) | tmap (ag : Bool) (t : STy) | dead

def beqB : Bool → Bool → Bool
  | true, true => true
  | false, false => true
  | _, _ => false

def STy.eq : STy → STy → Bool
  | .int, .int => true | .u16, .u16 => true | .bool, .bool => true | .str, .str => true | .frame, .frame => true | .core, .core => true | .ev, .ev => true | .call, .call => true
  | .calls, .calls => true | .past, .past => true | .thread, .thread => true | .step, .step => true | .move, .move => true | .pair, .pair => true | .ints, .ints => true
  | _, _ => false

def mt1 : Pt → V → Option (List Lf)
  | .u, .u => some []
  | .und, .und => some []
  | .b, .b x => some [.b x]
  | .i k, .i l x => if isKind k l then some [.i x] else none
  | .s, .s x => some [.s x]
  | .p id n, .p j m => if id = j ∧ n = m then some [] else none
  | .pnil, .pnil => some []
  | .px t off, .px u x off' => if STy.eq t u && off == off' then some [.e u x] else none
  | .pr id ver off, .pr j ver' ix off' => if id = j ∧ ver = ver' ∧ off = off' then some [.n ix] else none
  | .nils, .nils => some []
  | .sl t ex, .sl u xs ex' => if STy.eq t u && beqB ex ex' then some [.l u xs] else none
  | .o id ver, .o j ver' => if id = j ∧ ver = ver' then some [] else none
  | .ov id ver, .ov j ver' off len => if id = j ∧ ver = ver' then some [.n off, .n len] else none
  | .cs id len esz, .cs j len' esz' => if id = j ∧ len = len' ∧ esz = esz' then some [] else none
  | .fn g, .f (.func h) [] [] => if g = h then some [] else none
  | .fnil, .fnil => some []
  | .m id, .m j => if id = j then some [] else none
  | .ifnil, .ifnil => some []
  | _, _ => none

def mts : List Pt → List V → Option (List Lf)
  | [], [] => some []
  | p :: ps, v :: vs => match mt1 p v, mts ps vs with
    | some l, some r => some (l ++ r)
    | _, _ => none
  | _, _ => none

def mt : Ps → V → Option (List Lf)
  | .one p, v => mt1 p v
  | .agg ps, .agg vs => mts ps vs
  | .f g fs cs, .f (.func h) fs' cs' => if g = h then match mts fs fs', mts cs cs' with
    | some l, some r => some (l ++ r)
    | _, _ => none
    else none
  | _, _ => none

def mtT : List Ps → List V → Option (List Lf)
  | [], [] => some []
  | p :: ps, v :: vs => match mt p v, mtT ps vs with
    | some l, some r => some (l ++ r)
    | _, _ => none
  | _, _ => none

def mtO : Po → Ob → Option (List Lf)
  | .c p, .c v => mt p v
  | .row e t ver mu ap nz, .row e' u xs ver' mu' ap' nz' => if STy.eq t u && (e == e' && (ver == ver' && (beqB mu mu' && (beqB ap ap' && beqB nz nz')))) then some [.l u xs] else none
  | .tmap ag t, .tmap ag' u es => if STy.eq t u && beqB ag ag' then some [.m u es] else none
  | .dead, .dead => some []
  | _, _ => none

def mtH : List Po → List Ob → Option (List Lf)
  | [], [] => some []
  | p :: ps, v :: vs => match mtO p v, mtH ps vs with
    | some l, some r => some (l ++ r)
    | _, _ => none
  | _, _ => none

/-- The leaves of a state of a shape. -/
def mtSt (ps : List Ps) (os : List Po) (st : St) : Option (List Lf) :=
  match mtT ps st.tm, mtH os st.H with
  | some l, some r => some (l ++ r)
  | _, _ => none

def us (n : Nat) : List Ps := List.replicate n (.one .u)

def mk1 : Pt → List Lf → V × List Lf
  | .u, l => (.u, l)
  | .und, l => (.und, l)
  | .b, .b x :: l => (.b x, l)
  | .i k, .i x :: l => (.i k x, l)
  | .s, .s x :: l => (.s x, l)
  | .p id n, l => (.p id n, l)
  | .pnil, l => (.pnil, l)
  | .px _ off, .e t x :: l => (.px t x off, l)
  | .pr id ver off, .n ix :: l => (.pr id ver ix off, l)
  | .nils, l => (.nils, l)
  | .sl _ ex, .l t xs :: l => (.sl t xs ex, l)
  | .o id ver, l => (.o id ver, l)
  | .ov id ver, .n off :: .n len :: l => (.ov id ver off len, l)
  | .cs id len esz, l => (.cs id len esz, l)
  | .fn g, l => (.f (.func g) [] [], l)
  | .fnil, l => (.fnil, l)
  | .m id, l => (.m id, l)
  | .ifnil, l => (.ifnil, l)
  | _, l => (.u, l)

def mks : List Pt → List Lf → List V × List Lf
  | [], l => ([], l)
  | p :: ps, l => ((mk1 p l).1 :: (mks ps (mk1 p l).2).1, (mks ps (mk1 p l).2).2)

def mk : Ps → List Lf → V × List Lf
  | .one p, l => mk1 p l
  | .agg ps, l => (.agg (mks ps l).1, (mks ps l).2)
  | .f g fs cs, l => (.f (.func g) (mks fs l).1 (mks cs (mks fs l).2).1, (mks cs (mks fs l).2).2)

def mkT : List Ps → List Lf → List V × List Lf
  | [], l => ([], l)
  | p :: ps, l => ((mk p l).1 :: (mkT ps (mk p l).2).1, (mkT ps (mk p l).2).2)

def mkO : Po → List Lf → Ob × List Lf
  | .c p, l => (.c (mk p l).1, (mk p l).2)
  | .row e _ ver mu ap nz, .l t xs :: l => (.row e t xs ver mu ap nz, l)
  | .row _ _ _ _ _ _, l => (.dead, l)
  | .tmap ag _, .m t es :: l => (.tmap ag t es, l)
  | .tmap _ _, l => (.dead, l)
  | .dead, l => (.dead, l)

def mkH : List Po → List Lf → List Ob × List Lf
  | [], l => ([], l)
  | p :: ps, l => ((mkO p l).1 :: (mkH ps (mkO p l).2).1, (mkH ps (mkO p l).2).2)

/-- The state of a shape, of these leaves. -/
def mkSt (ps : List Ps) (os : List Po) (l : List Lf) : St :=
  ⟨(mkT ps l).1, (mkH os (mkT ps l).2).1, []⟩

theorem isKind_eq {k l : IntKind} (h : isKind k l = true) : k = l := by cases k <;> cases l <;> first | rfl | (simp [isKind] at h)
theorem STy.eq_eq {k l : STy} (h : STy.eq k l = true) : k = l := by cases k <;> cases l <;> first | rfl | (simp [STy.eq] at h)
theorem beqB_eq {a b : Bool} (h : beqB a b = true) : a = b := by cases a <;> cases b <;> first | rfl | (simp [beqB] at h)

theorem mk1_mt1 {p : Pt} {v : V} {l : List Lf} (h : mt1 p v = some l) (r : List Lf) : mk1 p (l ++ r) = (v, r) := by
  unfold mt1 at h
  split at h <;> first
    | (injection h with h; subst h; rfl)
    | (split at h
       · rename_i hc
         injection h with h
         subst h
         first
           | (obtain rfl := hc; rfl)
           | (obtain ⟨rfl, rfl⟩ := hc; rfl)
           | (obtain ⟨rfl, rfl, rfl⟩ := hc; rfl)
           | (obtain rfl := isKind_eq hc; rfl)
           | (simp only [Bool.and_eq_true, beq_iff_eq] at hc; obtain ⟨hc, rfl⟩ := hc; obtain rfl := STy.eq_eq hc; rfl)
           | (simp only [Bool.and_eq_true] at hc; obtain ⟨hc, hd⟩ := hc; obtain rfl := STy.eq_eq hc; obtain rfl := beqB_eq hd; rfl)
       · cases h)
    | cases h

theorem mks_mts : ∀ {ps : List Pt} {vs : List V} {l : List Lf}, mts ps vs = some l → ∀ r, mks ps (l ++ r) = (vs, r)
  | [], [], l, h, r => by simp only [mts, Option.some.injEq] at h; subst h; rfl
  | p :: ps, v :: vs, l, h, r => by
    simp only [mts] at h
    split at h
    · rename_i a b ha hb
      injection h with h
      subst h
      simp only [mks, List.append_assoc, mk1_mt1 ha, mks_mts hb]
    · cases h
  | [], _ :: _, _, h, _ => by simp [mts] at h
  | _ :: _, [], _, h, _ => by simp [mts] at h

theorem mk_mt {p : Ps} {v : V} {l : List Lf} (h : mt p v = some l) (r : List Lf) : mk p (l ++ r) = (v, r) := by
  unfold mt at h
  split at h
  · exact mk1_mt1 h r
  · simp only [mk, mks_mts h]
  · split at h
    · rename_i e
      subst e
      split at h
      · rename_i a b ha hb
        injection h with h
        subst h
        simp only [mk, List.append_assoc, mks_mts ha, mks_mts hb]
      · cases h
    · cases h
  · cases h

theorem mkT_mtT : ∀ {ps : List Ps} {vs : List V} {l : List Lf}, mtT ps vs = some l → ∀ r, mkT ps (l ++ r) = (vs, r)
  | [], [], l, h, r => by simp only [mtT, Option.some.injEq] at h; subst h; rfl
  | p :: ps, v :: vs, l, h, r => by
    simp only [mtT] at h
    split at h
    · rename_i a b ha hb
      injection h with h
      subst h
      simp only [mkT, List.append_assoc, mk_mt ha, mkT_mtT hb]
    · cases h
  | [], _ :: _, _, h, _ => by simp [mtT] at h
  | _ :: _, [], _, h, _ => by simp [mtT] at h

theorem mkO_mtO {p : Po} {v : Ob} {l : List Lf} (h : mtO p v = some l) (r : List Lf) : mkO p (l ++ r) = (v, r) := by
  unfold mtO at h
  split at h
  · simp only [mkO, mk_mt h]
  · split at h
    · rename_i hc
      injection h with h
      subst h
      simp only [Bool.and_eq_true, beq_iff_eq] at hc
      obtain ⟨h1, rfl, rfl, h2, h3, h4⟩ := hc
      obtain rfl := STy.eq_eq h1
      obtain rfl := beqB_eq h2
      obtain rfl := beqB_eq h3
      obtain rfl := beqB_eq h4
      rfl
    · cases h
  · split at h
    · rename_i hc
      injection h with h
      subst h
      simp only [Bool.and_eq_true] at hc
      obtain ⟨h1, h2⟩ := hc
      obtain rfl := STy.eq_eq h1
      obtain rfl := beqB_eq h2
      rfl
    · cases h
  · injection h with h
    subst h
    rfl
  · cases h

theorem mkH_mtH : ∀ {ps : List Po} {vs : List Ob} {l : List Lf}, mtH ps vs = some l → ∀ r, mkH ps (l ++ r) = (vs, r)
  | [], [], l, h, r => by simp only [mtH, Option.some.injEq] at h; subst h; rfl
  | p :: ps, v :: vs, l, h, r => by
    simp only [mtH] at h
    split at h
    · rename_i a b ha hb
      injection h with h
      subst h
      simp only [mkH, List.append_assoc, mkO_mtO ha, mkH_mtH hb]
    · cases h
  | [], _ :: _, _, h, _ => by simp [mtH] at h
  | _ :: _, [], _, h, _ => by simp [mtH] at h

/-- A state of a shape is made again of its leaves. -/
theorem mkSt_mtSt {ps : List Ps} {os : List Po} {st : St} {l : List Lf} (h : mtSt ps os st = some l) : (mkSt ps os l).tm = st.tm ∧ (mkSt ps os l).H = st.H := by
  unfold mtSt at h
  split at h
  · rename_i a b ha hb
    injection h with h
    subst h
    have e := mkH_mtH hb []
    rw [List.append_nil] at e
    simp only [mkSt, mkT_mtT ha, e, and_self]
  · cases h

def castS (F : STy → Type) : (t u : STy) → F u → Option (F t)
  | .int, .int, x => some x
  | .u16, .u16, x => some x
  | .bool, .bool, x => some x
  | .str, .str, x => some x
  | .frame, .frame, x => some x
  | .core, .core, x => some x
  | .ev, .ev, x => some x
  | .call, .call, x => some x
  | .calls, .calls, x => some x
  | .past, .past, x => some x
  | .thread, .thread, x => some x
  | .step, .step, x => some x
  | .move, .move, x => some x
  | .pair, .pair, x => some x
  | .ints, .ints, x => some x
  | _, _, _ => none

theorem castS_some {F : STy → Type} {t u : STy} {x : F u} {y : F t} (h : castS F t u x = some y) : ∃ e : u = t, e ▸ x = y := by
  cases t <;> cases u <;> first | (injection h with h; exact ⟨rfl, h⟩) | (cases h)

def toLf : (k : LfK) → Lf → Option (LfTy k)
  | .n, .n x => some x
  | .i, .i x => some x
  | .b, .b x => some x
  | .s, .s x => some x
  | .l t, .l u x => castS (fun t => List (El t)) t u x
  | .e t, .e u x => castS El t u x
  | .m t, .m u x => castS (fun t => List (Int × El t)) t u x
  | _, _ => none

def ofLf : (k : LfK) → LfTy k → Lf
  | .n, x => .n x
  | .i, x => .i x
  | .b, x => .b x
  | .s, x => .s x
  | .l t, x => .l t x
  | .e t, x => .e t x
  | .m t, x => .m t x

def toTupC : (k : LfK) → (r : List LfK) → List Lf → Option (TupC k r)
  | k, [], l => match l with
    | [x] => toLf k x
    | _ => none
  | k, q :: r, l => match l with
    | x :: l => match toLf k x with
      | some a => match toTupC q r l with
        | some b => some (a, b)
        | none => none
      | none => none
    | [] => none

def toTup : (ks : List LfK) → List Lf → Option (Tup ks)
  | [], l => match l with
    | [] => some ()
    | _ => none
  | k :: r, l => toTupC k r l

def ofTupC : (k : LfK) → (r : List LfK) → TupC k r → List Lf
  | k, [], x => [ofLf k x]
  | k, q :: r, x => ofLf k x.1 :: ofTupC q r x.2

def ofTup : (ks : List LfK) → Tup ks → List Lf
  | [], _ => []
  | k :: r, x => ofTupC k r x

theorem ofLf_toLf {k : LfK} {x : Lf} {y : LfTy k} (h : toLf k x = some y) : ofLf k y = x := by
  cases k <;> cases x <;> first
    | (injection h with h; subst h; rfl)
    | (obtain ⟨e, h⟩ := castS_some h; subst e; subst h; rfl)
    | (cases h)

theorem ofTupC_toTupC : ∀ {r : List LfK} {k : LfK} {l : List Lf} {x : TupC k r}, toTupC k r l = some x → ofTupC k r x = l
  | [], k, l, y, h => by
    match l, h with
    | [], h => cases h
    | [x], h =>
      have h : toLf k x = some y := h
      show [ofLf k y] = _
      rw [ofLf_toLf h]
    | _ :: _ :: _, h => cases h
  | q :: r, k, l, y, h => by
    match l, h with
    | [], h => cases h
    | x :: l, h =>
      have h : (match toLf k x with
        | some a => match toTupC q r l with
          | some b => some (a, b)
          | none => none
        | none => none) = some y := h
      cases ha : toLf k x with
      | none => rw [ha] at h; cases h
      | some a =>
        rw [ha] at h
        cases hb : toTupC q r l with
        | none => rw [hb] at h; cases h
        | some b =>
          rw [hb] at h
          injection h with h
          subst h
          show ofLf k a :: ofTupC q r b = _
          rw [ofLf_toLf ha, ofTupC_toTupC hb]

theorem ofTup_toTup {ks : List LfK} {l : List Lf} {x : Tup ks} (h : toTup ks l = some x) : ofTup ks x = l := by
  cases ks with
  | nil =>
    match l, h with
    | [], _ => rfl
    | _ :: _, h => cases h
  | cons k r => exact ofTupC_toTupC h

/-- A tree of types. -/
inductive TyTree where
  | nil | leaf (x : TI) | node (a b : TyTree)

def TyTree.get : TyTree → Nat → Nat → Option TI
  | .nil, _, _ => none
  | .leaf x, 0, t => if t = 0 then some x else none
  | .leaf _, _ + 1, _ => none
  | .node _ _, 0, _ => none
  | .node a b, n + 1, t => if t % 2 = 0 then a.get n (t / 2) else b.get n (t / 2)

/-- The body of the loop in block so-and-so of a piece of code. -/
def loopIn (id : Nat) : Code → Option Code
  | .seq a b => match loopIn id a with | some c => some c | none => loopIn id b
  | .cond _ a b => match loopIn id a with | some c => some c | none => loopIn id b
  | .block j (.loop c) => if j = id then some c else loopIn id c
  | .block _ a => loopIn id a
  | .loop a => loopIn id a
  | .scope a => loopIn id a
  | _ => none

def loopBody (fn : Func) (id : Nat) : Code := match fn.body with
  | some c => (loopIn id c).getD .skip
  | none => .skip

/-- So many rounds at most. -/
def natIter {α ρ : Type} (step : (α → Option ρ) → α → Option ρ) : Nat → α → Option ρ
  | 0, _ => none
  | k + 1, x => step (natIter step k) x

end Go.AE
