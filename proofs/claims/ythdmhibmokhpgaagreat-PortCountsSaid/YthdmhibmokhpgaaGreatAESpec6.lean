/- What the printed proofs of specs use: blocks' numbers, tables. -/
import Derived.Test.YthdmhibmokhpgaaGreatAESpec5
set_option linter.unusedVariables false
set_option linter.unusedSimpArgs false
namespace Go.AE

variable {P : Program} {C : Cfg}

/-- All loops of a piece of code, with their blocks' numbers. -/
def loopsOf : Code → List (Nat × Code)
  | .seq a b => loopsOf a ++ loopsOf b
  | .cond _ a b => loopsOf a ++ loopsOf b
  | .block j (.loop c) => (j, c) :: loopsOf c
  | .block _ a => loopsOf a
  | .loop a => loopsOf a
  | .scope a => loopsOf a
  | _ => []

theorem look_append {α : Type} (k : Nat) : ∀ (l r : List (Nat × α)), look k (l ++ r) = (match look k l with | some c => some c | none => look k r)
  | [], r => rfl
  | (j, a) :: l, r => by
    simp only [List.cons_append, look]
    split
    · rfl
    · exact look_append k l r

theorem loopsOf_block {id : Nat} {c : Code} (h : ∀ b, c ≠ .loop b) : loopsOf (.block id c) = loopsOf c := by
  cases c with
  | loop b => exact absurd rfl (h b)
  | _ => rfl

theorem loopIn_block {id j : Nat} {c : Code} (h : ∀ b, c ≠ .loop b) : loopIn id (.block j c) = loopIn id c := by
  cases c with
  | loop b => exact absurd rfl (h b)
  | _ => rfl

theorem loopIn_look (id : Nat) : ∀ c : Code, loopIn id c = look id (loopsOf c)
  | .seq a b => by simp only [loopIn, loopsOf, look_append, loopIn_look id a, loopIn_look id b]; cases look id (loopsOf a) <;> rfl
  | .cond x a b => by simp only [loopIn, loopsOf, look_append, loopIn_look id a, loopIn_look id b]; cases look id (loopsOf a) <;> rfl
  | .block j c => by
    by_cases h : ∃ b, c = .loop b
    · obtain ⟨b, rfl⟩ := h
      have := loopIn_look id b
      simp only [loopIn, loopsOf, look, this]
      by_cases e : j = id
      · rw [if_pos e, if_pos e.symm]
      · rw [if_neg e, if_neg fun h => e h.symm]
    · have h : ∀ b, c ≠ .loop b := fun b e => h ⟨b, e⟩
      rw [loopIn_block h, loopsOf_block h, loopIn_look id c]
  | .loop a => by simp only [loopIn, loopsOf, loopIn_look id a]
  | .scope a => by simp only [loopIn, loopsOf, loopIn_look id a]
  | .skip => rfl
  | .region .. => rfl
  | .exit .. => rfl
  | .label .. => rfl
  | .goto .. => rfl
  | .ret => rfl
  | .refuse .. => rfl
  | .rangeFunc .. => rfl

theorem LI_of {F : Nat → Option Code} : ∀ c : Code, (∀ p ∈ loopsOf c, F p.1 = some p.2) → LI F c
  | .seq a b, h => ⟨LI_of a fun p hp => h p (List.mem_append_left _ hp), LI_of b fun p hp => h p (List.mem_append_right _ hp)⟩
  | .cond x a b, h => ⟨LI_of a fun p hp => h p (List.mem_append_left _ hp), LI_of b fun p hp => h p (List.mem_append_right _ hp)⟩
  | .block j c, h => by
    cases c with
    | loop b => exact ⟨h (j, b) (by simp [loopsOf]), LI_of b fun p hp => h p (by simp only [loopsOf]; exact List.mem_cons_of_mem _ hp)⟩
    | seq a b => exact LI_of (.seq a b) h
    | cond x a b => exact LI_of (.cond x a b) h
    | block i a => exact LI_of (.block i a) h
    | scope a => exact LI_of a h
    | _ => trivial
  | .loop a, h => LI_of a h
  | .scope a, h => LI_of a h
  | .skip, _ => trivial
  | .region .., _ => trivial
  | .exit .., _ => trivial
  | .label .., _ => trivial
  | .goto .., _ => trivial
  | .ret, _ => trivial
  | .refuse .., _ => trivial
  | .rangeFunc .., _ => trivial

def noTwice : List Nat → Bool
  | [] => true
  | x :: l => !l.contains x && noTwice l

theorem look_mem {α : Type} : ∀ {l : List (Nat × α)}, noTwice (l.map (·.1)) = true → ∀ p ∈ l, look p.1 l = some p.2
  | [], _, p, hp => by cases hp
  | (j, a) :: l, h, p, hp => by
    simp only [List.map_cons, noTwice, Bool.and_eq_true, Bool.not_eq_true', List.contains_eq_mem, decide_eq_false_iff_not] at h
    simp only [look]
    rcases List.mem_cons.1 hp with rfl | hp
    · rw [if_pos rfl]
    · rw [if_neg fun e => h.1 (by rw [← e]; exact List.mem_map_of_mem hp)]
      exact look_mem h.2 p hp

/-- No block's number stands at two loops of a piece of code. -/
def liOk (c : Code) : Bool := noTwice ((loopsOf c).map (·.1))

theorem LI_ok {c : Code} (h : liOk c = true) : LI (fun id => loopIn id c) c := LI_of c fun p hp => by
  show loopIn p.1 c = some p.2
  rw [loopIn_look]
  exact look_mem h p hp

/-- What can be seen of a function by itself. -/
def fnOkB (fn : Func) : Bool := fn.name != "runtime.NumGoroutine" && (match fn.body with | some c => liOk c | none => true)

/-- A function of the program, looked at. -/
structure FnAt (P : Program) (g : Nat) (fn : Func) : Prop where
  at_ : P.funcs[g]? = some fn
  ok : fnOkB fn = true

theorem FnAt.name {g : Nat} {fn : Func} (h : FnAt P g fn) : fn.name ≠ "runtime.NumGoroutine" := by
  have := h.ok
  simp only [fnOkB, Bool.and_eq_true, bne_iff_ne, ne_eq] at this
  exact this.1

theorem FnAt.li {g : Nat} {fn : Func} (h : FnAt P g fn) {c : Code} (hc : fn.body = some c) : LI (fun id => loopIn id c) c := by
  have := h.ok
  simp only [fnOkB, hc, Bool.and_eq_true] at this
  exact LI_ok this.2

theorem FnAt.enter {g : Nat} {fn : Func} (h : FnAt P g fn) (hb : fn.body.isNone = false) : Enter P g := ⟨fn, h.at_, hb, h.name⟩

def FnsAt (P : Program) : List (Nat × Func) → Prop
  | [] => True
  | (g, fn) :: r => FnAt P g fn ∧ FnsAt P r

theorem FnsAt.look {g : Nat} {fn : Func} : ∀ {l : List (Nat × Func)}, FnsAt P l → look g l = some fn → FnAt P g fn
  | [], _, h => by simp [AE.look] at h
  | (j, a) :: r, hl, h => by
    simp only [AE.look] at h
    split at h
    · rename_i e
      subst e
      cases h
      exact hl.1
    · exact FnsAt.look hl.2 h

/-- What is promised of the loops' specs of functions. -/
def LoopsAt (P : Program) (fns : List (Nat × Func)) : List (Nat × Nat × LSpec) → Prop
  | [] => True
  | (f, id, L) :: r => (∃ fn, look f fns = some fn ∧ LSpecOk P (loopBody fn id) L) ∧ LoopsAt P fns r

theorem LoopsAt.mem {fns : List (Nat × Func)} {f id : Nat} {L : LSpec} : ∀ {l : List (Nat × Nat × LSpec)}, LoopsAt P fns l → (f, id, L) ∈ l → ∃ fn, look f fns = some fn ∧ LSpecOk P (loopBody fn id) L
  | [], _, h => by cases h
  | (g, j, M) :: r, hl, h => by
    rcases List.mem_cons.1 h with h | h
    · cases h
      exact hl.1
    · exact LoopsAt.mem hl.2 h

theorem fnsOk_of (h : FnsAt P C.fns) (hl : LoopsAt P C.fns C.loops) : FnsOk P C where
  fn g fn hg := by
    have h1 := h.look hg
    refine ⟨h1.at_, h1.name, fun c hc => ⟨h1.li hc, ⟨fun id L b hm hb => ?_⟩⟩⟩
    obtain ⟨fn', hfn, hok⟩ := hl.mem hm
    rw [hg] at hfn
    cases hfn
    have : loopBody fn id = b := by
      simp only [loopBody, hc]
      rw [show loopIn id c = some b from hb]
      rfl
    rw [this] at hok
    exact hok

def SpecsAt (P : Program) : List (Nat × Spec) → Prop
  | [] => True
  | (g, s) :: r => SpecOk P g s ∧ SpecsAt P r

theorem SpecsAt.look {g : Nat} {s : Spec} : ∀ {l : List (Nat × Spec)}, SpecsAt P l → look g l = some s → SpecOk P g s
  | [], _, h => by simp [AE.look] at h
  | (j, a) :: r, hl, h => by
    simp only [AE.look] at h
    split at h
    · rename_i e
      subst e
      cases h
      exact hl.1
    · exact SpecsAt.look hl.2 h

def ClonesAt (P : Program) : List (Nat × Nat × STy) → Prop
  | [] => True
  | (g, x) :: r => CloneOk P g x.1 x.2 ∧ ClonesAt P r

theorem ClonesAt.look {g : Nat} {x : Nat × STy} : ∀ {l : List (Nat × Nat × STy)}, ClonesAt P l → look g l = some x → CloneOk P g x.1 x.2
  | [], _, h => by simp [AE.look] at h
  | (j, a) :: r, hl, h => by
    simp only [AE.look] at h
    split at h
    · rename_i e
      subst e
      cases h
      exact hl.1
    · exact ClonesAt.look hl.2 h

def GrowsAt (P : Program) : List (Nat × Nat × STy) → Prop
  | [] => True
  | (g, x) :: r => GrowOk P g x.1 x.2 ∧ GrowsAt P r

theorem GrowsAt.look {g : Nat} {x : Nat × STy} : ∀ {l : List (Nat × Nat × STy)}, GrowsAt P l → look g l = some x → GrowOk P g x.1 x.2
  | [], _, h => by simp [AE.look] at h
  | (j, a) :: r, hl, h => by
    simp only [AE.look] at h
    split at h
    · rename_i e
      subst e
      cases h
      exact hl.1
    · exact GrowsAt.look hl.2 h

def AllIn (p : Nat → Prop) : List Nat → Prop
  | [] => True
  | g :: r => p g ∧ AllIn p r

theorem AllIn.mem {p : Nat → Prop} {g : Nat} : ∀ {l : List Nat}, AllIn p l → l.contains g = true → p g
  | [], _, h => by simp at h
  | j :: r, hl, h => by
    simp only [List.contains_cons, Bool.or_eq_true, beq_iff_eq] at h
    rcases h with rfl | h
    · exact hl.1
    · exact AllIn.mem hl.2 h

/-- The tables of types, looked at one by one. -/
def tysB (P : Program) (ty : Nat → Option TI) : Nat → Bool
  | 0 => true
  | n + 1 => (match ty n with | some ti => decide (tiOf P n = some ti) | none => true) && tysB P ty n

theorem tysB_ok {ty : Nat → Option TI} : ∀ {n : Nat}, tysB P ty n = true → ∀ T ti, T < n → ty T = some ti → tiOf P T = some ti
  | 0, _, T, ti, h, _ => by omega
  | n + 1, h, T, ti, hT, hti => by
    simp only [tysB, Bool.and_eq_true] at h
    by_cases e : T = n
    · subst e
      have := h.1
      rw [hti] at this
      exact of_decide_eq_true this
    · exact tysB_ok h.2 T ti (by omega) hti

theorem TyTree.get_big : ∀ (t : TyTree) (n T : Nat), 2 ^ n ≤ T → t.get n T = none
  | .nil, _, _, _ => rfl
  | .leaf x, 0, T, h => by simp only [TyTree.get]; rw [if_neg (by simp at h; omega)]
  | .leaf x, n + 1, T, h => rfl
  | .node a b, 0, T, h => rfl
  | .node a b, n + 1, T, h => by
    simp only [TyTree.get]
    have h1 : 2 ^ n ≤ T / 2 := by
      rw [Nat.pow_succ] at h
      omega
    split
    · exact TyTree.get_big a n _ h1
    · exact TyTree.get_big b n _ h1

theorem tysOk_of {ty : Nat → Option TI} {n : Nat} (h : tysB P ty n = true) (hb : ∀ T, n ≤ T → ty T = none) : ∀ T ti, ty T = some ti → tiOf P T = some ti := fun T ti hti => by
  by_cases hT : T < n
  · exact tysB_ok h T ti hT hti
  · rw [hb T (by omega)] at hti
    cases hti

/-- All that the printed tables promise. -/
theorem cfgOk_of (hm : P.follows .mixedOrders = true) (hty : ∀ T ti, C.ty T = some ti → tiOf P T = some ti) (hf : FnsAt P C.fns) (hl : LoopsAt P C.fns C.loops) (hs : SpecsAt P C.specs) (hc : ClonesAt P C.clones) (hg : GrowsAt P C.grows)
    (hset : AllIn (SetOk P) C.sets) (heq : AllIn (EqOk P) C.eqs) : CfgOk P C where
  mixed := hm
  ty := hty
  fns := fnsOk_of hf hl
  specs _ _ h := hs.look h
  clones _ _ h := hc.look h
  grows _ _ h := hg.look h
  sets _ h := hset.mem h
  eqs _ h := heq.mem h

end Go.AE
