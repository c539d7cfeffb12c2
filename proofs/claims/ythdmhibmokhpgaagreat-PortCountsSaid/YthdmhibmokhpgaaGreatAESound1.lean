/- Code is sound: states, regions in their order. -/
import Derived.Test.YthdmhibmokhpgaaGreatAEOps15
set_option linter.unusedVariables false
set_option linter.unusedSimpArgs false
namespace Go.AE

variable {P : Program} {C : Cfg} {ρ : Type}

/-- A state, told of the temporaries and the world; T: the objects of which it is asked. -/
structure Rel (T : Nat → Prop) (σ : Sg) (Φ : Im) (st : St) (a : Act) (w : World) : Prop where
  hp : Hp σ Φ w st.H.length
  ob : ObsOk σ Φ w st.H T
  tm : Rs σ Φ w st.tm a.tmps.toList
  df : a.defers = []

def Ex.ex : Ex → Exit
  | .normal => .normal
  | .exit id => .exit id
  | .goto l => .goto l
  | .ret => .ret

/-- What is told of objects from base on, and of those that were there. -/
structure Abs (base : Nat) (st st' : St) (l : Lg) : Prop where
  lg : st'.lg = l ++ st.lg
  le : base ≤ st'.H.length
  fr : ∀ id, id < base → ¬ wrote l id → st'.H[id]? = st.H[id]?

/-- The code does as is told. -/
def CodeSem (P : Program) (base : Nat) (c : Code) (st : St) (e : Ex) (st' : St) (l : Lg) : Prop :=
  ∀ (T : Nat → Prop) (σ : Sg) (Φ : Im) (a : Act) (w : World), (∀ id, touched l id → T id) → (∀ id, base ≤ id → T id) → Rel T σ Φ st a w →
    ∀ Q : Exit → Act → World → Prop, (∀ σ' Φ' a' w', Rel T σ' Φ' st' a' w' → Tr base (wrote l) σ Φ w σ' Φ' w' → Q e.ex a' w') → c.wp P Q a w

theorem Rel.lgc {T : Nat → Prop} {σ : Sg} {Φ : Im} {tm : List V} {H : List Ob} {lg lg' : Lg} {a : Act} {w : World} (h : Rel T σ Φ ⟨tm, H, lg⟩ a w) : Rel T σ Φ ⟨tm, H, lg'⟩ a w := ⟨h.hp, h.ob, h.tm, h.df⟩

theorem Rel.getD {T : Nat → Prop} {σ : Sg} {Φ : Im} {st : St} {a : Act} {w : World} (h : Rel T σ Φ st a w) (t : Nat) : R σ Φ w (st.tm.getD t .und) (a.tmps.getD t undef) := by
  have hl := h.tm.1
  rw [Array.length_toList] at hl
  by_cases ht : t < st.tm.length
  · have h1 : st.tm[t]? = some st.tm[t] := by simp [ht]
    obtain ⟨u, h2, h3⟩ := h.tm.get h1
    have e1 : st.tm.getD t .und = st.tm[t] := by simp [List.getD, h1]
    have e2 : a.tmps.getD t undef = u := by
      rw [Array.getElem?_toList] at h2
      simp [Array.getD_eq_getD_getElem?, h2]
    rw [e1, e2]
    exact h3
  · have e1 : st.tm.getD t .und = .und := by simp [List.getD, List.getElem?_eq_none (Nat.le_of_not_lt ht)]
    have e2 : a.tmps.getD t undef = undef := by
      have : a.tmps[t]? = none := Array.getElem?_eq_none (by omega)
      simp [Array.getD_eq_getD_getElem?, this]
    rw [e1, e2]
    exact .und

theorem Rel.opd {T : Nat → Prop} {σ : Sg} {Φ : Im} {st : St} {a : Act} {w : World} (h : Rel T σ Φ st a w) (x : Operand) : R σ Φ w (opd st.tm x) (a.eval x) :=
  R_opd fun t _ => h.getD t

theorem put_tm {σ : Sg} {Φ : Im} {w : World} {tm : List V} {a : Act} (h : Rs σ Φ w tm a.tmps.toList) (d : Option Tmp) {v : V} {u : Value} (hv : R σ Φ w v u) : Rs σ Φ w (put tm d v) (a.put d u).tmps.toList := by
  cases d with
  | none => exact h
  | some d =>
    have : (a.put (some d) u).tmps.toList = a.tmps.toList.set d u := by simp [Act.put]
    rw [this]
    exact h.set d hv

theorem put_defers (a : Act) (d : Option Tmp) (u : Value) : (a.put d u).defers = a.defers := by cases d <;> rfl

/-- One operation. -/
theorem Rel.step {T : Nat → Prop} {σ σ' : Sg} {Φ Φ' : Im} {tm : List V} {H H' : List Ob} {lg lg' l : Lg} {a : Act} {w w' : World} {v : V} {u : Value} {d : Option Tmp} (h : Rel T σ Φ ⟨tm, H, lg⟩ a w) (hf : Fr H l H')
    (hr : Res H.length H'.length H' (wrote l) σ Φ w σ' Φ' w') (hv : R σ' Φ' w' v u) : Rel T σ' Φ' ⟨put tm d v, H', lg'⟩ (a.put d u) w' where
  hp := hr.hp
  ob := fun id hid o ho => by
    by_cases h1 : wrote l id ∨ H.length ≤ id
    · exact hr.ob id h1 o ho
    · rw [not_or] at h1
      rw [hf.2 id (by omega) h1.1] at ho
      exact hr.tr.ob h.hp (by omega) h1.1 (h.ob id hid o ho)
  tm := put_tm (hr.tr.values h.hp h.tm) d hv
  df := by rw [put_defers]; exact h.df

theorem Rel.skip {T : Nat → Prop} {σ : Sg} {Φ : Im} {tm : List V} {H : List Ob} {lg lg' : Lg} {a : Act} {w : World} {d : Option Tmp} (h : Rel T σ Φ ⟨tm, H, lg⟩ a w) : Rel T σ Φ ⟨put tm d .und, H, lg'⟩ (a.put d undef) w where
  hp := h.hp
  ob := h.ob
  tm := put_tm h.tm d .und
  df := by rw [put_defers]; exact h.df

theorem set_self {α : Type} {l : List α} {d : Nat} {x : α} (h : l[d]? = some x) : l.set d x = l := by
  apply List.ext_getElem?
  intro j
  rw [List.getElem?_set]
  split
  · rename_i hj
    subst hj
    have := (List.getElem?_eq_some_iff.1 h).1
    rw [if_pos this, h]
  · rfl

theorem getD_u {tm : List V} {d : Nat} {v : V} (h : tm.getD d .u = v) (hv : v ≠ .u) : tm[d]? = some v := by
  simp only [List.getD] at h
  cases hq : tm[d]? with
  | none => rw [hq] at h; exact absurd h.symm hv
  | some x => rw [hq] at h; simp at h; rw [h]

/-- A guard. -/
theorem evGuard_sound {ops : Array Oper} {o : Oper} {tm : List V} {yes no : List V → Option ρ} {r : ρ} (h : evGuard ops o tm yes no = some r) :
    ∃ b : Bool, (match b with | true => yes tm | false => no tm) = some r ∧
      ∀ (σ : Sg) (Φ : Im) (w : World) (a : Act), (∀ t ∈ readsOf ops o, R σ Φ w (tm.getD t .und) (a.tmps.getD t undef)) → Region.wanted o (yielded ops a.tmps) = b := by
  unfold evGuard at h
  split at h
  · rename_i hg
    exact ⟨true, h, fun σ Φ w a _ => by simp [Region.wanted, hg]⟩
  · rename_i j want hg
    split at h
    · rename_i d hd
      have hmem : d ∈ readsOf ops o := by simp [readsOf, hg, hd]
      have hget : ∀ (σ : Sg) (Φ : Im) (w : World) (a : Act) (v : V), (∀ t ∈ readsOf ops o, R σ Φ w (tm.getD t .und) (a.tmps.getD t undef)) → tm[d]? = some v → R σ Φ w v (a.tmps.getD d undef) := fun σ Φ w a v hr hv => by
        have := hr d hmem
        simpa [List.getD, hv] using this
      have hyb : ∀ (a : Act) (x : Bool), a.tmps.getD d undef = .bool x → yielded ops a.tmps j = some x := fun a x hx => by
        unfold yielded
        rw [hd]
        simp only [Option.bind_some]
        rw [Array.getD_eq_getD_getElem?] at hx
        cases hq : a.tmps[d]? with
        | none => rw [hq] at hx; cases hx
        | some y => rw [hq] at hx; simp at hx; rw [hx]
      have hyu : ∀ (a : Act), a.tmps.getD d undef = undef → yielded ops a.tmps j = none := fun a hx => by
        unfold yielded
        rw [hd]
        simp only [Option.bind_some]
        rw [Array.getD_eq_getD_getElem?] at hx
        cases hq : a.tmps[d]? with
        | none => rfl
        | some y => rw [hq] at hx; simp at hx; rw [hx]; rfl
      have hB : ∀ x, tm[d]? = some (.b x) → ∀ (σ : Sg) (Φ : Im) (w : World) (a : Act), (∀ t ∈ readsOf ops o, R σ Φ w (tm.getD t .und) (a.tmps.getD t undef)) → Region.wanted o (yielded ops a.tmps) = (x == want) := fun x hx σ Φ w a hr => by
        have hv := hget σ Φ w a _ hr hx
        generalize hq : a.tmps.getD d undef = q at hv
        cases hv
        simp only [Region.wanted, hg, hyb a x hq]
        cases x <;> cases want <;> rfl
      split at h
      · rename_i x hx
        have hx := getD_u hx (by simp)
        have hs := set_self hx
        split at h
        · rcases brB_some h with ⟨rfl, h'⟩ | ⟨rfl, h'⟩
          · rw [hs] at h'
            exact ⟨true, h', hB _ hx⟩
          · rw [hs] at h'
            exact ⟨false, h', hB _ hx⟩
        · rcases brB_some h with ⟨rfl, h'⟩ | ⟨rfl, h'⟩
          · rw [hs] at h'
            exact ⟨false, h', hB _ hx⟩
          · rw [hs] at h'
            exact ⟨true, h', hB _ hx⟩
      · rename_i hx
        have hx := getD_u hx (by simp)
        refine ⟨false, h, fun σ Φ w a hr => ?_⟩
        have hv := hget σ Φ w a _ hr hx
        generalize hq : a.tmps.getD d undef = q at hv
        cases hv
        simp only [Region.wanted, hg, hyu a hq]
        cases want <;> rfl
      · cases h
    · cases h

/-- Operations, one behind the other. -/
theorem evOps_sound (hT : TysOk P C) {call : CallK ρ} (hC : CallsOk P C call) {ops : Array Oper} {base : Nat} : ∀ {l : List Oper} {i : Nat} {st : St} {K : St → Option ρ} {r : ρ}, (∀ j, l[j]? = ops[i + j]?) → base ≤ st.H.length → evOps C call ops l st K = some r →
    ∃ st' lg, K st' = some r ∧ Abs base st st' lg ∧ ∀ (T : Nat → Prop) (σ : Sg) (Φ : Im) (a : Act) (w : World), (∀ id, touched lg id → T id) → (∀ id, base ≤ id → T id) → Rel T σ Φ st a w →
      ∀ Q : Exit → Act → World → Prop, (∀ σ' Φ' a' w', Rel T σ' Φ' st' a' w' → Tr base (wrote lg) σ Φ w σ' Φ' w' → Q .normal a' w') → wpOps P ops Q (List.range' i l.length) a w
  | [], i, st, K, r, _, hb, h => ⟨st, [], h, ⟨rfl, hb, fun _ _ _ => rfl⟩, fun T σ Φ a w _ _ hr Q hQ => hQ σ Φ a w hr (Tr.refl _ _ _ _ _)⟩
  | o :: l, i, ⟨tm, H, lg⟩, K, r, hl, hb, h => by
    have ho : ops[i]? = some o := by have := hl 0; simpa using this.symm
    have hl' : ∀ j, l[j]? = ops[i + 1 + j]? := fun j => by
      have := hl (j + 1)
      rw [List.getElem?_cons_succ] at this
      rw [this]
      congr 1
      omega
    have hrange : List.range' i (o :: l).length = i :: List.range' (i + 1) l.length := by simp [List.range'_succ]
    simp only [evOps, fcV_eq, nfIf_eq, putO_eq] at h
    obtain ⟨b, h1, hw⟩ := evGuard_sound h
    cases b with
    | true =>
      dsimp only at h1
      obtain ⟨v, H1, l1, h2, hf, hsem⟩ := evOp_sound hT hC h1
      obtain ⟨st', l2, h3, habs, hs⟩ := evOps_sound hT hC hl' (Nat.le_trans hb hf.1) h2
      refine ⟨st', l2 ++ l1, h3, ⟨by rw [habs.lg]; simp, habs.le, fun id hid hn => ?_⟩, fun T σ Φ a w hT1 hT2 hr Q hQ => ?_⟩
      · rw [wrote_append, not_or] at hn
        rw [habs.fr id hid hn.1, hf.2 id (by simp at hb; omega) hn.2]
      · have hwant := hw σ Φ w a fun t _ => hr.getD t
        rw [hrange]
        unfold wpOps
        simp only [ho, hwant, if_true]
        refine .inl (hsem σ Φ w a hr.hp (fun id hid => hr.ob id (hT1 id (touched_append.2 (.inr hid)))) (fun x _ => hr.opd x) _ _ fun u σ1 Φ1 w1 hv hres => ?_)
        have hr1 := hr.step (d := o.dst) (lg' := l1 ++ lg) hf hres hv
        refine hs T σ1 Φ1 _ w1 (fun id hid => hT1 id (touched_append.2 (.inl hid))) hT2 hr1 Q fun σ2 Φ2 a2 w2 hr2 htr2 => ?_
        exact hQ σ2 Φ2 a2 w2 hr2 ((hres.tr.weaken hb fun id _ h => h).trans htr2 (fun id h => wrote_append.2 (.inr h)) fun id h => wrote_append.2 (.inl h))
    | false =>
      dsimp only at h1
      obtain ⟨st', l2, h3, habs, hs⟩ := evOps_sound (st := ⟨put tm o.dst .und, H, lg⟩) hT hC hl' hb h1
      refine ⟨st', l2, h3, ⟨habs.lg, habs.le, habs.fr⟩, fun T σ Φ a w hT1 hT2 hr Q hQ => ?_⟩
      have hwant := hw σ Φ w a fun t _ => hr.getD t
      rw [hrange]
      unfold wpOps
      simp only [ho, hwant]
      exact hs T σ Φ _ w hT1 hT2 (hr.skip (d := o.dst) (lg' := lg)) Q hQ

end Go.AE
