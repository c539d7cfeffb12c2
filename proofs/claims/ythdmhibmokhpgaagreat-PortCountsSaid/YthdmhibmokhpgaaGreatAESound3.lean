/- Code is sound: all of it. -/
import Derived.Test.YthdmhibmokhpgaaGreatAESound2
set_option linter.unusedVariables false
set_option linter.unusedSimpArgs false
namespace Go.AE

variable {P : Program} {C : Cfg} {ρ : Type}

/-- The loops of a piece of code are those of a table. -/
def LI (F : Nat → Option Code) : Code → Prop
  | .seq a b => LI F a ∧ LI F b
  | .cond _ a b => LI F a ∧ LI F b
  | .block id (.loop b) => F id = some b ∧ LI F b
  | .block _ (.seq a b) => LI F a ∧ LI F b
  | .block _ (.cond _ a b) => LI F a ∧ LI F b
  | .block _ (.block id a) => LI F (.block id a)
  | .block _ (.scope a) => LI F a
  | .loop a => LI F a
  | .scope a => LI F a
  | _ => True

/-- What is promised of a loop's spec. -/
def LSpecOk (P : Program) (b : Code) (L : LSpec) : Prop :=
  ∀ st y, L.run st = some (some y) → ∀ (σ : Sg) (Φ : Im) (a : Act) (w : World), Rel (fun _ => True) σ Φ st a w → ∀ Q : Exit → Act → World → Prop,
    (match y with
      | .inl y => ∀ σ' Φ' a' w', Rel (fun _ => True) σ' Φ' (L.encA y) a' w' → Tr L.base (fun _ => True) σ Φ w σ' Φ' w' → Q L.exA.ex a' w'
      | .inr y => ∀ σ' Φ' a' w', Rel (fun _ => True) σ' Φ' (L.encB y) a' w' → Tr L.base (fun _ => True) σ Φ w σ' Φ' w' → Q L.exB.ex a' w') → LoopWp P b Q a w

def outEx (id : Nat) : Ex → Ex
  | .exit j => if j = id then .normal else .exit j
  | e => e

theorem inBlock_out (id : Nat) (Q : Exit → Act → World → Prop) (e : Ex) (a : Act) (w : World) : Exit.inBlock id Q e.ex a w = Q (outEx id e).ex a w := by
  cases e with
  | exit j =>
    simp only [Ex.ex, Exit.inBlock, outEx]
    split <;> rfl
  | _ => rfl

/-- A stretch without steps. -/
def Quiet (base : Nat) (st st' : St) (l : Lg) : Prop :=
  ∀ (T : Nat → Prop) (σ : Sg) (Φ : Im) (a : Act) (w : World), (∀ id, touched l id → T id) → (∀ id, base ≤ id → T id) → Rel T σ Φ st a w → ∃ σ', Rel T σ' Φ st' a w ∧ Tr base (wrote l) σ Φ w σ' Φ w

theorem grownBy_refl (w : World) : w.grownBy w Option.none := ⟨rfl, rfl, rfl, Nat.le_refl _, fun _ _ _ => rfl⟩

theorem newOwn {σ : Sg} {Φ : Im} {w : World} {H : List Ob} (hp : Hp σ Φ w H.length) (e : Nat) (t : STy) : ∃ σ', Res H.length (H ++ [Ob.row e t [] 0 true true false]).length (H ++ [Ob.row e t [] 0 true true false]) (wrote []) σ Φ w σ' Φ w ∧ R σ' Φ w (.o H.length 0) (.slice Option.none 0 0) :=
  res_newRow (xs := []) (vals := []) wrote_nil hp (grownBy_refl w) rfl ⟨by simp, .inl ⟨_, rfl, rfl⟩⟩ Rs.nil (fun _ h => by cases h) (fun b hb => by cases hb) (fun h => by cases h)

theorem ownT_sound {base : Nat} : ∀ (ot : List (Nat × Nat × STy)) (st : St), base ≤ st.H.length → ∃ l, Abs base st (St.ownT ot st) l ∧ Quiet base st (St.ownT ot st) l
  | [], st, hb => ⟨[], ⟨rfl, hb, fun _ _ _ => rfl⟩, fun T σ Φ a w _ _ hr => ⟨σ, hr, Tr.refl _ _ _ _ _⟩⟩
  | (d, e, t) :: r, ⟨tm, H, lg⟩, hb => by
    simp only [St.ownT]
    split
    · rename_i hd
      have hd := getD_u hd (by simp)
      obtain ⟨l, habs, hq⟩ := ownT_sound (base := base) r ⟨tm.set d (.o H.length 0), H ++ [.row e t [] 0 true true false], lg⟩ (by simp; simp at hb; omega)
      refine ⟨l, ⟨habs.lg, habs.le, fun id hid hn => ?_⟩, fun T σ Φ a w hT1 hT2 hr => ?_⟩
      · rw [habs.fr id hid hn]
        exact List.getElem?_append_left (by simp at hb; omega)
      · obtain ⟨σ1, hres, hR⟩ := newOwn (e := e) (t := t) hr.hp
        have hstep := Rel.step (T := T) (d := Option.none) (lg' := lg) hr (Fr.push H [] _) hres hR
        have hr1 : Rel T σ1 Φ ⟨tm.set d (.o H.length 0), H ++ [.row e t [] 0 true true false], lg⟩ a w := ⟨hstep.hp, hstep.ob, ⟨by rw [List.length_set]; exact hstep.tm.1, fun j v u h1 h2 => by
          rw [List.getElem?_set] at h1
          split at h1
          · rename_i hj
            subst hj
            split at h1
            · cases h1
              have := hr.tm.2 d _ u hd h2
              cases this
              exact hR
            · cases h1
          · exact hstep.tm.2 j v u h1 h2⟩, hstep.df⟩
        obtain ⟨σ2, hr2, htr2⟩ := hq T σ1 Φ a w hT1 hT2 hr1
        exact ⟨σ2, hr2, (hres.tr.weaken hb fun _ _ h => h).trans htr2 (fun id h => absurd h (wrote_nil id)) fun _ h => h⟩
    · exact ownT_sound r ⟨tm, H, lg⟩ hb

theorem ownC_sound {base : Nat} : ∀ (oc : List (Nat × Nat × STy)) (st : St), base ≤ st.H.length → ∃ l, Abs base st (St.ownC base oc st) l ∧ Quiet base st (St.ownC base oc st) l
  | [], st, hb => ⟨[], ⟨rfl, hb, fun _ _ _ => rfl⟩, fun T σ Φ a w _ _ hr => ⟨σ, hr, Tr.refl _ _ _ _ _⟩⟩
  | (d, e, t) :: r, ⟨tm, H, lg⟩, hb => by
    simp only [St.ownC]
    split
    · rename_i hd
      have hdl : base + d < H.length := (List.getElem?_eq_some_iff.1 hd).1
      obtain ⟨l, habs, hq⟩ := ownC_sound (base := base) r ⟨tm, H.set (base + d) (.c (.o H.length 0)) ++ [.row e t [] 0 true true false], ⟨true, base + d, 1⟩ :: lg⟩ (by simp; simp at hb; omega)
      refine ⟨l ++ [⟨true, base + d, 1⟩], ⟨by rw [habs.lg]; simp, habs.le, fun id hid hn => ?_⟩, fun T σ Φ a w hT1 hT2 hr => ?_⟩
      · rw [wrote_append, not_or] at hn
        rw [habs.fr id hid hn.1]
        rw [List.getElem?_append_left (by rw [List.length_set]; omega), List.getElem?_set_ne (by omega)]
      · obtain ⟨σ1, hres, hR⟩ := newOwn (e := e) (t := t) hr.hp
        have hstep := Rel.step (T := T) (d := Option.none) (lg' := lg) hr (Fr.push H [] _) hres hR
        have hlen : (H.set (base + d) (.c (.o H.length 0)) ++ [Ob.row e t [] 0 true true false]).length = (H ++ [Ob.row e t [] 0 true true false]).length := by simp
        have hr1 : Rel T σ1 Φ ⟨tm, H.set (base + d) (.c (.o H.length 0)) ++ [.row e t [] 0 true true false], ⟨true, base + d, 1⟩ :: lg⟩ a w := ⟨by
          have := hstep.hp
          dsimp only at this ⊢
          rw [hlen]; exact this, fun id hid o ho => by
          by_cases h1 : id = base + d
          · subst h1
            dsimp only at ho
            rw [List.getElem?_append_left (by rw [List.length_set]; exact hdl), List.getElem?_set_self hdl] at ho
            cases ho
            obtain ⟨b, off, u, h2, h3, h4, h5, h6⟩ := hstep.ob (base + d) hid (.c .nils) (by dsimp only; rw [List.getElem?_append_left hdl]; exact hd)
            cases h6
            exact ⟨b, off, _, h2, h3, h4, h5, hR⟩
          · refine hstep.ob id hid o ?_
            dsimp only at ho ⊢
            by_cases h2 : id < H.length
            · rw [List.getElem?_append_left (by rw [List.length_set]; exact h2), List.getElem?_set_ne (Ne.symm h1)] at ho
              rw [List.getElem?_append_left h2]
              exact ho
            · rw [List.getElem?_append_right (by rw [List.length_set]; omega), List.length_set] at ho
              rw [List.getElem?_append_right (by omega)]
              exact ho, hstep.tm, hstep.df⟩
        obtain ⟨σ2, hr2, htr2⟩ := hq T σ1 Φ a w (fun id h => hT1 id (touched_append.2 (.inl h))) hT2 hr1
        exact ⟨σ2, hr2, (hres.tr.weaken hb fun _ _ h => h).trans htr2 (fun id h => absurd h (wrote_nil id)) fun id h => wrote_append.2 (.inl h)⟩
    · exact ownC_sound r ⟨tm, H, lg⟩ hb

theorem Abs.trans {base : Nat} {st1 st2 st3 : St} {l1 l2 : Lg} (h : Abs base st1 st2 l1) (k : Abs base st2 st3 l2) : Abs base st1 st3 (l2 ++ l1) :=
  ⟨by rw [k.lg, h.lg]; simp, k.le, fun id hid hn => by
    rw [wrote_append, not_or] at hn
    rw [k.fr id hid hn.1, h.fr id hid hn.2]⟩

/-- A piece of a run, then another one. -/
theorem CodeSem.comp {base : Nat} {c : Code} {st1 st2 st3 : St} {l1 l2 : Lg} {e : Ex} (hq : Quiet base st1 st2 l1) (hc : CodeSem P base c st2 e st3 l2) : CodeSem P base c st1 e st3 (l2 ++ l1) := by
  intro T σ Φ a w hT1 hT2 hr Q hQ
  obtain ⟨σ1, hr1, htr1⟩ := hq T σ Φ a w (fun id h => hT1 id (touched_append.2 (.inr h))) hT2 hr
  exact hc T σ1 Φ a w (fun id h => hT1 id (touched_append.2 (.inl h))) hT2 hr1 Q fun σ' Φ' a' w' h1 h2 => hQ σ' Φ' a' w' h1 (htr1.trans h2 (fun id h => wrote_append.2 (.inr h)) fun id h => wrote_append.2 (.inl h))

/-- What a loop's rounds do. -/
def LoopSem (P : Program) (base : Nat) (c : Code) (st : St) (e : Ex) (st' : St) (l : Lg) : Prop :=
  ∀ (T : Nat → Prop) (σ : Sg) (Φ : Im) (a : Act) (w : World), (∀ id, touched l id → T id) → (∀ id, base ≤ id → T id) → Rel T σ Φ st a w →
    ∀ Q : Exit → Act → World → Prop, (∀ σ' Φ' a' w', Rel T σ' Φ' st' a' w' → Tr base (wrote l) σ Φ w σ' Φ' w' → Q e.ex a' w') → LoopWp P c Q a w

/-- The body of a loop is sound. -/
def BodyOk (P : Program) (base : Nat) (c : Code) (body : BodyK ρ) : Prop := ∀ st (K : Ex → St → Option ρ) r, base ≤ st.H.length → body st K = some r → ∃ e st' l, K e st' = some r ∧ Abs base st st' l ∧ CodeSem P base c st e st' l

theorem round_exit {base : Nat} {c : Code} {st st' : St} {e : Ex} {l : Lg} (hn : e ≠ .normal) (hs : CodeSem P base c st e st' l) : LoopSem P base c st e st' l := by
  intro T σ Φ a w hT1 hT2 hr Q hQ
  refine LoopWp.round (hs T σ Φ a w hT1 hT2 hr _ fun σ' Φ' a' w' h1 h2 => ?_)
  have := hQ σ' Φ' a' w' h1 h2
  cases e with
  | normal => exact absurd rfl hn
  | _ => exact this

theorem round_more {base : Nat} {c : Code} {st st1 st' : St} {e : Ex} {l1 l2 : Lg} (hs : CodeSem P base c st .normal st1 l1) (hl : LoopSem P base c st1 e st' l2) : LoopSem P base c st e st' (l2 ++ l1) := by
  intro T σ Φ a w hT1 hT2 hr Q hQ
  refine LoopWp.round (hs T σ Φ a w (fun id h => hT1 id (touched_append.2 (.inr h))) hT2 hr _ fun σ1 Φ1 a1 w1 h1 h2 => ?_)
  exact hl T σ1 Φ1 a1 w1 (fun id h => hT1 id (touched_append.2 (.inl h))) hT2 h1 Q fun σ' Φ' a' w' h3 h4 => hQ σ' Φ' a' w' h3 (h2.trans h4 (fun id h => wrote_append.2 (.inr h)) fun id h => wrote_append.2 (.inl h))

theorem unroll_sound {base : Nat} {c : Code} {body : BodyK ρ} (hb : BodyOk P base c body) {K : Ex → St → Option ρ} : ∀ {k : Nat} {st : St} {r : ρ}, base ≤ st.H.length → unroll body K k st = some r → ∃ e st' l, K e st' = some r ∧ Abs base st st' l ∧ LoopSem P base c st e st' l
  | 0, st, r, _, h => by simp [unroll] at h
  | k + 1, st, r, hbs, h => by
    simp only [unroll] at h
    obtain ⟨e, st1, l1, h1, habs, hs⟩ := hb _ _ _ hbs h
    cases e with
    | normal =>
      obtain ⟨e, st', l2, h2, habs2, hs2⟩ := unroll_sound hb habs.le h1
      exact ⟨e, st', l2 ++ l1, h2, habs.trans habs2, round_more hs hs2⟩
    | _ => exact ⟨_, st1, l1, h1, habs, round_exit (by simp) hs⟩

end Go.AE
