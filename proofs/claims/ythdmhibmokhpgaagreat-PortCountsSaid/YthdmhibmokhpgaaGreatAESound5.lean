/- Calls by specs are sound. -/
import Derived.Test.YthdmhibmokhpgaaGreatAESound4
set_option linter.unusedVariables false
set_option linter.unusedSimpArgs false
namespace Go.AE

variable {P : Program} {C : Cfg} {ρ : Type}

/-- A function answers so, whatever else there is. -/
def Holds (P : Program) (g : Nat) (vs : List V) (v : V) : Prop :=
  ∀ (σ : Sg) (Φ : Im) (w : World) (us : List Value), (∀ b o, Φ b o → b < w.heap.size) → Rs σ Φ w vs us →
    Calls P g us.toArray w fun e w' => ∃ u Φ', e = .returned u ∧ w.grownBy w' Option.none ∧ (∀ b o, Φ b o → Φ' b o) ∧ (∀ b o, Φ' b o → Φ b o ∨ (w.heap.size ≤ b ∧ b < w'.heap.size)) ∧ R (fun _ => .none) Φ' w' v u

/-- What is promised of a function's spec. -/
def SpecOk (P : Program) (g : Nat) (s : Spec) : Prop := Enter P g ∧ ∀ vs y, s.run vs = some (some y) → Holds P g vs (s.enc y)

/-- Cells that are given up: nobody writes them any more. -/
theorem res_kill {H H' : List Ob} {D : Nat → Prop} {σ : Sg} {Φ : Im} {w : World} (hp : Hp σ Φ w H.length) (hD : ∀ id, D id → (∃ b o, σ id = .cell b o) ∨ σ id = .gone) (hl : H'.length = H.length) (hd : ∀ id, D id → ∀ o, H'[id]? = some o → o = .dead) :
    ∃ σ' Φ', Res H.length H'.length H' D σ Φ w σ' Φ' w ∧ (∀ id b o, D id → σ id = .cell b o → Φ' b o) ∧ ∀ id, ¬ D id → σ' id = σ id := by
  classical
  let σ' : Sg := fun id => if D id then .gone else σ id
  let Φ' : Im := fun b o => Φ b o ∨ ∃ id, D id ∧ σ id = .cell b o
  have hin : ∀ id, D id → σ' id = .gone := fun id h => by simp only [σ']; rw [if_pos h]
  have hout : ∀ id, ¬ D id → σ' id = σ id := fun id h => by simp only [σ']; rw [if_neg h]
  have hcov : ∀ id b o, (σ' id).covers b o → ¬ D id ∧ (σ id).covers b o := fun id b o hc => by
    by_cases h : D id
    · rw [hin id h] at hc; exact hc.elim
    · rw [hout id h] at hc; exact ⟨h, hc⟩
  refine ⟨σ', Φ', ⟨?_, ?_, fun id hid o ho => ?_⟩, fun id b o h1 h2 => .inr ⟨id, h1, h2⟩, hout⟩
  · rw [hl]
    exact {
      dom := fun id hid => by
        by_cases h : D id
        · have := hp.dom id hid
          rcases hD id h with ⟨b, o, h1⟩ | h1 <;> rw [h1] at this <;> cases this
        · rw [hout id h]; exact hp.dom id hid
      sep := fun i j b o hi hj => hp.sep i j b o (hcov i b o hi).2 (hcov j b o hj).2
      imm := fun i b o hi hΦ => by
        obtain ⟨h1, h2⟩ := hcov i b o hi
        rcases hΦ with h | ⟨id, h3, h4⟩
        · exact hp.imm i b o h2 h
        · have := hp.sep i id b o h2 (by rw [h4]; exact ⟨rfl, rfl⟩)
          subst this
          exact h1 h3
      lt := fun i b o hi => hp.lt i b o (hcov i b o hi).2
      immlt := fun b o hΦ => by
        rcases hΦ with h | ⟨id, h3, h4⟩
        · exact hp.immlt b o h
        · exact hp.lt id b o (by rw [h4]; exact ⟨rfl, rfl⟩) }
  · exact {
      os := rfl, tape := rfl, output := rfl, size := Nat.le_refl _
      keep := fun b o _ _ => same.refl w b o
      imm := fun _ _ h => .inl h
      immNew := fun b o h => by
        rcases h with h | ⟨id, h3, h4⟩
        · exact .inl h
        · exact .inr (.inr ⟨id, .inl h3, by rw [h4]; exact ⟨rfl, rfl⟩⟩)
      later := fun id hid => by
        by_cases h : D id
        · rw [hin id h]
          rcases hD id h with ⟨b, o, h1⟩ | h1 <;> rw [h1]
          · exact .inr rfl
          · rfl
        · rw [hout id h]; exact Lc.later.refl _
      eqs := fun id _ h => hout id h
      cov := fun id b o hc => .inr (.inl ⟨hp.lt_of_covers (hcov id b o hc).2, (hcov id b o hc).2⟩) }
  · rcases hid with h | h
    · rw [hd id h o ho]; trivial
    · have := (List.getElem?_eq_some_iff.1 ho).1
      omega

theorem killAt_length : ∀ (H : List Ob) (id n : Nat), (killAt H id n).length = H.length
  | [], _, _ => by simp [killAt]
  | o :: H, 0, 0 => by simp [killAt]
  | o :: H, 0, n + 1 => by simp [killAt, killAt_length H 0 n]
  | o :: H, id + 1, n => by simp [killAt, killAt_length H id n]

theorem killAt_get : ∀ (H : List Ob) (id n i : Nat), (id ≤ i ∧ i < id + n → ∀ o, (killAt H id n)[i]? = some o → o = .dead) ∧ (¬ (id ≤ i ∧ i < id + n) → (killAt H id n)[i]? = H[i]?)
  | [], id, n, i => by simp [killAt]
  | o :: H, 0, 0, i => ⟨fun h => by omega, fun _ => by simp [killAt]⟩
  | o :: H, 0, n + 1, 0 => ⟨fun _ o' h => by simp [killAt] at h; exact h.symm, fun h => by omega⟩
  | o :: H, 0, n + 1, i + 1 => by
    have := killAt_get H 0 n i
    simp only [killAt, List.getElem?_cons_succ]
    exact ⟨fun h => this.1 (by omega), fun h => this.2 (by omega)⟩
  | o :: H, id + 1, n, 0 => ⟨fun h => by omega, fun _ => by simp [killAt]⟩
  | o :: H, id + 1, n, i + 1 => by
    have := killAt_get H id n i
    simp only [killAt, List.getElem?_cons_succ]
    exact ⟨fun h => this.1 (by omega), fun h => this.2 (by omega)⟩

def inKills (ks : List (Nat × Nat)) (id : Nat) : Prop := ∃ p ∈ ks, p.1 ≤ id ∧ id < p.1 + p.2

theorem killAll_spec : ∀ (ks : List (Nat × Nat)) (H : List Ob), (killAll H ks).length = H.length ∧ (∀ i, inKills ks i → ∀ o, (killAll H ks)[i]? = some o → o = .dead) ∧ ∀ i, ¬ inKills ks i → (killAll H ks)[i]? = H[i]?
  | [], H => ⟨rfl, fun i ⟨p, h, _⟩ => (by cases h), fun i _ => rfl⟩
  | (id, n) :: r, H => by
    obtain ⟨h1, h2, h3⟩ := killAll_spec r (killAt H id n)
    refine ⟨by rw [killAll, h1, killAt_length], fun i hi o ho => ?_, fun i hi => ?_⟩
    · rw [killAll] at ho
      by_cases hr : inKills r i
      · exact h2 i hr o ho
      · rw [h3 i hr] at ho
        obtain ⟨p, hp, hq⟩ := hi
        rcases List.mem_cons.1 hp with rfl | hp
        · exact (killAt_get H id n i).1 hq o ho
        · exact absurd ⟨p, hp, hq⟩ hr
    · have hr : ¬ inKills r i := fun ⟨p, hp, hq⟩ => hi ⟨p, List.mem_cons_of_mem _ hp, hq⟩
      rw [killAll, h3 i hr, (killAt_get H id n i).2 fun hq => hi ⟨(id, n), by simp, hq⟩]

end Go.AE
