/- Plain functions that end: a small logic over Option and natIter. -/
import Derived.Test.YthdmhibmokhpgaaGreatAEExt
import Derived.Laws.BitsLemmas
set_option linter.unusedVariables false
set_option linter.unusedSimpArgs false
namespace Go.AE

/-- It ends, and what it answers is such. -/
def Ans {α : Type} (o : Option α) (Q : α → Prop) : Prop := ∃ r, o = some r ∧ Q r

theorem Ans.pure {α : Type} {r : α} {Q : α → Prop} (h : Q r) : Ans (some r) Q := ⟨r, rfl, h⟩

theorem Ans.bind {α β : Type} {o : Option α} {f : α → Option β} {Q : α → Prop} {S : β → Prop} (h : Ans o Q) (k : ∀ r, Q r → Ans (f r) S) : Ans (o.bind f) S := by
  obtain ⟨r, rfl, hr⟩ := h
  exact k r hr

theorem Ans.mono {α : Type} {o : Option α} {Q S : α → Prop} (h : Ans o Q) (k : ∀ r, Q r → S r) : Ans o S := by
  obtain ⟨r, e, hr⟩ := h
  exact ⟨r, e, k r hr⟩

theorem Ans.of_eq {α : Type} {o : Option α} {r : α} (h : o = some r) : Ans o (fun y => y = r) := ⟨r, h, rfl⟩

theorem Ans.eq {α : Type} {o : Option α} {r : α} (h : Ans o (fun y => y = r)) : o = some r := by
  obtain ⟨y, e, rfl⟩ := h
  exact e

theorem Ans.cond {α : Type} {c : Bool} {a b : Option α} {Q : α → Prop} (ht : c = true → Ans a Q) (hf : c = false → Ans b Q) : Ans (bif c then a else b) Q := by
  cases c
  · exact hf rfl
  · exact ht rfl

theorem Ans.condd {α : Type} {p : Prop} [Decidable p] {a b : Option α} {Q : α → Prop} (ht : p → Ans a Q) (hf : ¬p → Ans b Q) : Ans (bif decide p then a else b) Q :=
  Ans.cond (fun h => ht (of_decide_eq_true h)) (fun h => hf (of_decide_eq_false h))

theorem Ans.idx {α : Type} {xs : List α} {i : Int} (h0 : 0 ≤ i) (h1 : i < xs.length) : Ans (idx xs i) (fun y => xs[i.toNat]? = some y) := by
  unfold AE.idx
  rw [if_pos h0]
  have : i.toNat < xs.length := by omega
  exact ⟨xs[i.toNat], by simp [this], by simp [this]⟩

theorem Ans.brS {α β ρ : Type} {o : α ⊕ β} {k : α → Option ρ} {l : β → Option ρ} {Q : ρ → Prop} (h1 : ∀ a, o = .inl a → Ans (k a) Q) (h2 : ∀ b, o = .inr b → Ans (l b) Q) : Ans (brS o k l) Q := by
  cases o with
  | inl a => exact h1 a rfl
  | inr b => exact h2 b rfl

/-- A loop that comes to its end. -/
theorem Ans.loop {X ρ : Type} {st : (X → Option ρ) → X → Option ρ} (I : X → Prop) (mu : X → Nat) {Q : ρ → Prop}
    (step : ∀ x nx, I x → (∀ y, I y → mu y < mu x → Ans (nx y) Q) → Ans (st nx x) Q) : ∀ (N : Nat) (x : X), I x → mu x < N → Ans (natIter st N x) Q
  | 0, x, _, h => absurd h (Nat.not_lt_zero _)
  | n + 1, x, hI, h => step x _ hI fun y hy hlt => Ans.loop I mu step n y hy (by omega)

theorem w64_id {n : Int} (h0 : -9223372036854775808 ≤ n) (h1 : n ≤ 9223372036854775807) : w64 n = n := by
  unfold w64
  rw [IntKind.wrap_i64]
  omega

end Go.AE
