/- Regions whose order is open: any order does as the evaluator's one. -/
import Derived.Test.YthdmhibmokhpgaaGreatAEDraw1
set_option linter.unusedVariables false
set_option linter.unusedSimpArgs false
namespace Go.AE

variable {P : Program} {C : Cfg} {ρ : Type}

def Sg.cut (σ : Sg) (n : Nat) : Sg := fun id => if id < n then σ id else .none

theorem cut_lt {σ : Sg} {n id : Nat} (h : id < n) : σ.cut n id = σ id := by simp [Sg.cut, h]
theorem cut_ge {σ : Sg} {n id : Nat} (h : n ≤ id) : σ.cut n id = .none := by simp only [Sg.cut]; rw [if_neg (by omega)]

theorem cut_cov {σ : Sg} {n id b o : Nat} (h : (σ.cut n id).covers b o) : id < n ∧ (σ id).covers b o := by
  by_cases hi : id < n
  · rw [cut_lt hi] at h
    exact ⟨hi, h⟩
  · rw [cut_ge (by omega)] at h
    exact h.elim

theorem cut_later {σ σ' : Sg} {n m : Nat} (hnm : n ≤ m) (h : ∀ id, id < n → (σ id).later (σ' id)) : ∀ id, (σ.cut n id).later (σ'.cut m id) := fun id => by
  by_cases hi : id < n
  · rw [cut_lt hi, cut_lt (by omega)]
    exact h id hi
  · rw [cut_ge (by omega)]
    trivial

theorem Hp.cut {σ : Sg} {Φ : Im} {w : World} {N : Nat} (hp : Hp σ Φ w N) (n : Nat) : Hp (σ.cut n) Φ w n where
  dom := fun id hid => cut_ge hid
  sep := fun i j b o hi hj => hp.sep i j b o (cut_cov hi).2 (cut_cov hj).2
  imm := fun i b o hi => hp.imm i b o (cut_cov hi).2
  lt := fun i b o hi => hp.lt i b o (cut_cov hi).2
  immlt := hp.immlt

/-- Objects that aren't written stay, told by whatever places that agree at them. -/
theorem ob_move {base : Nat} {W : Nat → Prop} {σ σ' τ τ' : Sg} {Φ Φ' : Im} {w w' : World} (h : Tr base W σ Φ w σ' Φ' w') (hp : Hp σ Φ w base) {id : Nat} (hid : id < base) (hW : ¬ W id) (hτ : τ id = σ id) (hτ' : τ' id = σ' id)
    (hl : ∀ i, (τ i).later (τ' i)) {ob : Ob} (ho : ObOk τ Φ w id ob) : ObOk τ' Φ' w' id ob := by
  have hs : τ' id = τ id := by rw [hτ', hτ]; exact h.eqs id hid hW
  have hk : ∀ b o, (τ id).covers b o → same w w' b o := fun b o hc => by
    rw [hτ] at hc
    exact h.keep b o (hp.lt id b o hc) fun id' hid' hc' => by
      obtain rfl := hp.sep _ _ b o hc hc'
      rcases hid' with h1 | h1
      · exact hW h1
      · omega
  have hlt : ∀ b o, (τ id).covers b o → b < w.heap.size := fun b o hc => by rw [hτ] at hc; exact hp.lt id b o hc
  have hv : ∀ {v : V} {x : Value}, R τ Φ w v x → R τ' Φ' w' v x := fun hr => hr.mono hl h.imm (h.cells hp)
  have hvs : ∀ {v : List V} {x : List Value}, Rs τ Φ w v x → Rs τ' Φ' w' v x := fun hr => hr.imp fun _ _ _ h => hv h
  cases ob with
  | c v =>
    obtain ⟨b, off, u, h1, h2, h3, h4, h5⟩ := ho
    have hc : (τ id).covers b off := by rw [h1]; exact ⟨rfl, rfl⟩
    exact ⟨b, off, u, hs.trans h1, (hk b off hc).cell h2, by rw [(hk b off hc).frozen (hlt b off hc)]; exact h3, h4, hv h5⟩
  | row e t xs ver mu ap nz =>
    obtain ⟨v, own, h1, h2, h3, h4, h5⟩ := ho
    refine ⟨v, own, hs.trans h1, h2, h3, fun ho => ?_, fun ho => hv (h5 ho)⟩
    obtain ⟨vals, ⟨ho1, ho2⟩, hr, h1c⟩ := h4 ho
    refine ⟨vals, ⟨ho1, ?_⟩, hvs hr, h1c⟩
    rcases ho2 with ho2 | ⟨g, cap, cur, hvv, hc, hg, r⟩
    · exact .inl ho2
    · refine .inr ⟨g, cap, cur, hvv, hc, ?_, r⟩
      have hcov : ∀ o, (τ id).covers g o := fun o => by
        rw [h1, ho, hvv]
        cases cap with
        | zero => omega
        | succ cap => rfl
      rw [same.block (fun o => hk g o (hcov o)) (hlt g 0 (hcov 0))]
      exact hg
  | map ag es =>
    obtain ⟨b, ms, cl, h1, h2, h3, h4⟩ := ho
    have hcov : ∀ o, (τ id).covers b o := fun o => by rw [h1]; rfl
    refine ⟨b, ms, cl, hs.trans h1, ?_, h3, fun j e m he hm => ?_⟩
    · rw [same.block (fun o => hk b o (hcov o)) (hlt b 0 (hcov 0))]; exact h2
    · obtain ⟨h6, us, h7, h8⟩ := h4 j e m he hm
      exact ⟨h6, us, hvs h7, h8⟩
  | tmap ag t es =>
    obtain ⟨b, ms, cl, h1, h2, h3, h4⟩ := ho
    have hcov : ∀ o, (τ id).covers b o := fun o => by rw [h1]; rfl
    refine ⟨b, ms, cl, hs.trans h1, ?_, h3, fun j e m he hm => ?_⟩
    · rw [same.block (fun o => hk b o (hcov o)) (hlt b 0 (hcov 0))]; exact h2
    · obtain ⟨h6, us, h7, h8⟩ := h4 j e m he hm
      exact ⟨h6, us, hvs h7, h8⟩
  | dead => trivial

/-- An object is told by more places as well. -/
theorem ob_ext {τ τ' : Sg} {Φ : Im} {w : World} {id : Nat} {ob : Ob} (hs : τ' id = τ id) (hl : ∀ i, (τ i).later (τ' i)) (ho : ObOk τ Φ w id ob) : ObOk τ' Φ w id ob := by
  have hv : ∀ {v : V} {x : Value}, R τ Φ w v x → R τ' Φ w v x := fun hr => hr.mono hl (fun _ _ h => h) (fun _ _ _ _ h => h)
  have hvs : ∀ {v : List V} {x : List Value}, Rs τ Φ w v x → Rs τ' Φ w v x := fun hr => hr.imp fun _ _ _ h => hv h
  cases ob with
  | c v =>
    obtain ⟨b, off, u, h1, h2, h3, h4, h5⟩ := ho
    exact ⟨b, off, u, hs.trans h1, h2, h3, h4, hv h5⟩
  | row e t xs ver mu ap nz =>
    obtain ⟨v, own, h1, h2, h3, h4, h5⟩ := ho
    refine ⟨v, own, hs.trans h1, h2, h3, fun ho => ?_, fun ho => hv (h5 ho)⟩
    obtain ⟨vals, ho, hr, h1c⟩ := h4 ho
    exact ⟨vals, ho, hvs hr, h1c⟩
  | map ag es =>
    obtain ⟨b, ms, cl, h1, h2, h3, h4⟩ := ho
    exact ⟨b, ms, cl, hs.trans h1, h2, h3, fun j e m he hm => let ⟨h6, us, h7, h8⟩ := h4 j e m he hm; ⟨h6, us, hvs h7, h8⟩⟩
  | tmap ag t es =>
    obtain ⟨b, ms, cl, h1, h2, h3, h4⟩ := ho
    exact ⟨b, ms, cl, hs.trans h1, h2, h3, fun j e m he hm => let ⟨h6, us, h7, h8⟩ := h4 j e m he hm; ⟨h6, us, hvs h7, h8⟩⟩
  | dead => trivial

section
variable (ops : Array Oper) (tmf : Nat → List V) (Hf : Nat → List Ob) (lf : Nat → Lg) (T : Nat → Prop) (base : Nat) (σ0 : Sg) (Φ0 : Im) (w0 : World)

/-- An operation writes an object, or makes it. -/
def wr (Hf : Nat → List Ob) (lf : Nat → Lg) (i id : Nat) : Prop := wrote (made (Hf i).length (Hf (i + 1)).length (lf i)) id

/-- What stands of the region when the operations S have been done. -/
structure Inv (S : Nat → Prop) (σ : Sg) (Φ : Im) (a : Act) (w : World) : Prop where
  hp : Hp σ Φ w (Hf ops.size).length
  crt : ∀ id k, k < ops.size → (Hf k).length ≤ id → id < (Hf (k + 1)).length → ¬ S k → σ id = .none
  tmv : ∀ j, j ≤ ops.size → ∀ t v u, (∀ i o, i < j → ops[i]? = some o → o.dst = some t → S i) → (∀ i o, j ≤ i → ops[i]? = some o → o.dst = some t → ¬ S i) → (tmf j)[t]? = some v → a.tmps[t]? = some u → R (σ.cut (Hf j).length) Φ w v u
  obv : ∀ j, j ≤ ops.size → ∀ id, T id → (∀ i, i < j → wr Hf lf i id → S i) → (∀ i, j ≤ i → i < ops.size → wr Hf lf i id → ¬ S i) → ∀ o, (Hf j)[id]? = some o → ObOk (σ.cut (Hf j).length) Φ w id o
  df : a.defers = []
  sz : a.tmps.size = (tmf 0).length
  tr : Tr base (fun id => ∃ i, i < ops.size ∧ wrote (lf i) id) σ0 Φ0 w0 σ Φ w
end

theorem made_wrote {n n' : Nat} {l : Lg} {id : Nat} (h : n ≤ n') : wrote (made n n' l) id ↔ (n ≤ id ∧ id < n') ∨ wrote l id := by
  unfold made
  split
  · rename_i e
    subst e
    constructor
    · exact .inr
    · rintro (h | h)
      · omega
      · exact h
  · rw [wrote_one]
    have : (n ≤ id ∧ id < n + (n' - n)) ↔ (n ≤ id ∧ id < n') := by omega
    rw [this]

theorem made_touched {n n' : Nat} {l : Lg} {id : Nat} (h : touched l id) : touched (made n n' l) id := by
  unfold made
  split
  · exact h
  · exact touched_cons.2 (.inr h)

theorem put_get {tm : List V} {d : Option Tmp} {v : V} {t : Nat} : (put tm d v)[t]? = if d = some t then (if t < tm.length then some v else none) else tm[t]? := by
  cases d with
  | none => simp [put]
  | some d =>
    simp only [put, List.getElem?_set, Option.some.injEq]
    split
    · rename_i h
      subst h
      rfl
    · rfl

theorem put_len (tm : List V) (d : Option Tmp) (v : V) : (put tm d v).length = tm.length := by cases d <;> simp [put]

theorem aput_get {a : Act} {d : Option Tmp} {v : Value} {t : Nat} : (a.put d v).tmps[t]? = if d = some t then (if t < a.tmps.size then some v else none) else a.tmps[t]? := by
  cases d with
  | none => simp [Act.put]
  | some d =>
    simp only [Act.put, Array.getElem?_setIfInBounds, Option.some.injEq]
    split
    · rename_i h
      subst h
      rfl
    · rfl

theorem aput_size (a : Act) (d : Option Tmp) (v : Value) : (a.put d v).tmps.size = a.tmps.size := by cases d <;> simp [Act.put]

end Go.AE
