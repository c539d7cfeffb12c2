/- Regions whose order is open: one more operation. -/
import Derived.Test.YthdmhibmokhpgaaGreatAEDraw2
set_option linter.unusedVariables false
set_option linter.unusedSimpArgs false
namespace Go.AE

variable {P : Program} {C : Cfg} {ρ : Type}

section
variable {ops : Array Oper} {tmf : Nat → List V} {Hf : Nat → List Ob} {lf : Nat → Lg} {T : Nat → Prop} {base : Nat} {σ0 : Sg} {Φ0 : Im} {w0 : World}

theorem heap_mono (hst : ∀ j o, ops[j]? = some o → OpStep P ops o (tmf j) (tmf (j + 1)) (Hf j) (Hf (j + 1)) (lf j)) : ∀ {i j : Nat}, i ≤ j → j ≤ ops.size → (Hf i).length ≤ (Hf j).length := by
  intro i j hij
  induction hij with
  | refl => intro _; exact Nat.le_refl _
  | step h ih =>
    rename_i j
    intro hj
    obtain ⟨_, _, _, _, hf, _⟩ := hst j ops[j] (by simp)
    exact Nat.le_trans (ih (by omega)) hf.1

theorem tm_len (hst : ∀ j o, ops[j]? = some o → OpStep P ops o (tmf j) (tmf (j + 1)) (Hf j) (Hf (j + 1)) (lf j)) : ∀ {j : Nat}, j ≤ ops.size → (tmf j).length = (tmf 0).length
  | 0, _ => rfl
  | j + 1, hj => by
    obtain ⟨_, v, _, e, _⟩ := hst j ops[j] (by simp)
    rw [e, put_len]
    exact tm_len hst (by omega)

theorem heap_chain (hst : ∀ j o, ops[j]? = some o → OpStep P ops o (tmf j) (tmf (j + 1)) (Hf j) (Hf (j + 1)) (lf j)) {id p : Nat} (hid : id < (Hf p).length) : ∀ {q : Nat}, p ≤ q → q ≤ ops.size → (∀ i, p ≤ i → i < q → ¬ wr Hf lf i id) → (Hf q)[id]? = (Hf p)[id]? := by
  intro q hpq
  induction hpq with
  | refl => intro _ _; rfl
  | step h ih =>
    rename_i q
    intro hq hn
    obtain ⟨_, _, _, _, hf, _⟩ := hst q ops[q] (by simp)
    have hlt : id < (Hf q).length := Nat.lt_of_lt_of_le hid (heap_mono hst h (by omega))
    rw [hf.2 id hlt fun hw => hn q h (by omega) ((made_wrote hf.1).2 (.inr hw))]
    exact ih (by omega) fun i h1 h2 => hn i h1 (by omega)

theorem tm_chain (hst : ∀ j o, ops[j]? = some o → OpStep P ops o (tmf j) (tmf (j + 1)) (Hf j) (Hf (j + 1)) (lf j)) {t p : Nat} : ∀ {q : Nat}, p ≤ q → q ≤ ops.size → (∀ i o, p ≤ i → i < q → ops[i]? = some o → o.dst ≠ some t) → (tmf q)[t]? = (tmf p)[t]? := by
  intro q hpq
  induction hpq with
  | refl => intro _ _; rfl
  | step h ih =>
    rename_i q
    intro hq hn
    obtain ⟨_, v, _, e, _⟩ := hst q ops[q] (by simp)
    rw [e, put_get, if_neg (hn q ops[q] h (by omega) (by simp))]
    exact ih (by omega) fun i o h1 h2 => hn i o h1 (by omega)

theorem wr_new (hst : ∀ j o, ops[j]? = some o → OpStep P ops o (tmf j) (tmf (j + 1)) (Hf j) (Hf (j + 1)) (lf j)) {id : Nat} : ∀ {q p : Nat}, p ≤ q → q ≤ ops.size → (Hf p).length ≤ id → id < (Hf q).length → ∃ i, p ≤ i ∧ i < q ∧ (Hf i).length ≤ id ∧ id < (Hf (i + 1)).length := by
  intro q p hpq
  induction hpq with
  | refl => intro _ h1 h2; omega
  | step h ih =>
    rename_i q
    intro hq h1 h2
    by_cases h3 : id < (Hf q).length
    · obtain ⟨i, h4, h5, h6⟩ := ih (by omega) h1 h3
      exact ⟨i, h4, by omega, h6⟩
    · exact ⟨q, h, by omega, by omega, h2⟩

theorem inv_next (hst : ∀ j o, ops[j]? = some o → OpStep P ops o (tmf j) (tmf (j + 1)) (Hf j) (Hf (j + 1)) (lf j)) (hbase : base ≤ (Hf 0).length)
    {pb : Nat → Nat → Prop} (hap : ∀ i k x o, i < k → ops[i]? = some x → ops[k]? = some o → pb k i ∨ (clash (made (Hf i).length (Hf (i + 1)).length (lf i)) (made (Hf k).length (Hf (k + 1)).length (lf k)) = false ∧ tmpApart ops x o = true))
    {S : Nat → Prop} (hcl : ∀ j, S j → ∀ i, pb j i → S i) {σ : Sg} {Φ : Im} {a : Act} {w : World} (hI : Inv ops tmf Hf lf T base σ0 Φ0 w0 S σ Φ a w) {k : Nat} {o : Oper} (hk : ops[k]? = some o) (hSk : ¬ S k) (hrdy : ∀ i, pb k i → S i)
    {σ' : Sg} {Φ' : Im} {w' : World} {v : V} {u : Value} (hv : R σ' Φ' w' v u) (hres : Res (Hf k).length (Hf (k + 1)).length (Hf (k + 1)) (wrote (lf k)) (σ.cut (Hf k).length) Φ w σ' Φ' w') (htm : tmf (k + 1) = put (tmf k) o.dst v)
    (hf : Fr (Hf k) (lf k) (Hf (k + 1))) : ∃ σ2, Inv ops tmf Hf lf T base σ0 Φ0 w0 (fun i => S i ∨ i = k) σ2 Φ' (a.put o.dst u) w' := by
  have hkn : k < ops.size := (Array.getElem?_eq_some_iff.1 hk).1
  have hopi : ∀ i, i < ops.size → ops[i]? = some ops[i]! := fun i hi => by simp [hi]
  have hmN : (Hf (k + 1)).length ≤ (Hf ops.size).length := heap_mono hst (by omega) (Nat.le_refl _)
  have hm0 : (Hf 0).length ≤ (Hf k).length := heap_mono hst (by omega) (by omega)
  have hmm : (Hf k).length ≤ (Hf (k + 1)).length := hf.1
  let σ2 : Sg := fun id => if id < (Hf (k + 1)).length then σ' id else σ id
  have h2lt : ∀ id, id < (Hf (k + 1)).length → σ2 id = σ' id := fun id h => by simp [σ2, h]
  have h2ge : ∀ id, (Hf (k + 1)).length ≤ id → σ2 id = σ id := fun id h => by simp only [σ2]; rw [if_neg (by omega)]
  have hmid : ∀ id, (Hf k).length ≤ id → id < (Hf (k + 1)).length → σ id = .none := fun id h1 h2 => hI.crt id k hkn h1 h2 hSk
  have hcovl : ∀ id b q, (σ2 id).covers b q → w.heap.size ≤ b ∨ (σ id).covers b q := fun id b q hc => by
    by_cases h : id < (Hf (k + 1)).length
    · rw [h2lt id h] at hc
      rcases hres.tr.cov id b q hc with h1 | ⟨_, h1⟩ | ⟨_, id0, h1, h2⟩
      · exact .inl h1
      · exact .inr (cut_cov h1).2
      · have := (cut_cov h2).1; omega
    · rw [h2ge id (by omega)] at hc
      exact .inr hc
  have hlat : ∀ id, (σ id).later (σ2 id) := fun id => by
    by_cases h : id < (Hf k).length
    · rw [h2lt id (by omega)]
      have := hres.tr.later id h
      rwa [cut_lt h] at this
    · by_cases h' : id < (Hf (k + 1)).length
      · rw [hmid id (by omega) h']; trivial
      · rw [h2ge id (by omega)]; exact Lc.later.refl _
  have hcells : ∀ b q x, Φ b q → w.cell? ⟨b, q, Option.none⟩ = some x → w'.cell? ⟨b, q, Option.none⟩ = some x := hres.tr.cells (hI.hp.cut _)
  -- the whole stretch, told of all places
  have hTr : Tr (Hf ops.size).length (wr Hf lf k) σ Φ w σ2 Φ' w' := {
    os := hres.tr.os, tape := hres.tr.tape, output := hres.tr.output, size := hres.tr.size,
    keep := fun b q hb hn => hres.tr.keep b q hb fun id hid hc => by
      obtain ⟨h1, h2⟩ := cut_cov hc
      rcases hid with h3 | h3
      · exact hn id (.inl ((made_wrote hmm).2 (.inr h3))) h2
      · omega
    imm := hres.tr.imm
    immNew := fun b q hh => by
      rcases hres.tr.immNew b q hh with h1 | h1 | ⟨id, h1, h2⟩
      · exact .inl h1
      · exact .inr (.inl h1)
      · obtain ⟨h3, h4⟩ := cut_cov h2
        rcases h1 with h1 | h1
        · exact .inr (.inr ⟨id, .inl ((made_wrote hmm).2 (.inr h1)), h4⟩)
        · omega
    later := fun id _ => hlat id
    eqs := fun id hid hn => by
      by_cases h : id < (Hf k).length
      · rw [h2lt id (by omega), hres.tr.eqs id h fun hw => hn ((made_wrote hmm).2 (.inr hw)), cut_lt h]
      · by_cases h' : id < (Hf (k + 1)).length
        · exact absurd ((made_wrote hmm).2 (.inl ⟨by omega, h'⟩)) hn
        · exact h2ge id (by omega)
    cov := fun id b q hc => by
      rcases hcovl id b q hc with h1 | h1
      · exact .inl h1
      · exact .inr (.inl ⟨hI.hp.lt_of_covers h1, h1⟩) }
  refine ⟨σ2, ?_⟩
  refine { hp := ?_, crt := ?_, tmv := ?_, obv := ?_, df := by rw [put_defers]; exact hI.df, sz := by rw [aput_size]; exact hI.sz, tr := ?_ }
  · exact {
      dom := fun id hid => by rw [h2ge id (by omega)]; exact hI.hp.dom id hid
      sep := fun i j b q hi hj => by
        by_cases h1 : i < (Hf (k + 1)).length <;> by_cases h2 : j < (Hf (k + 1)).length
        · rw [h2lt i h1] at hi; rw [h2lt j h2] at hj; exact hres.hp.sep i j b q hi hj
        · rw [h2ge j (by omega)] at hj
          rcases hcovl i b q hi with h3 | h3
          · have := hI.hp.lt j b q hj; omega
          · exact hI.hp.sep i j b q h3 hj
        · rw [h2ge i (by omega)] at hi
          rcases hcovl j b q hj with h3 | h3
          · have := hI.hp.lt i b q hi; omega
          · exact hI.hp.sep i j b q hi h3
        · rw [h2ge i (by omega)] at hi; rw [h2ge j (by omega)] at hj; exact hI.hp.sep i j b q hi hj
      imm := fun i b q hi hΦ => by
        by_cases h1 : i < (Hf (k + 1)).length
        · rw [h2lt i h1] at hi; exact hres.hp.imm i b q hi hΦ
        · rw [h2ge i (by omega)] at hi
          rcases hres.tr.immNew b q hΦ with h2 | h2 | ⟨id, h2, h3⟩
          · exact hI.hp.imm i b q hi h2
          · have := hI.hp.lt i b q hi; omega
          · obtain ⟨h4, h5⟩ := cut_cov h3
            have := hI.hp.sep i id b q hi h5
            omega
      lt := fun i b q hi => by
        by_cases h1 : i < (Hf (k + 1)).length
        · rw [h2lt i h1] at hi; exact hres.hp.lt i b q hi
        · rw [h2ge i (by omega)] at hi; exact Nat.lt_of_lt_of_le (hI.hp.lt i b q hi) hres.tr.size
      immlt := hres.hp.immlt }
  · intro id q hq h1 h2 hn
    rw [not_or] at hn
    by_cases h3 : id < (Hf (k + 1)).length
    · -- q made it, so it is ahead of k
      have hqk : q < k := by
        rcases Nat.lt_or_ge q k with h4 | h4
        · exact h4
        · have := heap_mono hst (i := k + 1) (j := q) (by omega) (by omega)
          omega
      have hlt : id < (Hf k).length := Nat.lt_of_lt_of_le h2 (heap_mono hst (by omega) (by omega))
      have hnw : ¬ wrote (lf k) id := fun hw => by
        rcases hap q k _ _ hqk (hopi q hq) hk with h5 | ⟨h5, _⟩
        · exact hn.1 (hrdy q h5)
        · exact clash_spec h5 (.inl ⟨(made_wrote (heap_mono hst (by omega) (by omega))).2 (.inl ⟨h1, h2⟩), made_touched hw.touched⟩)
      rw [h2lt id h3, hres.tr.eqs id hlt hnw, cut_lt hlt]
      exact hI.crt id q hq h1 h2 hn.1
    · rw [h2ge id (by omega)]
      exact hI.crt id q hq h1 h2 hn.1
  · intro j hj t vv uu h1 h2 h3 h4
    by_cases hd : o.dst = some t
    · have hkj : k < j := by
        rcases Nat.lt_or_ge k j with h5 | h5
        · exact h5
        · exact absurd (.inr rfl) (h2 k o h5 hk hd)
      have hno : ∀ i x, k + 1 ≤ i → i < j → ops[i]? = some x → x.dst ≠ some t := fun i x hi hij hx hxd => by
        have hS := h1 i x hij hx hxd
        rcases hS with hS | hS
        · rcases hap k i o x (by omega) hk hx with h5 | ⟨_, h5⟩
          · exact hSk (hcl i hS k h5)
          · exact ((tmpApart_spec h5).1 t hd).2 hxd
        · omega
      rw [tm_chain hst (by omega) hj hno, htm, put_get, if_pos hd] at h3
      rw [aput_get, if_pos hd] at h4
      split at h3
      · cases h3
        split at h4
        · cases h4
          refine hv.mono (fun id => ?_) (fun _ _ h => h) (fun _ _ _ _ h => h)
          by_cases h5 : id < (Hf (k + 1)).length
          · have h6 : id < (Hf j).length := Nat.lt_of_lt_of_le h5 (heap_mono hst (by omega) hj)
            rw [cut_lt h6, h2lt id h5]
            exact Lc.later.refl _
          · rw [hres.hp.dom id (by omega)]; trivial
        · cases h4
      · cases h3
    · rw [aput_get, if_neg hd] at h4
      have := hI.tmv j hj t vv uu (fun i x hi hx hxd => by
        rcases h1 i x hi hx hxd with h5 | h5
        · exact h5
        · subst h5
          rw [hk] at hx
          cases hx
          exact absurd hxd hd) (fun i x hi hx hxd hS => h2 i x hi hx hxd (.inl hS)) h3 h4
      exact this.mono (cut_later (Nat.le_refl _) fun id _ => hlat id) hres.tr.imm hcells
  · intro j hj id hTid h1 h2 ob hob
    have hidj : id < (Hf j).length := (List.getElem?_eq_some_iff.1 hob).1
    by_cases hw : wr Hf lf k id
    · have hkj : k < j := by
        rcases Nat.lt_or_ge k j with h5 | h5
        · exact h5
        · exact absurd (.inr rfl) (h2 k h5 hkn hw)
      have hno : ∀ i, k + 1 ≤ i → i < j → ¬ wr Hf lf i id := fun i hi hij hwi => by
        rcases h1 i hij hwi with hS | hS
        · rcases hap k i o _ (by omega) hk (hopi i (by omega)) with h5 | ⟨h5, _⟩
          · exact hSk (hcl i hS k h5)
          · exact clash_spec h5 (.inl ⟨hw, hwi.touched⟩)
        · omega
      have hid1 : id < (Hf (k + 1)).length := by
        rcases Nat.lt_or_ge id (Hf (k + 1)).length with h5 | h5
        · exact h5
        · obtain ⟨i, h6, h7, h8, h9⟩ := wr_new hst (p := k + 1) (q := j) (by omega) hj h5 hidj
          exact absurd ((made_wrote (heap_mono hst (by omega) (by omega))).2 (.inl ⟨h8, h9⟩)) (hno i h6 h7)
      rw [heap_chain hst hid1 (by omega) hj hno] at hob
      have hobk := hres.ob id (by
        rcases (made_wrote hmm).1 hw with h5 | h5
        · exact .inr h5.1
        · exact .inl h5) ob hob
      refine ob_ext (by rw [cut_lt hidj, h2lt id hid1]) (fun i => ?_) hobk
      by_cases h5 : i < (Hf (k + 1)).length
      · have h6 : i < (Hf j).length := Nat.lt_of_lt_of_le h5 (heap_mono hst (by omega) hj)
        rw [cut_lt h6, h2lt i h5]
        exact Lc.later.refl _
      · rw [hres.hp.dom i (by omega)]; trivial
    · have hobs := hI.obv j hj id hTid (fun i hi hwi => by
        rcases h1 i hi hwi with h5 | h5
        · exact h5
        · subst h5; exact absurd hwi hw) (fun i hi hin hwi hS => h2 i hi hin hwi (.inl hS)) ob hob
      have hidN : id < (Hf ops.size).length := Nat.lt_of_lt_of_le hidj (heap_mono hst hj (Nat.le_refl _))
      exact ob_move hTr hI.hp hidN hw (cut_lt hidj) (cut_lt hidj) (cut_later (Nat.le_refl _) fun i _ => hlat i) hobs
  · refine hI.tr.trans (W2 := fun id => wrote (lf k) id) (W1 := fun id => ∃ i, i < ops.size ∧ wrote (lf i) id) (hTr.weaken (by omega) fun id hid hw => ?_) (fun _ h => h) fun id h => ⟨k, hkn, h⟩
    rcases (made_wrote hmm).1 hw with h5 | h5
    · omega
    · exact h5

end

end Go.AE
