/- Regions whose order is open: what is ahead of what, what the evaluator ran through. -/
import Derived.Test.YthdmhibmokhpgaaGreatAESound1
set_option linter.unusedVariables false
set_option linter.unusedSimpArgs false
namespace Go.AE

variable {P : Program} {C : Cfg} {ρ : Type}

theorem predsOf_spec {acc : List Nat} : ∀ {es : List Edge} {i : Nat}, (predsOf acc es).testBit i = true ↔ ∃ e ∈ es, isData e = true ∧ (i = e.on ∨ (acc.getD e.on 0).testBit i = true)
  | [], i => by simp [predsOf]
  | e :: es, i => by
    simp only [predsOf]
    split
    · rename_i hd
      rw [Nat.testBit_or, Nat.testBit_or, Bool.or_eq_true, Bool.or_eq_true, predsOf_spec, Nat.testBit_two_pow]
      constructor
      · rintro (h | h | ⟨e', h1, h2⟩)
        · exact ⟨e, by simp, hd, .inl (of_decide_eq_true h).symm⟩
        · exact ⟨e, by simp, hd, .inr h⟩
        · exact ⟨e', by simp [h1], h2⟩
      · rintro ⟨e', h1, h2, h3⟩
        rcases List.mem_cons.1 h1 with rfl | h1
        · rcases h3 with rfl | h3
          · exact .inl (by simp)
          · exact .inr (.inl h3)
        · exact .inr (.inr ⟨e', h1, h2, h3⟩)
    · rename_i hd
      rw [predsOf_spec]
      constructor
      · rintro ⟨e', h1, h2⟩
        exact ⟨e', by simp [h1], h2⟩
      · rintro ⟨e', h1, h2, h3⟩
        rcases List.mem_cons.1 h1 with rfl | h1
        · exact absurd h2 hd
        · exact ⟨e', h1, h2, h3⟩

theorem preds_spec : ∀ {l : List Oper} {acc : List Nat}, ∃ new, preds acc l = acc ++ new ∧ new.length = l.length ∧ ∀ j o, l[j]? = some o → new[j]? = some (predsOf (acc ++ new.take j) o.after.toList)
  | [], acc => ⟨[], by simp [preds], rfl, fun j o h => by simp at h⟩
  | o :: l, acc => by
    obtain ⟨new, h1, h2, h3⟩ := preds_spec (l := l) (acc := acc ++ [predsOf acc o.after.toList])
    refine ⟨predsOf acc o.after.toList :: new, by simp [preds, h1], by simp [h2], fun j o' hj => ?_⟩
    cases j with
    | zero => simp at hj; subst hj; simp
    | succ j =>
      simp at hj
      have := h3 j o' hj
      simpa using this

/-- What stands ahead of an operation. -/
theorem preds_at {ops : Array Oper} {j : Nat} {o : Oper} (h : ops[j]? = some o) {i : Nat} : ((preds [] ops.toList).getD j 0).testBit i = true ↔
    ∃ e ∈ o.after.toList, isData e = true ∧ (i = e.on ∨ (e.on < j ∧ ((preds [] ops.toList).getD e.on 0).testBit i = true)) := by
  obtain ⟨new, h1, h2, h3⟩ := preds_spec (l := ops.toList) (acc := [])
  rw [List.nil_append] at h1
  rw [h1]
  have hj := h3 j o (by rw [Array.getElem?_toList]; exact h)
  rw [List.nil_append] at hj
  have : new.getD j 0 = predsOf (new.take j) o.after.toList := by simp [List.getD, hj]
  rw [this, predsOf_spec]
  constructor
  · rintro ⟨e, he, hd, h4⟩
    refine ⟨e, he, hd, ?_⟩
    rcases h4 with h4 | h4
    · exact .inl h4
    · simp only [List.getD, List.getElem?_take] at h4
      split at h4
      · rename_i hlt
        exact .inr ⟨hlt, by simpa [List.getD] using h4⟩
      · simp at h4
  · rintro ⟨e, he, hd, h4⟩
    refine ⟨e, he, hd, ?_⟩
    rcases h4 with h4 | ⟨hlt, h4⟩
    · exact .inl h4
    · refine .inr ?_
      simp only [List.getD, List.getElem?_take, if_pos hlt]
      simpa [List.getD] using h4

theorem apartFrom_spec {ops : Array Oper} {p : Nat} {o : Oper} {l : Lg} : ∀ {had : List (Oper × Lg)} {i0 : Nat}, apartFrom ops p o l i0 had = true → ∀ i a m, had[i]? = some (a, m) → p.testBit (i0 + i) = true ∨ (clash m l = false ∧ tmpApart ops a o = true)
  | [], i0, _, i, a, m, h => by simp at h
  | (a0, m0) :: r, i0, h, i, a, m, hi => by
    simp only [apartFrom, Bool.and_eq_true, Bool.or_eq_true, Bool.not_eq_true'] at h
    cases i with
    | zero => simp at hi; obtain ⟨rfl, rfl⟩ := hi; simpa using h.1
    | succ i =>
      have := apartFrom_spec h.2 i a m (by simpa using hi)
      rwa [show i0 + 1 + i = i0 + (i + 1) by omega] at this

theorem drawOk_spec {ops : Array Oper} {ps : List Nat} : ∀ {L had : List (Oper × Lg)}, drawOk ops ps had.length had L = true → ∀ k o l, L[k]? = some (o, l) → ∀ i a m, i < had.length + k → (had ++ L)[i]? = some (a, m) →
    (ps.getD (had.length + k) 0).testBit i = true ∨ (clash m l = false ∧ tmpApart ops a o = true)
  | [], had, _, k, o, l, h, _, _, _, _, _ => by simp at h
  | (o0, l0) :: r, had, h, k, o, l, hk, i, a, m, hi, him => by
    simp only [drawOk, Bool.and_eq_true] at h
    cases k with
    | zero =>
      simp at hk
      obtain ⟨rfl, rfl⟩ := hk
      rw [List.getElem?_append_left (by omega)] at him
      have := apartFrom_spec h.1 i a m him
      simpa using this
    | succ k =>
      have h2 : drawOk ops ps (had ++ [(o0, l0)]).length (had ++ [(o0, l0)]) r = true := by simpa using h.2
      have := drawOk_spec h2 k o l (by simpa using hk) i a m (by simp; omega) (by simpa using him)
      simpa [Nat.add_assoc, Nat.add_comm 1 k] using this

theorem edgesOk_spec : ∀ {l : List Oper} {j : Nat}, edgesOk j l = true → ∀ k o, l[k]? = some o → ∀ e ∈ o.after.toList, isData e = true → e.on < j + k
  | [], j, _, k, o, h, _, _, _ => by simp at h
  | o0 :: r, j, h, k, o, hk, e, he, hd => by
    simp only [edgesOk, Bool.and_eq_true] at h
    cases k with
    | zero =>
      simp at hk
      subst hk
      have := List.all_eq_true.1 h.1 e he
      simp only [hd, Bool.not_true, Bool.false_or, decide_eq_true_eq] at this
      omega
    | succ k =>
      have := edgesOk_spec h.2 k o (by simpa using hk) e he hd
      omega

theorem clash_spec {l m : Lg} {id : Nat} (h : clash l m = false) : ¬ ((wrote l id ∧ touched m id) ∨ (touched l id ∧ wrote m id)) := by
  have key : ∀ a ∈ l, ∀ b ∈ m, meets a b = false := by
    clear id
    induction l with
    | nil => intro a ha; cases ha
    | cons a0 r ih =>
      intro a ha b hb
      simp only [clash, Bool.or_eq_false_iff] at h
      rcases List.mem_cons.1 ha with rfl | ha
      · have := h.1
        rw [List.any_eq_false] at this
        simpa using this b hb
      · exact ih h.2 a ha b hb
  have no : ∀ a ∈ l, ∀ b ∈ m, (a.w = true ∨ b.w = true) → a.id ≤ id → id < a.id + a.n → b.id ≤ id → id < b.id + b.n → False := fun a ha b hb hw h1 h2 h3 h4 => by
    have := key a ha b hb
    have e1 : decide (a.id < b.id + b.n) = true := decide_eq_true (by omega)
    have e2 : decide (b.id < a.id + a.n) = true := decide_eq_true (by omega)
    simp only [meets, e1, e2, Bool.and_true] at this
    rcases hw with hw | hw <;> simp [hw] at this
  rintro (⟨⟨a, h1, h2, h3, h4⟩, ⟨b, h5, h6, h7⟩⟩ | ⟨⟨a, h1, h3, h4⟩, ⟨b, h5, h2, h6, h7⟩⟩)
  · exact no a h1 b h5 (.inl h2) h3 h4 h6 h7
  · exact no a h1 b h5 (.inr h2) h3 h4 h6 h7

theorem tmpApart_spec {ops : Array Oper} {a b : Oper} (h : tmpApart ops a b = true) : (∀ d, a.dst = some d → d ∉ readsOf ops b ∧ b.dst ≠ some d) ∧ ∀ d, b.dst = some d → d ∉ readsOf ops a := by
  simp only [tmpApart, Bool.and_eq_true] at h
  obtain ⟨h1, h2⟩ := h
  constructor
  · intro d hd
    rw [hd] at h1
    simp only [Bool.and_eq_true, Bool.not_eq_true'] at h1
    refine ⟨fun hm => ?_, fun he => ?_⟩
    · have := List.contains_iff_mem.2 hm
      rw [h1.1] at this
      cases this
    · rw [he] at h1
      simp at h1
  · intro d hd
    rw [hd] at h2
    simp only [Bool.not_eq_true'] at h2
    intro hm
    have := List.contains_iff_mem.2 hm
    rw [h2] at this
    cases this

/-- One operation of a region, as the evaluator ran it. -/
def OpStep (P : Program) (ops : Array Oper) (o : Oper) (tm tm' : List V) (H H' : List Ob) (l : Lg) : Prop :=
  ∃ b v, (∀ (σ : Sg) (Φ : Im) (w : World) (a : Act), (∀ t ∈ readsOf ops o, R σ Φ w (tm.getD t .und) (a.tmps.getD t undef)) → Region.wanted o (yielded ops a.tmps) = b) ∧ tm' = put tm o.dst v ∧ Fr H l H' ∧
    (b = true → OpSem P o tm H v H' l) ∧ (b = false → v = .und ∧ H' = H ∧ l = [])

theorem evOpsD_sound (hT : TysOk P C) {call : CallK ρ} (hC : CallsOk P C call) {ops : Array Oper} : ∀ {l : List Oper} {st : St} {acc : List (Oper × Lg)} {K : St → List (Oper × Lg) → Option ρ} {r : ρ}, evOpsD C call ops l st acc K = some r →
    ∃ (tmf : Nat → List V) (Hf : Nat → List Ob) (lf : Nat → Lg) (lgs : Lg) (L : List (Oper × Lg)), tmf 0 = st.tm ∧ Hf 0 = st.H ∧ (∀ j o, l[j]? = some o → OpStep P ops o (tmf j) (tmf (j + 1)) (Hf j) (Hf (j + 1)) (lf j)) ∧
      K ⟨tmf l.length, Hf l.length, lgs ++ st.lg⟩ (acc ++ L) = some r ∧ L.length = l.length ∧ (∀ j o, l[j]? = some o → L[j]? = some (o, made (Hf j).length (Hf (j + 1)).length (lf j))) ∧
      (∀ id, touched lgs id ↔ ∃ j, j < l.length ∧ touched (lf j) id) ∧ (∀ id, wrote lgs id ↔ ∃ j, j < l.length ∧ wrote (lf j) id)
  | [], st, acc, K, r, h => ⟨fun _ => st.tm, fun _ => st.H, fun _ => [], [], [], rfl, rfl, fun j o h => (by simp at h), by simpa [evOpsD] using h, rfl, fun j o h => (by simp at h), fun id => by simp [touched], fun id => by simp [wrote]⟩
  | o :: l, ⟨tm, H, lg⟩, acc, K, r, h => by
    simp only [evOpsD, fcV_eq, nfIf_eq, putO_eq] at h
    obtain ⟨b, h1, hw⟩ := evGuard_sound h
    have fin : ∀ (tm1 : List V) (H1 : List Ob) (l1 : Lg), OpStep P ops o tm tm1 H H1 l1 → evOpsD C call ops l ⟨tm1, H1, l1 ++ lg⟩ (acc ++ [(o, made H.length H1.length l1)]) K = some r →
        ∃ (tmf : Nat → List V) (Hf : Nat → List Ob) (lf : Nat → Lg) (lgs : Lg) (L : List (Oper × Lg)), tmf 0 = tm ∧ Hf 0 = H ∧ (∀ j o', (o :: l)[j]? = some o' → OpStep P ops o' (tmf j) (tmf (j + 1)) (Hf j) (Hf (j + 1)) (lf j)) ∧
          K ⟨tmf (o :: l).length, Hf (o :: l).length, lgs ++ lg⟩ (acc ++ L) = some r ∧ L.length = (o :: l).length ∧ (∀ j o', (o :: l)[j]? = some o' → L[j]? = some (o', made (Hf j).length (Hf (j + 1)).length (lf j))) ∧
          (∀ id, touched lgs id ↔ ∃ j, j < (o :: l).length ∧ touched (lf j) id) ∧ (∀ id, wrote lgs id ↔ ∃ j, j < (o :: l).length ∧ wrote (lf j) id) := by
      intro tm1 H1 l1 hstep hev
      obtain ⟨tmf, Hf, lf, lgs, L, e1, e2, e3, e4, e5, e6, e7, e8⟩ := evOpsD_sound hT hC hev
      refine ⟨fun j => match j with | 0 => tm | j + 1 => tmf j, fun j => match j with | 0 => H | j + 1 => Hf j, fun j => match j with | 0 => l1 | j + 1 => lf j, lgs ++ l1, (o, made H.length H1.length l1) :: L, rfl, rfl, fun j o' hj => ?_, ?_, by simp [e5], fun j o' hj => ?_, fun id => ?_, fun id => ?_⟩
      · cases j with
        | zero =>
          simp at hj
          subst hj
          dsimp only at e1 e2 ⊢
          rw [e1, e2]
          exact hstep
        | succ j => exact e3 j o' (by simpa using hj)
      · simpa using e4
      · cases j with
        | zero =>
          simp at hj
          subst hj
          dsimp only at e2 ⊢
          rw [e2]
          rfl
        | succ j => simpa using e6 j o' (by simpa using hj)
      · rw [touched_append, e7]
        constructor
        · rintro (⟨j, h1, h2⟩ | h1)
          · exact ⟨j + 1, by simp; omega, h2⟩
          · exact ⟨0, by simp, h1⟩
        · rintro ⟨j, h1, h2⟩
          cases j with
          | zero => exact .inr h2
          | succ j => exact .inl ⟨j, by simp at h1; omega, h2⟩
      · rw [wrote_append, e8]
        constructor
        · rintro (⟨j, h1, h2⟩ | h1)
          · exact ⟨j + 1, by simp; omega, h2⟩
          · exact ⟨0, by simp, h1⟩
        · rintro ⟨j, h1, h2⟩
          cases j with
          | zero => exact .inr h2
          | succ j => exact .inl ⟨j, by simp at h1; omega, h2⟩
    cases b with
    | true =>
      dsimp only at h1
      obtain ⟨v, H1, l1, h2, hf, hsem⟩ := evOp_sound hT hC h1
      rw [List.append_nil] at h2
      exact fin _ _ _ ⟨true, v, hw, rfl, hf, fun _ => hsem, fun e => by cases e⟩ h2
    | false =>
      dsimp only at h1
      have hm : made H.length H.length [] = [] := by simp [made]
      refine fin (put tm o.dst .und) H [] ⟨false, .und, hw, rfl, Fr.refl _ _, fun e => (by cases e), fun _ => ⟨rfl, rfl, rfl⟩⟩ ?_
      rw [hm]
      exact h1

end Go.AE
