/- How arguments and results are told: what is read off a value tells it. -/
import Derived.Test.YthdmhibmokhpgaaGreatAESpec1
import Derived.Test.YthdmhibmokhpgaaGreatAEDec
set_option linter.unusedVariables false
set_option linter.unusedSimpArgs false
namespace Go.AE

/-- What is read off a value tells that value, without places. -/
def DecOk {X : Type} (dec : V → Option X) (enc : X → V) : Prop := ∀ v x, dec v = some x → ∀ (σ : Sg) (Φ : Im) (w : World) (u : Value), R σ Φ w v u → R (fun _ => .none) Φ w (enc x) u

theorem dI_ok (k : IntKind) : DecOk (dI k) (V.i k) := fun v x h σ Φ w u hr => by
  cases v <;> simp only [dI] at h <;> try (cases h; done)
  split at h
  · rename_i hk
    have hk := isKind_eq hk
    subst hk
    cases h
    cases hr
    exact .i _ _
  · cases h

theorem dB_ok : DecOk dB V.b := fun v x h σ Φ w u hr => by
  cases v <;> simp only [dB] at h <;> try (cases h; done)
  cases h
  cases hr
  exact .b _

theorem dS_ok : DecOk dS V.s := fun v x h σ Φ w u hr => by
  cases v <;> simp only [dS] at h <;> try (cases h; done)
  cases h
  cases hr
  exact .s _

theorem asSl_ok (t : STy) : DecOk (asSl t) (fun xs => V.sl t xs false) := fun v x h σ Φ w u hr => (asSl_R h hr).pl rfl

theorem dEl_ok (t : STy) : DecOk (dEl t) (eEl t) := fun v x h σ Φ w u hr => by
  cases v with
  | agg cs =>
    cases hr with
    | agg _ us hl hr h1 =>
      have := pl_any (σ' := fun _ => .none) (fun v hv => isPl_mem hv) (ofCells_R h ⟨hl, hr⟩)
      exact .agg _ us this.1 this.2 h1
  | _ => simp [dEl] at h

theorem agg_ok {cs cs' : List V} {σ : Sg} {Φ : Im} {w : World} {u : Value} (hr : R σ Φ w (.agg cs) u) (h : ∀ us, Rs σ Φ w cs us → Rs (fun _ => .none) Φ w cs' us) : R (fun _ => .none) Φ w (.agg cs') u := by
  cases hr with
  | agg _ us hl hr h1 =>
    have := h us ⟨hl, hr⟩
    exact .agg _ us this.1 this.2 h1

theorem dMemD_ok : DecOk dMemD eMemD := fun v x h σ Φ w u hr => by
  unfold dMemD at h
  split at h
  · rename_i wv gv b
    split at h
    · rename_i ws gs hw hg
      cases h
      refine agg_ok hr fun us hrs => ?_
      obtain ⟨u0, us, rfl, h0, hrs⟩ := hrs.split
      obtain ⟨u1, us, rfl, h1, hrs⟩ := hrs.split
      obtain ⟨u2, us, rfl, h2, hrs⟩ := hrs.split
      obtain rfl := hrs.nil_inv
      cases h2
      exact Rs.cons (asSl_ok _ _ _ hw _ _ _ _ h0) (Rs.cons (asSl_ok _ _ _ hg _ _ _ _ h1) (Rs.cons (.b _) Rs.nil))
    · cases h
  · cases h

theorem dSysD_ok : DecOk dSysD eSysD := fun v x h σ Φ w u hr => by
  unfold dSysD at h
  split at h
  · split at h
    · rename_i hw hg hc hl
      cases h
      refine agg_ok hr fun us hrs => ?_
      obtain ⟨u0, us, rfl, h0, hrs⟩ := hrs.split
      obtain ⟨u1, us, rfl, h1, hrs⟩ := hrs.split
      obtain ⟨u2, us, rfl, h2, hrs⟩ := hrs.split
      obtain ⟨u3, us, rfl, h3, hrs⟩ := hrs.split
      obtain ⟨u4, us, rfl, h4, hrs⟩ := hrs.split
      obtain rfl := hrs.nil_inv
      cases h2
      exact Rs.cons (asSl_ok _ _ _ hw _ _ _ _ h0) (Rs.cons (asSl_ok _ _ _ hg _ _ _ _ h1) (Rs.cons (.b _) (Rs.cons (asSl_ok _ _ _ hc _ _ _ _ h3) (Rs.cons (asSl_ok _ _ _ hl _ _ _ _ h4) Rs.nil))))
    · cases h
  · cases h

theorem dKernD_ok : DecOk dKernD eKernD := fun v x h σ Φ w u hr => by
  unfold dKernD at h
  split at h
  · split at h
    · rename_i hw hg hc hl ht ho hu
      cases h
      refine agg_ok hr fun us hrs => ?_
      obtain ⟨u0, us, rfl, h0, hrs⟩ := hrs.split
      obtain ⟨u1, us, rfl, h1, hrs⟩ := hrs.split
      obtain ⟨u2, us, rfl, h2, hrs⟩ := hrs.split
      obtain ⟨u3, us, rfl, h3, hrs⟩ := hrs.split
      obtain ⟨u4, us, rfl, h4, hrs⟩ := hrs.split
      obtain ⟨u5, us, rfl, h5, hrs⟩ := hrs.split
      obtain ⟨u6, us, rfl, h6, hrs⟩ := hrs.split
      obtain ⟨u7, us, rfl, h7, hrs⟩ := hrs.split
      obtain rfl := hrs.nil_inv
      cases h2
      exact Rs.cons (asSl_ok _ _ _ hw _ _ _ _ h0) (Rs.cons (asSl_ok _ _ _ hg _ _ _ _ h1) (Rs.cons (.b _) (Rs.cons (asSl_ok _ _ _ hc _ _ _ _ h3) (Rs.cons (asSl_ok _ _ _ hl _ _ _ _ h4) (Rs.cons (asSl_ok _ _ _ ht _ _ _ _ h5) (Rs.cons (asSl_ok _ _ _ ho _ _ _ _ h6) (Rs.cons (asSl_ok _ _ _ hu _ _ _ _ h7) Rs.nil)))))))
    · cases h
  · cases h

theorem dFrameD_ok : DecOk dFrameD eFrameD := dEl_ok .frame
theorem dCoreD_ok : DecOk dCoreD eCoreD := dEl_ok .core
theorem dEvD_ok : DecOk dEvD eEvD := dEl_ok .ev
theorem dCallD_ok : DecOk dCallD eCallD := dEl_ok .call
theorem dPastD_ok : DecOk dPastD ePastD := dEl_ok .past
theorem dThreadD_ok : DecOk dThreadD eThreadD := dEl_ok .thread
theorem dStepD_ok : DecOk dStepD eStepD := dEl_ok .step
theorem dMoveD_ok : DecOk dMoveD eMoveD := dEl_ok .move

theorem dResD_ok : DecOk dResD eResD := fun v x h σ Φ w u hr => by
  unfold dResD at h
  split at h
  · cases h
    refine agg_ok hr fun us hrs => ?_
    obtain ⟨u0, us, rfl, h0, hrs⟩ := hrs.split
    obtain ⟨u1, us, rfl, h1, hrs⟩ := hrs.split
    obtain rfl := hrs.nil_inv
    cases h0; cases h1
    exact Rs.cons (.i _ _) (Rs.cons (.i _ _) Rs.nil)
  · cases h

theorem dInt3_ok : DecOk dInt3 eInt3 := fun v x h σ Φ w u hr => by
  unfold dInt3 at h
  split at h
  · cases h
    refine agg_ok hr fun us hrs => ?_
    obtain ⟨u0, us, rfl, h0, hrs⟩ := hrs.split
    obtain ⟨u1, us, rfl, h1, hrs⟩ := hrs.split
    obtain ⟨u2, us, rfl, h2, hrs⟩ := hrs.split
    obtain rfl := hrs.nil_inv
    cases h0; cases h1; cases h2
    exact Rs.cons (.i _ _) (Rs.cons (.i _ _) (Rs.cons (.i _ _) Rs.nil))
  · cases h

end Go.AE
