/- Code is sound: the evaluator, whole. -/
import Derived.Test.YthdmhibmokhpgaaGreatAESound3
set_option linter.unusedVariables false
set_option linter.unusedSimpArgs false
namespace Go.AE

variable {P : Program} {C : Cfg} {ρ : Type}

/-- Rounds, told of all objects. -/
def LoopAll (P : Program) (base : Nat) (c : Code) (st : St) (e : Ex) (st' : St) : Prop :=
  ∀ (σ : Sg) (Φ : Im) (a : Act) (w : World), Rel (fun _ => True) σ Φ st a w →
    ∀ Q : Exit → Act → World → Prop, (∀ σ' Φ' a' w', Rel (fun _ => True) σ' Φ' st' a' w' → Tr base (fun _ => True) σ Φ w σ' Φ' w' → Q e.ex a' w') → LoopWp P c Q a w

theorem iter_sound {base n : Nat} {c : Code} {body : BodyK ρ} (hb : BodyOk P base c body) (hn : base ≤ n) (ks : List Nat) {K : Ex → St → Option ρ} : ∀ {k : Nat} {st : St} {r : ρ}, base ≤ st.H.length → iter ks base n body K k st = some r →
    ∃ e st' l, K e st' = some r ∧ st'.lg = l ++ st.lg ∧ base ≤ st'.H.length ∧ LoopAll P base c st e st'
  | 0, st, r, _, h => by simp [iter] at h
  | k + 1, st, r, hbs, h => by
    simp only [iter] at h
    obtain ⟨e, st1, l1, h1, habs, hs⟩ := hb _ _ _ hbs h
    cases e with
    | normal =>
      have hcl : (st1.cut ks base n).H.length = min n st1.H.length := by simp [St.cut, scrubObs_length]
      obtain ⟨e, st', l2, h2, hlg, hle, hs2⟩ := iter_sound hb hn ks (by rw [hcl]; have := habs.le; omega) h1
      refine ⟨e, st', l2 ++ l1, h2, ?_, hle, fun σ Φ a w hr Q hQ => ?_⟩
      · rw [hlg]
        show l2 ++ st1.lg = _
        rw [habs.lg]
        simp
      · refine LoopWp.round (hs (fun _ => True) σ Φ a w (fun _ _ => trivial) (fun _ _ => trivial) hr _ fun σ1 Φ1 a1 w1 h3 h4 => ?_)
        obtain ⟨σ2, h5, h6⟩ := cut_sound (fun _ => trivial) h3 ks hn (fun _ => True)
        exact hs2 σ2 Φ1 a1 w1 h5 Q fun σ' Φ' a' w' h7 h8 => hQ σ' Φ' a' w' h7 ((h4.trans h6 (fun _ _ => trivial) (fun _ _ => trivial)).trans h8 (fun _ _ => trivial) fun _ _ => trivial)
    | _ =>
      refine ⟨_, st1, l1, h1, habs.lg, habs.le, fun σ Φ a w hr Q hQ => ?_⟩
      exact round_exit (by simp) hs (fun _ => True) σ Φ a w (fun _ _ => trivial) (fun _ _ => trivial) hr Q fun σ' Φ' a' w' h3 h4 => hQ σ' Φ' a' w' h3 (h4.weaken (Nat.le_refl _) fun _ _ _ => trivial)

theorem Rel.all {T : Nat → Prop} (hT : ∀ id, T id) {σ : Sg} {Φ : Im} {st : St} {a : Act} {w : World} (h : Rel T σ Φ st a w) : Rel (fun _ => True) σ Φ st a w := ⟨h.hp, fun id _ => h.ob id (hT id), h.tm, h.df⟩
theorem Rel.any {T : Nat → Prop} {σ : Sg} {Φ : Im} {st : St} {a : Act} {w : World} (h : Rel (fun _ => True) σ Φ st a w) : Rel T σ Φ st a w := ⟨h.hp, fun id _ => h.ob id trivial, h.tm, h.df⟩

theorem loopAt_spec {f id base : Nat} {st : St} : ∀ {l : List (Nat × Nat × LSpec)} {x : (L : LSpec) × Option (L.A ⊕ L.B)}, loopAt f id base l st = some x → (f, id, x.1) ∈ l ∧ x.1.base = base ∧ x.1.run st = some x.2
  | [], x, h => by simp [loopAt] at h
  | (g, j, L) :: r, x, h => by
    simp only [loopAt] at h
    split at h
    · rename_i hc
      obtain ⟨rfl, rfl, hb⟩ := hc
      split at h
      · rename_i o ho
        cases h
        exact ⟨by simp, hb.symm, ho⟩
      · obtain ⟨h1, h2⟩ := loopAt_spec h
        exact ⟨List.mem_cons_of_mem _ h1, h2⟩
    · obtain ⟨h1, h2⟩ := loopAt_spec h
      exact ⟨List.mem_cons_of_mem _ h1, h2⟩

theorem wrote_noted {n id : Nat} (h : id < n) (l : Lg) : wrote (l ++ [⟨true, 0, n⟩]) id := wrote_append.2 (.inr ⟨⟨true, 0, n⟩, by simp, rfl, Nat.zero_le _, by simpa using h⟩)

theorem findLabel_LI {F : Nat → Option Code} : ∀ {a c : Code} {l : Nat}, LI F a → findLabel a l = some c → LI F c
  | .seq a b, c, l, hl, h => by
    simp only [findLabel] at h
    split at h
    · rename_i rest hr
      cases h
      exact ⟨findLabel_LI hl.1 hr, hl.2⟩
    · exact findLabel_LI hl.2 h
  | .label l', c, l, hl, h => by
    simp only [findLabel] at h
    split at h
    · cases h; trivial
    · cases h
  | .skip, _, _, _, h => by simp [findLabel] at h
  | .region .., _, _, _, h => by simp [findLabel] at h
  | .cond .., _, _, _, h => by simp [findLabel] at h
  | .block .., _, _, _, h => by simp [findLabel] at h
  | .loop .., _, _, _, h => by simp [findLabel] at h
  | .exit .., _, _, _, h => by simp [findLabel] at h
  | .goto .., _, _, _, h => by simp [findLabel] at h
  | .ret, _, _, _, h => by simp [findLabel] at h
  | .scope .., _, _, _, h => by simp [findLabel] at h
  | .rangeFunc .., _, _, _, h => by simp [findLabel] at h

theorem LI_block {F : Nat → Option Code} {id : Nat} {c : Code} (h : LI F (.block id c)) : (∀ b, c = .loop b → F id = some b ∧ LI F b) ∧ ((∀ b, c ≠ .loop b) → LI F c) := by
  cases c with
  | loop b => exact ⟨fun b' e => (by cases e; exact h), fun hn => absurd rfl (hn b)⟩
  | seq a b => exact ⟨fun b' e => (by cases e), fun _ => h⟩
  | cond x a b => exact ⟨fun b' e => (by cases e), fun _ => h⟩
  | block j a => exact ⟨fun b' e => (by cases e), fun _ => h⟩
  | scope a => exact ⟨fun b' e => (by cases e), fun _ => h⟩
  | _ => exact ⟨fun b' e => (by cases e), fun _ => trivial⟩

/-- What the tables promise of a function's own code. -/
structure CodeOk (P : Program) (C : Cfg) (f : Nat) (F : Nat → Option Code) : Prop where
  loops : ∀ id L b, (f, id, L) ∈ C.loops → F id = some b → LSpecOk P b L

/-- What the tables promise of functions. -/
structure FnsOk (P : Program) (C : Cfg) : Prop where
  fn : ∀ g fn, look g C.fns = some fn → P.funcs[g]? = some fn ∧ fn.name ≠ "runtime.NumGoroutine" ∧ ∀ c, fn.body = some c → LI (fun id => loopIn id c) c ∧ CodeOk P C g fun id => loopIn id c

/-- What a function hands back, one after the other. -/
theorem resultsOf_sound (hT : TysOk P C) {T : Nat → Prop} {σ : Sg} {Φ : Im} {st : St} {a : Act} {w : World} (hr : Rel T σ Φ st a w) : ∀ {rs : List ResultVar} {vs : List V}, resultsOf C st.H st.tm rs = some vs → (∀ id, touched (resultReads C st.tm rs) id → T id) →
    ∃ us, (rs.mapM fun r => (match r with | .tmp t => pure (a.tmps.getD t undef) | .cell x t => do loadVar t (← asAddr (a.tmps.getD x undef)) : Sem Value)).run P w = .ok us w ∧ Rs σ Φ w vs us
  | [], vs, h, _ => by
    simp only [resultsOf, Option.some.injEq] at h
    subst h
    exact ⟨[], by simp, Rs.nil⟩
  | .tmp t :: r, vs, h, hT1 => by
    simp only [resultsOf] at h
    split at h
    · rename_i l hl
      cases h
      obtain ⟨us, h1, h2⟩ := resultsOf_sound hT hr hl hT1
      refine ⟨a.tmps.getD t undef :: us, ?_, Rs.cons (hr.getD t) h2⟩
      simp only [List.mapM_cons, Sem.run_bind, Sem.run_pure, Result.andThen_ok, h1]
    · cases h
  | .cell x ty :: r, vs, h, hT1 => by
    simp only [resultsOf] at h
    split at h
    · rename_i id k ti hx hti
      obtain ⟨i, d, z, ht⟩ := ty_at hT hti
      split at h
      · cases h
      · rename_i hk
        split at h
        · rename_i cs hcs
          split at h
          · rename_i v l hv hl
            cases h
            have hreads : resultReads C st.tm (.cell x ty :: r) = ⟨false, id, ti.size⟩ :: resultReads C st.tm r := by simp only [resultReads, hx, hti]
            obtain ⟨us, h1, h2⟩ := resultsOf_sound hT hr hl fun id' hid => hT1 id' (by rw [hreads]; exact touched_cons.2 (.inr hid))
            have hxr := hr.getD x
            rw [hx] at hxr
            generalize hq : a.tmps.getD x undef = q at hxr
            cases hxr with
            | p _ _ b off hb =>
              obtain ⟨ws, h3, h4, h5, h6, h7⟩ := loadC_sound hcs (fun i hi => hr.ob i (hT1 i (by rw [hreads]; exact touched_cons.2 (.inl hi)))) fun j hj => hb j (by omega)
              obtain ⟨u, hu, ha, hs⟩ := mkVal_sound hv h3 h5
              have hload := run_loadVar (P := P) ht h4 (fun j y hj => (h7 j y hj).1) ha hs
              refine ⟨u :: us, ?_, Rs.cons hu h2⟩
              have e : asAddr (a.tmps.getD x undef) = pure ⟨b, off, Option.none⟩ := by rw [hq]; rfl
              simp only [List.mapM_cons, Sem.run_bind, e, Sem.run_pure, Result.andThen_ok, hload, h1]
          · cases h
        · cases h
    · cases h

theorem tuple_sound {σ : Sg} {Φ : Im} {w : World} {vs : List V} {us : List Value} (h : Rs σ Φ w vs us) : R σ Φ w (tuple vs) (if h : us.toArray.size = 1 then us.toArray[0] else .tuple us.toArray) := by
  match vs, us, h with
  | [], [], h => exact .tup [] [] rfl (fun _ _ _ h => by simp at h)
  | [v], [u], h => exact h.2 0 v u rfl rfl
  | v :: v' :: vs, u :: u' :: us, h => exact .tup _ (u :: u' :: us) h.1 h.2
  | [], _ :: _, h => have := h.1; simp at this
  | _ :: _, [], h => have := h.1; simp at this
  | [_], _ :: _ :: _, h => have := h.1; simp at this
  | _ :: _ :: _, [_], h => have := h.1; simp at this

theorem results_run (hT : TysOk P C) {T : Nat → Prop} {σ : Sg} {Φ : Im} {st : St} {a : Act} {w : World} (hr : Rel T σ Φ st a w) {fn : Func} {vs : List V} (h : resultsOf C st.H st.tm fn.results.toList = some vs) (hT1 : ∀ id, touched (resultReads C st.tm fn.results.toList) id → T id) :
    ∃ u, (results fn a.tmps).run P w = .ok u w ∧ R σ Φ w (tuple vs) u := by
  obtain ⟨us, h1, h2⟩ := resultsOf_sound hT hr h hT1
  refine ⟨_, ?_, tuple_sound h2⟩
  unfold results
  rw [Sem.run_bind]
  rw [← Array.toArray_toList (xs := fn.results), List.mapM_toArray, Sem.run_map]
  have h1' := h1
  erw [h1]
  rfl

def EvOk (P : Program) (C : Cfg) (ρ : Type) (d : Nat) : Prop :=
  (∀ (f base : Nat) (F : Nat → Option Code), CodeOk P C f F → ∀ (c : Code) (st : St) (K : Ex → St → Option ρ) (r : ρ), LI F c → base ≤ st.H.length → evC C f base d c st K = some r → ∃ e st' l, K e st' = some r ∧ Abs base st st' l ∧ CodeSem P base c st e st' l) ∧
  (∀ (f base : Nat) (F : Nat → Option Code), CodeOk P C f F → ∀ (s c : Code) (st : St) (K : Ex → St → Option ρ) (r : ρ), LI F s → LI F c → base ≤ st.H.length → evScope C f base d s c st K = some r →
    ∃ e st' l, K e st' = some r ∧ Abs base st st' l ∧ ∀ (T : Nat → Prop) (σ : Sg) (Φ : Im) (a : Act) (w : World), (∀ id, touched l id → T id) → (∀ id, base ≤ id → T id) → Rel T σ Φ st a w →
      ∀ Q : Exit → Act → World → Prop, (∀ σ' Φ' a' w', Rel T σ' Φ' st' a' w' → Tr base (wrote l) σ Φ w σ' Φ' w' → Q e.ex a' w') → ScopeWp P s c Q a w) ∧
  CallOk P (evCall (ρ := ρ) C d)

theorem evC_sound (hP : P.follows .mixedOrders = true) (hT : TysOk P C) (hF : FnsOk P C) (hcalls : ∀ call : CallK ρ, CallOk P call → CallsOk P C call) : ∀ d, EvOk P C ρ d
  | 0 => by
    refine ⟨fun f base F _ c st K r _ _ h => ?_, fun f base F _ s c st K r _ _ _ h => ?_, fun g args H lg K r h => ?_⟩
    · simp [evC] at h
    · simp [evScope] at h
    · simp [evCall] at h
  | d + 1 => by
    obtain ⟨ihC, ihS, ihK⟩ := evC_sound hP hT hF hcalls d
    have hC := hcalls _ ihK
    refine ⟨fun f base F hFo c st K r hli hb h => ?_, fun f base F hFo s c st K r hls hli hb h => ?_, fun g args H lg K r h => ?_⟩
    · cases c with
      | skip =>
        simp only [evC] at h
        exact ⟨.normal, st, [], h, ⟨rfl, hb, fun _ _ _ => rfl⟩, fun T σ Φ a w _ _ hr Q hQ => wp_skip (hQ σ Φ a w hr (Tr.refl _ _ _ _ _))⟩
      | label l =>
        simp only [evC] at h
        exact ⟨.normal, st, [], h, ⟨rfl, hb, fun _ _ _ => rfl⟩, fun T σ Φ a w _ _ hr Q hQ => wp_label (hQ σ Φ a w hr (Tr.refl _ _ _ _ _))⟩
      | exit l =>
        simp only [evC] at h
        exact ⟨.exit l, st, [], h, ⟨rfl, hb, fun _ _ _ => rfl⟩, fun T σ Φ a w _ _ hr Q hQ => wp_exit (hQ σ Φ a w hr (Tr.refl _ _ _ _ _))⟩
      | goto l =>
        simp only [evC] at h
        exact ⟨.goto l, st, [], h, ⟨rfl, hb, fun _ _ _ => rfl⟩, fun T σ Φ a w _ _ hr Q hQ => wp_goto (hQ σ Φ a w hr (Tr.refl _ _ _ _ _))⟩
      | ret =>
        simp only [evC] at h
        exact ⟨.ret, st, [], h, ⟨rfl, hb, fun _ _ _ => rfl⟩, fun T σ Φ a w _ _ hr Q hQ => wp_ret (hQ σ Φ a w hr (Tr.refl _ _ _ _ _))⟩
      | region id ops draw =>
        cases draw with
        | false =>
          simp only [evC] at h
          obtain ⟨st', l, h1, habs, hs⟩ := evOps_sound (base := base) hT hC (i := 0) (ops := ops) (fun j => by simp) hb h
          refine ⟨.normal, st', l, h1, habs, fun T σ Φ a w hT1 hT2 hr Q hQ => wp_region ?_⟩
          have := hs T σ Φ a w hT1 hT2 hr Q hQ
          rwa [Array.length_toList, ← List.range_eq_range'] at this
        | true =>
          simp only [evC] at h
          obtain ⟨st', l, h1, habs, hs⟩ := evDraw_sound hP hT hC hb h id
          exact ⟨.normal, st', l, h1, habs, hs⟩
      | seq x y =>
        simp only [evC] at h
        obtain ⟨e1, st1, l1, h1, habs1, hs1⟩ := ihC f base F hFo x st _ r hli.1 hb h
        cases e1 with
        | normal =>
          obtain ⟨e, st', l2, h2, habs2, hs2⟩ := ihC f base F hFo y st1 K r hli.2 habs1.le h1
          refine ⟨e, st', l2 ++ l1, h2, habs1.trans habs2, fun T σ Φ a w hT1 hT2 hr Q hQ => wp_seq ?_⟩
          refine hs1 T σ Φ a w (fun id h => hT1 id (touched_append.2 (.inr h))) hT2 hr _ fun σ1 Φ1 a1 w1 h3 h4 => ?_
          exact hs2 T σ1 Φ1 a1 w1 (fun id h => hT1 id (touched_append.2 (.inl h))) hT2 h3 Q fun σ' Φ' a' w' h5 h6 => hQ σ' Φ' a' w' h5 (h4.trans h6 (fun id h => wrote_append.2 (.inr h)) fun id h => wrote_append.2 (.inl h))
        | exit j => exact ⟨_, st1, l1, h1, habs1, fun T σ Φ a w hT1 hT2 hr Q hQ => wp_seq (hs1 T σ Φ a w hT1 hT2 hr _ hQ)⟩
        | goto j => exact ⟨_, st1, l1, h1, habs1, fun T σ Φ a w hT1 hT2 hr Q hQ => wp_seq (hs1 T σ Φ a w hT1 hT2 hr _ hQ)⟩
        | ret => exact ⟨_, st1, l1, h1, habs1, fun T σ Φ a w hT1 hT2 hr Q hQ => wp_seq (hs1 T σ Φ a w hT1 hT2 hr _ hQ)⟩
      | cond x y z =>
        simp only [evC] at h
        split at h
        · rename_i b hx
          have hev : ∀ {T : Nat → Prop} {σ : Sg} {Φ : Im} {a : Act} {w : World}, Rel T σ Φ st a w → a.eval x = .bool b := fun hr => by
            have := hr.opd x
            rw [hx] at this
            generalize hq : Act.eval _ x = q at this
            cases this
            rfl
          rcases brB_some h with ⟨rfl, h'⟩ | ⟨rfl, h'⟩
          · obtain ⟨e, st', l, h2, habs, hs⟩ := ihC f base F hFo y st K r hli.1 hb h'
            exact ⟨e, st', l, h2, habs, fun T σ Φ a w hT1 hT2 hr Q hQ => wp_cond_true (hev hr) (hs T σ Φ a w hT1 hT2 hr Q hQ)⟩
          · obtain ⟨e, st', l, h2, habs, hs⟩ := ihC f base F hFo z st K r hli.2 hb h'
            exact ⟨e, st', l, h2, habs, fun T σ Φ a w hT1 hT2 hr Q hQ => wp_cond_false (hev hr) (hs T σ Φ a w hT1 hT2 hr Q hQ)⟩
        · cases h
      | scope s =>
        simp only [evC] at h
        obtain ⟨e, st', l, h2, habs, hs⟩ := ihS f base F hFo s s st K r hli hli hb h
        exact ⟨e, st', l, h2, habs, fun T σ Φ a w hT1 hT2 hr Q hQ => (hs T σ Φ a w hT1 hT2 hr Q hQ).scope⟩
      | block id c0 =>
        obtain ⟨hl1, hl2⟩ := LI_block hli
        have plain : (∀ b, c0 ≠ .loop b) → evC C f base d c0 st (fun e st => match e with | .exit j => if j = id then K .normal st else K (.exit j) st | e => K e st) = some r →
            ∃ e st' l, K e st' = some r ∧ Abs base st st' l ∧ CodeSem P base (.block id c0) st e st' l := by
          intro hnl h
          obtain ⟨e, st', l, h2, habs, hs⟩ := ihC f base F hFo c0 st _ r (hl2 hnl) hb h
          refine ⟨outEx id e, st', l, ?_, habs, fun T σ Φ a w hT1 hT2 hr Q hQ => wp_block (hs T σ Φ a w hT1 hT2 hr _ fun σ' Φ' a' w' h3 h4 => ?_)⟩
          · cases e with
            | exit j =>
              dsimp only [outEx] at h2 ⊢
              split
              · rename_i hj; rw [if_pos hj] at h2; exact h2
              · rename_i hj; rw [if_neg hj] at h2; exact h2
            | _ => exact h2
          · rw [inBlock_out]
            exact hQ σ' Φ' a' w' h3 h4
        cases c0 with
        | loop body =>
          obtain ⟨hFid, hlb⟩ := hl1 body rfl
          have hbody : BodyOk P base body (evC (ρ := ρ) C f base d body) := fun st K r hb h => ihC f base F hFo body st K r hlb hb h
          have hout : ∀ {e : Ex} {st' : St}, (match e with | .exit j => if j = id then K .normal st' else K (.exit j) st' | e => K e st') = some r → K (outEx id e) st' = some r := fun {e st'} h2 => by
            cases e with
            | exit j =>
              dsimp only [outEx] at h2 ⊢
              split
              · rename_i hj; rw [if_pos hj] at h2; exact h2
              · rename_i hj; rw [if_neg hj] at h2; exact h2
            | _ => exact h2
          simp only [evC, nfT_eq] at h
          split at h
          · rename_i ks ot oc _
            obtain ⟨lo1, habs1, hq1⟩ := ownT_sound (base := base) ot st hb
            obtain ⟨lo2, habs2, hq2⟩ := ownC_sound (base := base) oc (St.ownT ot st) habs1.le
            generalize hst2 : St.ownC base oc (St.ownT ot st) = st2 at h habs2 hq2
            have habs12 := habs1.trans habs2
            -- all is told of here
            have fin : ∀ (e : Ex) (st' : St) (l : Lg), K (outEx id e) st' = some r → st'.lg = l ++ (⟨true, 0, st2.H.length⟩ :: st2.lg) → base ≤ st'.H.length → LoopAll P base body (st2.cut ks base st2.H.length) e st' →
                ∃ e st' l, K e st' = some r ∧ Abs base st st' l ∧ CodeSem P base (.block id (.loop body)) st e st' l := by
              intro e st' l hk hlg hle hs
              refine ⟨outEx id e, st', (l ++ [⟨true, 0, st2.H.length⟩]) ++ (lo2 ++ lo1), hk, ⟨by rw [hlg, habs12.lg]; simp, hle, fun i hi hn => ?_⟩, fun T σ Φ a w hT1 hT2 hr Q hQ => ?_⟩
              · rw [wrote_append, not_or] at hn
                exact absurd (wrote_noted (Nat.lt_of_lt_of_le hi habs2.le) l) hn.1
              · have hTall : ∀ i, T i := fun i => by
                  by_cases hi : i < st2.H.length
                  · exact hT1 i (touched_append.2 (.inl (wrote_noted hi l).touched))
                  · exact hT2 i (by have := habs2.le; omega)
                obtain ⟨σ1, hr1, ht1⟩ := hq1 T σ Φ a w (fun _ _ => hTall _) hT2 hr
                obtain ⟨σ2, hr2, ht2⟩ := hq2 T σ1 Φ a w (fun _ _ => hTall _) hT2 hr1
                obtain ⟨σ3, hr3, ht3⟩ := cut_sound hTall hr2 ks habs2.le (fun _ => True)
                refine wp_block (LoopWp.loop (hs σ3 Φ a w (hr3.all hTall) _ fun σ' Φ' a' w' h3 h4 => ?_))
                rw [inBlock_out]
                refine hQ σ' Φ' a' w' h3.any ((((ht1.trans ht2 (W := fun _ => True) (fun _ _ => trivial) (fun _ _ => trivial)).trans ht3 (W := fun _ => True) (fun _ _ => trivial) (fun _ _ => trivial)).trans h4 (W := fun _ => True) (fun _ _ => trivial) (fun _ _ => trivial)).weaken (Nat.le_refl _) fun i hi _ => ?_)
                exact wrote_append.2 (.inl (wrote_noted (Nat.lt_of_lt_of_le hi habs2.le) l))
            split at h
            · rename_i L o hat
              obtain ⟨hm, hbL, hrun⟩ := loopAt_spec hat
              obtain ⟨y, rfl, h'⟩ := brO_some h
              clear h
              have h := h'
              clear h'
              have hL := hFo.loops id L body hm hFid _ y hrun
              cases y with
              | inl y =>
                simp only [brS] at h
                cases hle : Nat.ble base (L.encA y).H.length with
                | true =>
                  rw [hle] at h
                  have hle := Nat.le_of_ble_eq_true hle
                  refine fin L.exA _ [] (hout h) rfl hle fun σ Φ a w hr Q hQ => hL σ Φ a w hr Q fun σ' Φ' a' w' h3 h4 => ?_
                  dsimp only at hbL
                  rw [hbL] at h4
                  exact hQ σ' Φ' a' w' ⟨h3.hp, h3.ob, h3.tm, h3.df⟩ h4
                | false => rw [hle] at h; cases h
              | inr y =>
                simp only [brS] at h
                cases hle : Nat.ble base (L.encB y).H.length with
                | true =>
                  rw [hle] at h
                  have hle := Nat.le_of_ble_eq_true hle
                  refine fin L.exB _ [] (hout h) rfl hle fun σ Φ a w hr Q hQ => hL σ Φ a w hr Q fun σ' Φ' a' w' h3 h4 => ?_
                  dsimp only at hbL
                  rw [hbL] at h4
                  exact hQ σ' Φ' a' w' ⟨h3.hp, h3.ob, h3.tm, h3.df⟩ h4
                | false => rw [hle] at h; cases h
            · have hcl : (St.noted (st2.cut ks base st2.H.length)).H.length = st2.H.length := by simp [St.noted, St.cut, scrubObs_length]
              obtain ⟨e, st', l, h2, hlg, hle, hs⟩ := iter_sound hbody habs2.le ks (by rw [hcl]; exact habs2.le) h
              refine fin e st' l (hout h2) ?_ hle fun σ Φ a w hr Q hQ => hs σ Φ a w ⟨hr.hp, hr.ob, hr.tm, hr.df⟩ Q hQ
              rw [hlg]
              simp [St.noted, St.cut, scrubObs_length]
          · obtain ⟨e, st', l, h2, habs, hs⟩ := unroll_sound hbody hb h
            refine ⟨outEx id e, st', l, hout h2, habs, fun T σ Φ a w hT1 hT2 hr Q hQ => wp_block (LoopWp.loop (hs T σ Φ a w hT1 hT2 hr _ fun σ' Φ' a' w' h3 h4 => ?_))⟩
            rw [inBlock_out]
            exact hQ σ' Φ' a' w' h3 h4
        | _ => simp only [evC] at h; exact plain (fun b e => by cases e) h
      | _ => simp [evC] at h
    · simp only [evScope] at h
      obtain ⟨e1, st1, l1, h1, habs1, hs1⟩ := ihC f base F hFo c st _ r hli hb h
      have leave : ∀ (e : Ex), e = e1 → K e st1 = some r → (∀ l, e = .goto l → findLabel s l = none) → ∃ e st' l, K e st' = some r ∧ Abs base st st' l ∧ ∀ (T : Nat → Prop) (σ : Sg) (Φ : Im) (a : Act) (w : World), (∀ id, touched l id → T id) → (∀ id, base ≤ id → T id) → Rel T σ Φ st a w →
          ∀ Q : Exit → Act → World → Prop, (∀ σ' Φ' a' w', Rel T σ' Φ' st' a' w' → Tr base (wrote l) σ Φ w σ' Φ' w' → Q e.ex a' w') → ScopeWp P s c Q a w := by
        intro e he hk hg
        subst he
        refine ⟨e, st1, l1, hk, habs1, fun T σ Φ a w hT1 hT2 hr Q hQ => ScopeWp.of (hs1 T σ Φ a w hT1 hT2 hr _ fun σ' Φ' a' w' h3 h4 => ?_)⟩
        have := hQ σ' Φ' a' w' h3 h4
        cases e with
        | goto l => simp only [Ex.ex, scopePost, hg l rfl]; exact this
        | _ => exact this
      cases e1 with
      | goto l =>
        dsimp only at h1
        split at h1
        · rename_i c' hfl
          obtain ⟨e, st', l2, h2, habs2, hs2⟩ := ihS f base F hFo s c' st1 K r hls (findLabel_LI hls hfl) habs1.le h1
          refine ⟨e, st', l2 ++ l1, h2, habs1.trans habs2, fun T σ Φ a w hT1 hT2 hr Q hQ => ScopeWp.of ?_⟩
          refine hs1 T σ Φ a w (fun id h => hT1 id (touched_append.2 (.inr h))) hT2 hr _ fun σ1 Φ1 a1 w1 h3 h4 => ?_
          simp only [Ex.ex, scopePost, hfl]
          exact hs2 T σ1 Φ1 a1 w1 (fun id h => hT1 id (touched_append.2 (.inl h))) hT2 h3 Q fun σ' Φ' a' w' h5 h6 => hQ σ' Φ' a' w' h5 (h4.trans h6 (fun id h => wrote_append.2 (.inr h)) fun id h => wrote_append.2 (.inl h))
        · rename_i hfl
          exact leave _ rfl h1 fun l' e => (by cases e; exact hfl)
      | normal => exact leave _ rfl h1 fun l e => by cases e
      | exit j => exact leave _ rfl h1 fun l e => by cases e
      | ret => exact leave _ rfl h1 fun l e => by cases e
    · simp only [evCall, nfT_eq] at h
      split at h
      · rename_i fn hfn
        obtain ⟨hPf, hname, hli⟩ := hF.fn g fn hfn
        split at h
        · rename_i c hbody
          obtain ⟨hLI, hCode⟩ := hli c hbody
          obtain ⟨e, st', l, h1, habs, hs⟩ := ihC g H.length _ hCode c ⟨pad fn.ntmps args, H, lg⟩ _ r hLI (Nat.le_refl _) h
          have fin : (e = .normal ∨ e = .ret) → evRet C fn st' K = some r → ∃ v H' l, K v H' (l ++ lg) = some r ∧ Fr H l H' ∧ CallSem P g args H v H' l := by
            intro he hret
            unfold evRet at hret
            split at hret
            · rename_i vs hvs
              refine ⟨_, _, resultReads C st'.tm fn.results.toList ++ l, by rw [habs.lg] at hret; simpa using hret, ⟨habs.le, fun id hid hn => habs.fr id hid fun hw => hn (wrote_append.2 (.inr hw))⟩, ⟨fn, hPf, by rw [hbody]; rfl, hname⟩, fun σ Φ w us hp ho hr => ?_⟩
              let T : Nat → Prop := fun id => touched (resultReads C st'.tm fn.results.toList ++ l) id ∨ H.length ≤ id
              refine calls_of_wp hPf hbody ?_
              have hrel : Rel T σ Φ ⟨pad fn.ntmps args, H, lg⟩ { tmps := us.toArray ++ Array.replicate (fn.ntmps - us.toArray.size) undef, defers := [] } w := {
                hp := hp
                ob := fun id hid o hoo => by
                  rcases hid with h2 | h2
                  · exact ho id h2 o hoo
                  · have := (List.getElem?_eq_some_iff.1 hoo).1
                    dsimp only at this
                    omega
                tm := by
                  have hl := hr.1
                  have e1 : (us.toArray ++ Array.replicate (fn.ntmps - us.toArray.size) undef).toList = us ++ List.replicate (fn.ntmps - args.length) undef := by simp [hl]
                  dsimp only
                  rw [e1]
                  refine hr.append ⟨by simp, fun j v u h2 h3 => ?_⟩
                  have hv := List.eq_of_mem_replicate (List.mem_of_getElem? h2)
                  have hu := List.eq_of_mem_replicate (List.mem_of_getElem? h3)
                  subst hv; subst hu
                  exact .und
                df := rfl }
              refine hs T σ Φ _ w (fun id h2 => .inl (touched_append.2 (.inr h2))) (fun id h2 => .inr h2) hrel _ fun σ' Φ' a' w' h2 h3 => ?_
              obtain ⟨u, hu, hR⟩ := results_run hT h2 hvs fun id h4 => .inl (touched_append.2 (.inl h4))
              have hres : Res H.length st'.H.length st'.H (wrote (resultReads C st'.tm fn.results.toList ++ l)) σ Φ w σ' Φ' w' := {
                hp := h2.hp
                tr := h3.weaken (Nat.le_refl _) fun id _ hw => wrote_append.2 (.inr hw)
                ob := fun id hid o hoo => h2.ob id (hid.imp (fun h => h.touched) (fun h => h)) o hoo }
              have : a'.defers = [] ∧ ∃ v, (results fn a'.tmps).run P w' = .ok v w' ∧ (∃ u σ' Φ', Ending.returned v = .returned u ∧ R σ' Φ' w' (tuple vs) u ∧ Res H.length st'.H.length st'.H (wrote (resultReads C st'.tm fn.results.toList ++ l)) σ Φ w σ' Φ' w') :=
                ⟨h2.df, u, hu, u, σ', Φ', rfl, hR, hres⟩
              rcases he with rfl | rfl
              · exact this
              · exact this
            · cases hret
          cases e with
          | normal => exact fin (.inl rfl) h1
          | ret => exact fin (.inr rfl) h1
          | exit j => cases h1
          | goto j => cases h1
        · cases h
      · cases h

end Go.AE
