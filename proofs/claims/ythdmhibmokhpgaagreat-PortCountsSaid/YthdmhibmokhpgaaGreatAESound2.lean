/- Code is sound: loops and scopes as the machine runs them; heads of loops. -/
import Derived.Test.YthdmhibmokhpgaaGreatAEDraw4
import Derived.Scope
set_option linter.unusedVariables false
set_option linter.unusedSimpArgs false
namespace Go.AE

variable {P : Program} {C : Cfg} {ρ : Type}

/-- A loop, from the start of a round on. -/
def LoopWp (P : Program) (c : Code) (Q : Exit → Act → World → Prop) (a : Act) (w : World) : Prop :=
  ∀ (b : Frame) (k : List Item) (cs : List Frame), ∃ e a' w', Q e a' w' ∧ Arrives P (lone (b.at a (.code c :: .inLoop c :: k)) cs w) b k cs e a' w'

theorem LoopWp.round {c : Code} {Q : Exit → Act → World → Prop} {a : Act} {w : World} (h : c.wp P (Exit.then (LoopWp P c Q) Q) a w) : LoopWp P c Q a w := by
  intro b k cs
  obtain ⟨e, a₁, w₁, hq, harr⟩ := h b (.inLoop c :: k) cs
  cases e with
  | normal =>
    obtain ⟨e₂, a₂, w₂, hq₂, harr₂⟩ := hq b k cs
    exact ⟨e₂, a₂, w₂, hq₂, .of_steps (Steps.trans harr (.one step_inLoop)) harr₂⟩
  | exit id => exact ⟨_, a₁, w₁, hq, .pass (x := .inLoop c) rfl (fun _ _ => .inl (by simp)) harr⟩
  | goto l => exact ⟨_, a₁, w₁, hq, .pass (x := .inLoop c) rfl (fun _ _ => .inl (by simp)) harr⟩
  | ret => exact ⟨_, a₁, w₁, hq, .pass (x := .inLoop c) rfl (fun _ _ => .inl (by simp)) harr⟩
  | panic ch => exact ⟨_, a₁, w₁, hq, .pass (x := .inLoop c) rfl (fun _ _ => .inl (by simp)) harr⟩
  | outgrown => exact ⟨_, a₁, w₁, hq, .pass (x := .inLoop c) rfl (fun _ _ => .inl (by simp)) harr⟩

theorem LoopWp.loop {c : Code} {Q : Exit → Act → World → Prop} {a : Act} {w : World} (h : LoopWp P c Q a w) : (Code.loop c).wp P Q a w :=
  fun b k cs => let ⟨e, a', w', q, r⟩ := h b k cs; ⟨e, a', w', q, .of_steps (.one step_loop) r⟩

/-- A piece of code within a scope. -/
def ScopeWp (P : Program) (s c : Code) (Q : Exit → Act → World → Prop) (a : Act) (w : World) : Prop :=
  ∀ (b : Frame) (k : List Item) (cs : List Frame), ∃ e a' w', Q e a' w' ∧ Arrives P (lone (b.at a (.code c :: .inScope s :: k)) cs w) b k cs e a' w'

def scopePost (P : Program) (s : Code) (Q : Exit → Act → World → Prop) : Exit → Act → World → Prop
  | .goto l, a, w => match findLabel s l with
    | some c => ScopeWp P s c Q a w
    | none => Q (.goto l) a w
  | e, a, w => Q e a w

theorem ScopeWp.of {s c : Code} {Q : Exit → Act → World → Prop} {a : Act} {w : World} (h : c.wp P (scopePost P s Q) a w) : ScopeWp P s c Q a w := by
  intro b k cs
  obtain ⟨e, a₁, w₁, hq, harr⟩ := h b (.inScope s :: k) cs
  cases e with
  | normal => exact ⟨.normal, a₁, w₁, hq, Steps.trans harr (.one step_inScope)⟩
  | exit id => exact ⟨.exit id, a₁, w₁, hq, fun k' hk => harr k' (by simp [exitTo, hk])⟩
  | goto l =>
    simp only [scopePost] at hq
    cases hf : findLabel s l with
    | some c' =>
      rw [hf] at hq
      obtain ⟨e₂, a₂, w₂, hq₂, harr₂⟩ := hq b k cs
      exact ⟨e₂, a₂, w₂, hq₂, .of_steps (harr _ (by simp [gotoIn, hf])) harr₂⟩
    | none =>
      rw [hf] at hq
      exact ⟨.goto l, a₁, w₁, hq, fun k' hk => harr k' (by simp [gotoIn, hf, hk])⟩
  | ret => exact ⟨_, a₁, w₁, hq, harr⟩
  | panic ch => exact ⟨_, a₁, w₁, hq, harr⟩
  | outgrown => exact ⟨_, a₁, w₁, hq, harr⟩

theorem ScopeWp.scope {s : Code} {Q : Exit → Act → World → Prop} {a : Act} {w : World} (h : ScopeWp P s s Q a w) : (Code.scope s).wp P Q a w :=
  fun b k cs => let ⟨e, a', w', q, r⟩ := h b k cs; ⟨e, a', w', q, .of_steps (.one step_scope) r⟩

theorem LoopWp.mono {c : Code} {Q Q' : Exit → Act → World → Prop} {a : Act} {w : World} (h : LoopWp P c Q a w) (hq : ∀ e a w, Q e a w → Q' e a w) : LoopWp P c Q' a w :=
  fun b k cs => let ⟨e, a', w', q, r⟩ := h b k cs; ⟨e, a', w', hq _ _ _ q, r⟩

/-- Places behind a cut: fewer, counted anew from base on. -/
def Sg.head (σ : Sg) (base n : Nat) : Sg := fun id => if id < n then (match σ id with | .row v sz ver own => .row v sz (newVer base id ver) own | l => l) else .none

theorem head_cov {σ : Sg} {base n id b o : Nat} (h : (σ.head base n id).covers b o) : id < n ∧ (σ id).covers b o := by
  unfold Sg.head at h
  split at h
  · rename_i hid
    refine ⟨hid, ?_⟩
    cases hq : σ id with
    | row v sz ver own => rw [hq] at h; cases own <;> exact h
    | none => rw [hq] at h; exact h
    | gone => rw [hq] at h; exact h
    | cell b o => rw [hq] at h; exact h
    | map b => rw [hq] at h; exact h
  · exact h.elim

theorem head_lt {σ : Sg} {base n id : Nat} (hn : base ≤ n) (h : id < base) : σ.head base n id = σ id := by
  unfold Sg.head
  rw [if_pos (by omega)]
  cases σ id with
  | row v sz ver own =>
    dsimp only
    rw [newVer, if_neg (by omega)]
  | _ => rfl

theorem verOf_spec {H : List Ob} {id ver : Nat} (h : verOf H id = some ver) : ∃ e t xs mu ap nz, H[id]? = some (.row e t xs ver mu ap nz) := by
  unfold verOf at h
  split at h
  · rename_i e t xs v mu ap nz hq
    cases h
    exact ⟨e, t, xs, mu, ap, nz, hq⟩
  · cases h

theorem px_any {σ σ' : Sg} {Φ : Im} {w : World} {t : STy} {x : El t} {off : Nat} {u : Value} (h : R σ Φ w (.px t x off) u) : R σ' Φ w (.px t x off) u := by
  cases h with
  | px _ _ _ b o vals hl hr hw => exact .px _ _ _ b o vals hl (fun j v u h1 h2 => (hr j v u h1 h2).pl (isPl_mem (List.mem_of_getElem? h1))) hw

theorem sub1_sound {σ : Sg} {Φ : Im} {w : World} {H : List Ob} {base n : Nat} (hob : ∀ id o, H[id]? = some o → ObOk σ Φ w id o) {v : V} {u : Value} (h : R σ Φ w v u) : R (σ.head base n) Φ w (sub1 H base n v) u := by
  have hrow : ∀ {id ver : Nat}, id < n → verOf H id = some ver → ∀ {v sz ver' own}, σ id = .row v sz ver' own → ver' = ver ∧ σ.head base n id = .row v sz (newVer base id ver) own := fun {id ver} hid hver {v sz ver' own} hs => by
    obtain ⟨e, t, xs, mu, ap, nz, hq⟩ := verOf_spec hver
    obtain ⟨v', own', h1, _⟩ := hob id _ hq
    rw [hs] at h1
    cases h1
    refine ⟨rfl, ?_⟩
    simp only [Sg.head, if_pos hid, hs]
  cases h with
  | u => exact .u _
  | und => exact .und
  | b x => exact .b x
  | i k n => exact .i k n
  | s x => exact .s x
  | p id k b off hh =>
    simp only [sub1]
    split
    · rename_i hle
      refine .p id k b off fun j hj => ?_
      have : id + j < n := by omega
      rcases hh j hj with h | h
      · exact .inl (by simp only [Sg.head, if_pos this, h])
      · exact .inr (by simp only [Sg.head, if_pos this, h])
    · exact .u _
  | pnil => exact .pnil
  | px t x off b o vals hl hr hw => exact px_any (.px t x off b o vals hl hr hw)
  | pr id ver ix off a hh =>
    simp only [sub1]
    split
    · rename_i hc
      obtain ⟨v, sz, ver', own, e1, e2, e3⟩ := hh
      obtain ⟨e4, e5⟩ := hrow hc.1 hc.2 e1
      exact .pr id _ ix off a ⟨v, sz, _, own, e5, Nat.le_refl _, fun _ => e3 e4⟩
    · exact .u _
  | nils => exact .nils
  | sl t xs ex p cap vals hl hr hn he hw => exact .sl t xs ex p cap vals hl (fun j v u h1 h2 => (hr j v u h1 h2).pl (isPl_flat (List.mem_of_getElem? h1))) hn he hw
  | o id ver p m cap hh =>
    simp only [sub1]
    split
    · rename_i hc
      obtain ⟨v, sz, ver', own, e1, e2, e3⟩ := hh
      obtain ⟨e4, e5⟩ := hrow hc.1 hc.2 e1
      exact .o id _ p m cap ⟨v, sz, _, own, e5, Nat.le_refl _, fun _ => e3 e4⟩
    · exact .u _
  | ov id ver off len p cap hcp hh =>
    simp only [sub1]
    split
    · rename_i hc
      obtain ⟨v, sz, ver', own, e1, e2, e3⟩ := hh
      obtain ⟨e4, e5⟩ := hrow hc.1 hc.2 e1
      exact .ov id _ off len p cap hcp ⟨v, sz, _, own, e5, Nat.le_refl _, fun _ => e3 e4⟩
    · exact .u _
  | cs id len esz p cap hcp hh =>
    simp only [sub1]
    split
    · rename_i hle
      refine .cs id len esz p cap hcp fun j hj => ?_
      have : id + j < n := by omega
      obtain ⟨b, off, e0, h⟩ := hh j hj
      refine ⟨b, off, e0, ?_⟩
      rcases h with h | h
      · exact .inl (by simp only [Sg.head, if_pos this, h])
      · exact .inr (by simp only [Sg.head, if_pos this, h])
    · exact .u _
  | f fn fs cs us1 us2 h1 h2 hr1 hr2 =>
    cases fs with
    | cons => exact .u _
    | nil =>
      cases cs with
      | cons => exact .u _
      | nil => exact .f fn [] [] us1 us2 h1 h2 (fun _ _ _ h => by simp at h) (fun _ _ _ h => by simp at h)
  | fnil => exact .fnil
  | m id b hh =>
    simp only [sub1]
    split
    · rename_i hid
      exact .m id b (by simp only [Sg.head, if_pos hid, hh])
    · exact .u _
  | mnil => exact .mnil
  | agg cs us hl hr h1 => exact .u _
  | tup cs us hl hr => exact .u _
  | ifc t v x h => exact .u _
  | ifnil => exact .ifnil

theorem sub1s_sound {σ : Sg} {Φ : Im} {w : World} {H : List Ob} {base n : Nat} (hob : ∀ id o, H[id]? = some o → ObOk σ Φ w id o) {vs : List V} {us : List Value} (h : Rs σ Φ w vs us) : Rs (σ.head base n) Φ w (vs.map (sub1 H base n)) us :=
  ⟨by simp [h.1], fun j v u h1 h2 => by
    rw [List.getElem?_map] at h1
    cases hq : vs[j]? with
    | none => rw [hq] at h1; cases h1
    | some v0 => rw [hq] at h1; cases h1; exact sub1_sound hob (h.2 j v0 u hq h2)⟩

theorem scrub_sound {σ : Sg} {Φ : Im} {w : World} {H : List Ob} {base n : Nat} (hob : ∀ id o, H[id]? = some o → ObOk σ Φ w id o) {v : V} {u : Value} (h : R σ Φ w v u) : R (σ.head base n) Φ w (scrub H base n v) u := by
  cases h with
  | agg cs us hl hr h1 =>
    have := sub1s_sound (base := base) (n := n) hob ⟨hl, hr⟩
    exact .agg _ us this.1 this.2 h1
  | f fn fs cs us1 us2 h1 h2 hr1 hr2 =>
    have k1 := sub1s_sound (base := base) (n := n) hob ⟨h1, hr1⟩
    have k2 := sub1s_sound (base := base) (n := n) hob ⟨h2, hr2⟩
    exact .f fn _ _ us1 us2 k1.1 k2.1 k1.2 k2.2
  | u => exact sub1_sound (v := .u) hob (.u _)
  | und => exact sub1_sound (v := .und) hob .und
  | b x => exact sub1_sound (v := .b x) hob (.b x)
  | i k m => exact sub1_sound (v := .i k m) hob (.i k m)
  | s x => exact sub1_sound (v := .s x) hob (.s x)
  | p id k b off hh => exact sub1_sound (v := .p id k) hob (.p id k b off hh)
  | pnil => exact sub1_sound (v := .pnil) hob .pnil
  | px t x off b o vals hl hr hw => exact sub1_sound (v := .px t x off) hob (.px t x off b o vals hl hr hw)
  | pr id ver ix off a hh => exact sub1_sound (v := .pr id ver ix off) hob (.pr id ver ix off a hh)
  | nils => exact sub1_sound (v := .nils) hob .nils
  | sl t xs ex p cap vals hl hr hn he hw => exact sub1_sound (v := .sl t xs ex) hob (.sl t xs ex p cap vals hl hr hn he hw)
  | o id ver p m cap hh => exact sub1_sound (v := .o id ver) hob (.o id ver p m cap hh)
  | ov id ver off len p cap hcp hh => exact sub1_sound (v := .ov id ver off len) hob (.ov id ver off len p cap hcp hh)
  | cs id len esz p cap hcp hh => exact sub1_sound (v := .cs id len esz) hob (.cs id len esz p cap hcp hh)
  | fnil => exact sub1_sound (v := .fnil) hob .fnil
  | m id b hh => exact sub1_sound (v := .m id) hob (.m id b hh)
  | mnil => exact sub1_sound (v := .mnil) hob .mnil
  | tup cs us hl hr => exact .u _
  | ifc t v x h => exact .u _
  | ifnil => exact sub1_sound (v := .ifnil) hob .ifnil

theorem scrubs_sound {σ : Sg} {Φ : Im} {w : World} {H : List Ob} {base n : Nat} (hob : ∀ id o, H[id]? = some o → ObOk σ Φ w id o) {vs : List V} {us : List Value} (h : Rs σ Φ w vs us) : Rs (σ.head base n) Φ w (vs.map (scrub H base n)) us :=
  ⟨by simp [h.1], fun j v u h1 h2 => by
    rw [List.getElem?_map] at h1
    cases hq : vs[j]? with
    | none => rw [hq] at h1; cases h1
    | some v0 => rw [hq] at h1; cases h1; exact scrub_sound hob (h.2 j v0 u hq h2)⟩

theorem pl_any {σ σ' : Sg} {Φ : Im} {w : World} {vs : List V} {us : List Value} (hv : ∀ v ∈ vs, isPl v = true) (h : Rs σ Φ w vs us) : Rs σ' Φ w vs us :=
  h.imp fun v u hm hr => hr.pl (hv v hm)

theorem head_at {σ : Sg} {base n id : Nat} (h : id < n) : (∀ b o, σ id = .cell b o → σ.head base n id = .cell b o) ∧ (∀ b, σ id = .map b → σ.head base n id = .map b) ∧ (∀ v sz ver own, σ id = .row v sz ver own → σ.head base n id = .row v sz (newVer base id ver) own) :=
  ⟨fun b o e => by simp only [Sg.head, if_pos h, e], fun b e => by simp only [Sg.head, if_pos h, e], fun v sz ver own e => by simp only [Sg.head, if_pos h, e]⟩

theorem scrubOb_sound {σ : Sg} {Φ : Im} {w : World} {H : List Ob} {base n id : Nat} (hob : ∀ id o, H[id]? = some o → ObOk σ Φ w id o) (hid : id < n) {o : Ob} (h : ObOk σ Φ w id o) : ObOk (σ.head base n) Φ w id (scrubOb H base n id o) := by
  obtain ⟨hc, hm, hr⟩ := head_at (σ := σ) (base := base) hid
  cases o with
  | c v =>
    obtain ⟨b, off, u, h1, h2, h3, h4, h5⟩ := h
    exact ⟨b, off, u, hc b off h1, h2, h3, h4, scrub_sound hob h5⟩
  | row e t xs ver mu ap nz =>
    obtain ⟨v, own, h1, h2, h3, h4, h5⟩ := h
    refine ⟨v, own, hr _ _ _ _ h1, fun e => (by cases e), h3, fun ho => ?_, fun ho => ?_⟩
    · obtain ⟨vals, h6, h7, h8⟩ := h4 ho
      exact ⟨vals, h6, pl_any (fun v hv => isPl_flat hv) h7, h8⟩
    · exact (h5 ho).pl rfl
  | map ag es =>
    obtain ⟨b, ms, cl, h1, h2, h3, h4⟩ := h
    refine ⟨b, ms, cl, hm b h1, h2, by simp [h3], fun j e m he hmm => ?_⟩
    rw [List.getElem?_map] at he
    cases hq : es[j]? with
    | none => rw [hq] at he; cases he
    | some e0 =>
      rw [hq] at he
      cases he
      obtain ⟨h5, us, h6, h7⟩ := h4 j e0 m hq hmm
      exact ⟨h5, us, scrubs_sound hob h6, h7⟩
  | tmap ag t es =>
    obtain ⟨b, ms, cl, h1, h2, h3, h4⟩ := h
    refine ⟨b, ms, cl, hm b h1, h2, h3, fun j e m he hmm => ?_⟩
    obtain ⟨h5, us, h6, h7⟩ := h4 j e m he hmm
    refine ⟨h5, us, pl_any (fun v hv => ?_) h6, h7⟩
    rw [List.getElem?_map] at he
    cases hq : es[j]? with
    | none => rw [hq] at he; cases he
    | some e0 => rw [hq] at he; cases he; exact isPl_mem hv
  | dead => trivial

theorem scrubObs_get (H : List Ob) (base n : Nat) : ∀ (os : List Ob) (i0 j : Nat), (scrubObs H base n i0 os)[j]? = (os[j]?).map (scrubOb H base n (i0 + j))
  | [], _, _ => by simp [scrubObs]
  | o :: r, i0, j => by
    simp only [scrubObs]
    cases j with
    | zero => simp
    | succ j =>
      simp only [List.getElem?_cons_succ, scrubObs_get H base n r (i0 + 1) j]
      congr 2
      omega

theorem scrubObs_length (H : List Ob) (base n : Nat) : ∀ (os : List Ob) (i0 : Nat), (scrubObs H base n i0 os).length = os.length
  | [], _ => rfl
  | o :: r, i0 => by simp [scrubObs, scrubObs_length H base n r (i0 + 1)]

theorem forget_get (ks : List Nat) : ∀ (vs : List V) (i0 j : Nat), (forget i0 ks vs)[j]? = (vs[j]?).map fun v => if ks.contains (i0 + j) then v else .u
  | [], _, _ => by simp [forget]
  | v :: vs, i0, j => by
    simp only [forget]
    cases j with
    | zero => simp
    | succ j =>
      simp only [List.getElem?_cons_succ, forget_get ks vs (i0 + 1) j]
      congr 2
      have : i0 + 1 + j = i0 + (j + 1) := by omega
      rw [this]

theorem forget_sound {σ : Sg} {Φ : Im} {w : World} (ks : List Nat) {vs : List V} {us : List Value} (h : Rs σ Φ w vs us) (i0 : Nat) : Rs σ Φ w (forget i0 ks vs) us :=
  ⟨by
    have : (forget i0 ks vs).length = vs.length := by
      apply Nat.le_antisymm
      · rcases Nat.lt_or_ge vs.length (forget i0 ks vs).length with h1 | h1
        · have h2 := forget_get ks vs i0 vs.length
          rw [List.getElem?_eq_none (Nat.le_refl _)] at h2
          have h3 : (forget i0 ks vs)[vs.length]? = some ((forget i0 ks vs)[vs.length]) := by simp [h1]
          rw [h3] at h2
          cases h2
        · exact h1
      · rcases Nat.lt_or_ge (forget i0 ks vs).length vs.length with h1 | h1
        · have h2 := forget_get ks vs i0 (forget i0 ks vs).length
          rw [List.getElem?_eq_none (Nat.le_refl _)] at h2
          have h3 : vs[(forget i0 ks vs).length]? = some (vs[(forget i0 ks vs).length]) := by simp [h1]
          rw [h3] at h2
          cases h2
        · exact h1
    rw [this, h.1], fun j v u h1 h2 => by
    rw [forget_get] at h1
    cases hq : vs[j]? with
    | none => rw [hq] at h1; cases h1
    | some v0 =>
      rw [hq] at h1
      simp only [Option.map_some, Option.some.injEq] at h1
      subst h1
      split
      · exact h.2 j v0 u hq h2
      · exact .u _⟩

/-- A state, as it stands at a loop's head. -/
theorem cut_sound {T : Nat → Prop} (hT : ∀ id, T id) {σ : Sg} {Φ : Im} {st : St} {a : Act} {w : World} (h : Rel T σ Φ st a w) (ks : List Nat) {base n : Nat} (hbn : base ≤ n) (W : Nat → Prop) :
    ∃ σ', Rel T σ' Φ (st.cut ks base n) a w ∧ Tr base W σ Φ w σ' Φ w := by
  have hob : ∀ id o, st.H[id]? = some o → ObOk σ Φ w id o := fun id o ho => h.ob id (hT id) o ho
  have hlen : (st.cut ks base n).H.length = min n st.H.length := by simp [St.cut, scrubObs_length]
  refine ⟨σ.head base n, ⟨?_, fun id _ o ho => ?_, scrubs_sound hob (forget_sound ks h.tm 0), h.df⟩, ?_⟩
  · exact {
      dom := fun id hid => by
        rw [hlen] at hid
        by_cases h1 : id < n
        · have := h.hp.dom id (by omega)
          simp only [Sg.head, if_pos h1, this]
        · simp only [Sg.head]; rw [if_neg h1]
      sep := fun i j b o hi hj => h.hp.sep i j b o (head_cov hi).2 (head_cov hj).2
      imm := fun i b o hi => h.hp.imm i b o (head_cov hi).2
      lt := fun i b o hi => h.hp.lt i b o (head_cov hi).2
      immlt := h.hp.immlt }
  · have ho' : (scrubObs st.H base n 0 (st.H.take n))[id]? = some o := ho
    rw [scrubObs_get, Nat.zero_add, List.getElem?_take] at ho'
    split at ho'
    · rename_i hid
      cases hq : st.H[id]? with
      | none => rw [hq] at ho'; cases ho'
      | some o0 =>
        rw [hq] at ho'
        cases ho'
        exact scrubOb_sound hob hid (hob id o0 hq)
    · cases ho'
  · exact {
      os := rfl, tape := rfl, output := rfl, size := Nat.le_refl _
      keep := fun b o _ _ => same.refl w b o
      imm := fun _ _ h => h
      immNew := fun _ _ h => .inl h
      later := fun id hid => by rw [head_lt hbn hid]; exact Lc.later.refl _
      eqs := fun id hid _ => head_lt hbn hid
      cov := fun id b o hc => by
        obtain ⟨h1, h2⟩ := head_cov hc
        by_cases hid : id < base
        · exact .inr (.inl ⟨hid, h2⟩)
        · exact .inr (.inr ⟨by omega, id, by omega, h2⟩) }

end Go.AE
