/- The operations are sound: what is common; those that only read. -/
import Derived.Test.YthdmhibmokhpgaaGreatAERel
import Derived.Laws.Tables
set_option linter.unusedVariables false
set_option linter.unusedSimpArgs false
namespace Go.AE

def touched (l : Lg) (id : Nat) : Prop := ∃ a ∈ l, a.id ≤ id ∧ id < a.id + a.n
def wrote (l : Lg) (id : Nat) : Prop := ∃ a ∈ l, a.w = true ∧ a.id ≤ id ∧ id < a.id + a.n

theorem wrote_nil (id : Nat) : ¬ wrote [] id := fun ⟨_, h, _⟩ => by cases h
theorem touched_nil (id : Nat) : ¬ touched [] id := fun ⟨_, h, _⟩ => by cases h
theorem wrote.touched {l : Lg} {id : Nat} (h : wrote l id) : touched l id := let ⟨a, h1, _, h2⟩ := h; ⟨a, h1, h2⟩
theorem touched_cons {a : Acc} {l : Lg} {id : Nat} : AE.touched (a :: l) id ↔ (a.id ≤ id ∧ id < a.id + a.n) ∨ AE.touched l id := by simp [AE.touched]
theorem wrote_cons {a : Acc} {l : Lg} {id : Nat} : wrote (a :: l) id ↔ (a.w = true ∧ a.id ≤ id ∧ id < a.id + a.n) ∨ wrote l id := by simp [wrote]
theorem touched_append {l m : Lg} {id : Nat} : AE.touched (l ++ m) id ↔ AE.touched l id ∨ AE.touched m id := by simp [AE.touched, or_and_right, exists_or]
theorem wrote_append {l m : Lg} {id : Nat} : wrote (l ++ m) id ↔ wrote l id ∨ wrote m id := by simp [wrote, or_and_right, exists_or]

theorem touched_self (b : Bool) (id : Nat) (l : Lg) : AE.touched (⟨b, id, 1⟩ :: l) id := touched_cons.2 (.inl ⟨Nat.le_refl _, Nat.lt_succ_self _⟩)
theorem wrote_self (id : Nat) (l : Lg) : wrote (⟨true, id, 1⟩ :: l) id := wrote_cons.2 (.inl ⟨rfl, Nat.le_refl _, Nat.lt_succ_self _⟩)

/-- Objects that aren't told as written stay as they are told. -/
def Fr (H : List Ob) (l : Lg) (H' : List Ob) : Prop := H.length ≤ H'.length ∧ ∀ id, id < H.length → ¬ wrote l id → H'[id]? = H[id]?

theorem Fr.refl (H : List Ob) (l : Lg) : Fr H l H := ⟨Nat.le_refl _, fun _ _ _ => rfl⟩

theorem Fr.push (H : List Ob) (l : Lg) (os : List Ob) : Fr H l (H ++ os) := ⟨by simp, fun id hid _ => List.getElem?_append_left hid⟩

/-- What is asked of the objects that are touched. -/
def ObsOk (σ : Sg) (Φ : Im) (w : World) (H : List Ob) (T : Nat → Prop) : Prop := ∀ id, T id → ∀ o, H[id]? = some o → ObOk σ Φ w id o

/-- The operation does as is told. -/
def OpSem (P : Program) (o : Oper) (tm : List V) (H : List Ob) (v : V) (H' : List Ob) (l : Lg) : Prop :=
  ∀ (σ : Sg) (Φ : Im) (w : World) (a : Act), Hp σ Φ w H.length → ObsOk σ Φ w H (touched l) → (∀ x ∈ o.op.operands.toList, R σ Φ w (opd tm x) (a.eval x)) →
    ∀ next Q, (∀ u σ' Φ' w', R σ' Φ' w' v u → Res H.length H'.length H' (wrote l) σ Φ w σ' Φ' w' → next (a.put o.dst u) w') → o.wp P a w next Q

theorem Res.same {H : List Ob} {l : Lg} {σ : Sg} {Φ : Im} {w : World} (hl : ∀ id, ¬ wrote l id) (hp : Hp σ Φ w H.length) : Res H.length H.length H (wrote l) σ Φ w σ Φ w where
  hp := hp
  tr := Tr.refl _ _ _ _ _
  ob := fun id hid o ho => by
    rcases hid with h | h
    · exact absurd h (hl id)
    · have := (List.getElem?_eq_some_iff.1 ho).1
      omega

theorem OpSem.read {P : Program} {o : Oper} {tm : List V} {H : List Ob} {v : V} {l : Lg} (hl : ∀ id, ¬ wrote l id)
    (h : ∀ (σ : Sg) (Φ : Im) (w : World) (a : Act), Hp σ Φ w H.length → ObsOk σ Φ w H (touched l) → (∀ x ∈ o.op.operands.toList, R σ Φ w (opd tm x) (a.eval x)) → ∃ u, (execOp a.eval o).run P w = .ok (.value u) w ∧ R σ Φ w v u) :
    OpSem P o tm H v H l := by
  intro σ Φ w a hp ho hx next Q hn
  obtain ⟨u, h1, h2⟩ := h σ Φ w a hp ho hx
  unfold Oper.wp
  rw [h1, Oper.upon_value]
  exact hn u σ Φ w h2 (Res.same hl hp)

theorem OpSem.run {P : Program} {o : Oper} {tm : List V} {H H' : List Ob} {v : V} {l : Lg}
    (h : ∀ (σ : Sg) (Φ : Im) (w : World) (a : Act), Hp σ Φ w H.length → ObsOk σ Φ w H (touched l) → (∀ x ∈ o.op.operands.toList, R σ Φ w (opd tm x) (a.eval x)) →
      ∃ u σ' Φ' w', (execOp a.eval o).run P w = .ok (.value u) w' ∧ R σ' Φ' w' v u ∧ Res H.length H'.length H' (wrote l) σ Φ w σ' Φ' w') : OpSem P o tm H v H' l := by
  intro σ Φ w a hp ho hx next Q hn
  obtain ⟨u, σ', Φ', w', h1, h2, h3⟩ := h σ Φ w a hp ho hx
  unfold Oper.wp
  rw [h1, Oper.upon_value]
  exact hn u σ' Φ' w' h2 h3

theorem OpSem.skip {P : Program} {o : Oper} {tm : List V} {H H' : List Ob} {l : Lg}
    (h : ∀ (σ : Sg) (Φ : Im) (w : World) (a : Act), Hp σ Φ w H.length → ObsOk σ Φ w H (touched l) → (∀ x ∈ o.op.operands.toList, R σ Φ w (opd tm x) (a.eval x)) →
      ∃ σ' Φ' w', (execOp a.eval o).run P w = .ok .skip w' ∧ Res H.length H'.length H' (wrote l) σ Φ w σ' Φ' w') : OpSem P o tm H .und H' l := by
  intro σ Φ w a hp ho hx next Q hn
  obtain ⟨σ', Φ', w', h1, h3⟩ := h σ Φ w a hp ho hx
  unfold Oper.wp
  rw [h1, Oper.upon_skip]
  exact hn undef σ' Φ' w' .und h3

/-- What the table of types tells. -/
structure TyOk (P : Program) (T : Nat) (ti : TI) (i : TypeInfo) (d : TypeDesc) (z : Value) : Prop where
  info : P.info? T = some i
  und : P.underlying T = some d
  desc : ti.d = tdOf d
  size : ti.size = i.size
  bytes : ti.bytes = i.bytes
  zero : i.zero = some z
  zs : ti.zero = z.cells.toList.map zOf
  oth : ∀ c ∈ z.cells.toList, zOf c ≠ .other
  ag : AE.isAgg ti.d = isAggV z

theorem tiOf_spec {P : Program} {T : Nat} {ti : TI} (h : tiOf P T = some ti) : ∃ i d z, TyOk P T ti i d z := by
  unfold tiOf at h
  split at h
  · rename_i i d h1 h2
    split at h
    · rename_i z h3
      split at h
      · cases h
      · rename_i h4
        injection h with h
        subst h
        rw [not_or] at h4
        refine ⟨i, d, z, h1, h2, rfl, rfl, rfl, h3, rfl, fun c hc e => h4.1 ?_, Decidable.of_not_not h4.2⟩
        rw [List.contains_iff_mem]
        exact List.mem_map.2 ⟨c, hc, e⟩
    · cases h
  · cases h

/-- The tables are those of the program. -/
def TysOk (P : Program) (C : Cfg) : Prop := ∀ T ti, C.ty T = some ti → tiOf P T = some ti

theorem R_zero {σ : Sg} {Φ : Im} {w : World} {c : Value} (h : zOf c ≠ .other) : R σ Φ w (zOf c).v c ∧ c.oneCell' = true := by
  unfold zOf at h ⊢
  split at h <;> first
    | exact ⟨.b _, rfl⟩
    | exact ⟨.i _ _, rfl⟩
    | exact ⟨.pnil, rfl⟩
    | exact ⟨.nils, rfl⟩
    | exact ⟨.fnil, rfl⟩
    | exact ⟨.mnil, rfl⟩
    | exact ⟨.ifnil, rfl⟩
    | (split at h
       · rename_i s hs
         have e : s = ⟨#[]⟩ := by
           have h0 : s.data.size = 0 := hs
           have : s.data = #[] := Array.eq_empty_of_size_eq_zero h0
           cases s
           simp_all
         simp only [hs, if_true]
         rw [e]
         exact ⟨.s [], rfl⟩
       · exact absurd rfl h)
    | exact absurd rfl h

theorem Rs_zero {σ : Sg} {Φ : Im} {w : World} {cs : List Value} (h : ∀ c ∈ cs, zOf c ≠ .other) : Rs σ Φ w ((cs.map zOf).map Z.v) cs ∧ ∀ u ∈ cs, u.oneCell' = true :=
  ⟨⟨by simp, fun j v u h1 h2 => by
    simp only [List.getElem?_map, h2, Option.map_some, Option.some.injEq] at h1
    subst h1
    exact (R_zero (h u (List.mem_of_getElem? h2))).1⟩, fun u hu => (R_zero (σ := σ) (Φ := Φ) (w := w) (h u hu)).2⟩

/-- What a value's relation says of its cells. -/
theorem R.cells {σ : Sg} {Φ : Im} {w : World} {v : V} {u : Value} (h : R σ Φ w v u) {cs : List V} (hc : cellsV v = some cs) : Rs σ Φ w cs u.cells.toList ∧ ∀ x ∈ u.cells.toList, x.oneCell' = true := by
  have h0 := h
  cases h with
  | agg cs' us hl hr h1 =>
    simp only [cellsV, Option.some.injEq] at hc
    subst hc
    exact ⟨⟨hl, hr⟩, h1⟩
  | u x => simp [cellsV] at hc
  | und => simp [cellsV] at hc
  | tup cs us hl hr => simp [cellsV] at hc
  | _ =>
    simp only [cellsV, Option.some.injEq] at hc
    subst hc
    exact ⟨Rs.cons h0 Rs.nil, by simp [Value.cells, Value.oneCell']⟩

end Go.AE

/- The operations are sound: those that read: cells, parts, places. -/
namespace Go.AE

variable {P : Program} {C : Cfg}

theorem add_zero (a : Addr) : a.add 0 = a := rfl
theorem add_mk (b o j : Nat) : (⟨b, o, Option.none⟩ : Addr).add j = ⟨b, o + j, Option.none⟩ := by
  unfold Addr.add
  split
  · rename_i h; subst h; rfl
  · rfl

theorem cellsOfObs_spec : ∀ {os : List Ob} {l : List V}, cellsOfObs os = some l → os = l.map Ob.c
  | [], l, h => by simp only [cellsOfObs, Option.some.injEq] at h; subst h; rfl
  | .c v :: r, l, h => by
    simp only [cellsOfObs] at h
    split at h
    · rename_i l' hl
      injection h with h
      subst h
      rw [List.map_cons, ← cellsOfObs_spec hl]
    · cases h
  | .row .. :: _, _, h => by simp [cellsOfObs] at h
  | .map .. :: _, _, h => by simp [cellsOfObs] at h
  | .tmap .. :: _, _, h => by simp [cellsOfObs] at h
  | .dead :: _, _, h => by simp [cellsOfObs] at h

theorem loadC_spec {H : List Ob} {id n : Nat} {l : List V} (h : loadC H id n = some l) : l.length = n ∧ ∀ (j : Nat) (v : V), l[j]? = some v → H[id + j]? = some (.c v) := by
  unfold loadC at h
  split at h
  · rename_i l' hl
    split at h
    · rename_i hn
      injection h with h
      subst h
      refine ⟨hn, fun j v hj => ?_⟩
      have e := cellsOfObs_spec hl
      have hj' : j < n := by rw [← hn]; exact (List.getElem?_eq_some_iff.1 hj).1
      have : ((H.drop id).take n)[j]? = some (.c v) := by rw [e, List.getElem?_map, hj]; rfl
      rw [List.getElem?_take, if_pos hj', List.getElem?_drop] at this
      exact this
    · cases h
  · cases h

theorem choice {n : Nat} {A : Nat → Value → Prop} (h : ∀ j, j < n → ∃ u, A j u) : ∃ us : List Value, us.length = n ∧ ∀ (j : Nat) (u : Value), us[j]? = some u → A j u := by
  induction n with
  | zero => exact ⟨[], rfl, fun j u hj => by simp at hj⟩
  | succ n ih =>
    obtain ⟨us, h1, h2⟩ := ih fun j hj => h j (by omega)
    obtain ⟨u, hu⟩ := h n (by omega)
    refine ⟨us ++ [u], by simp [h1], fun j x hj => ?_⟩
    by_cases hjn : j < n
    · rw [List.getElem?_append_left (by omega)] at hj
      exact h2 j x hj
    · rw [List.getElem?_append_right (by omega)] at hj
      have hj0 : j - us.length = 0 := by
        have := (List.getElem?_eq_some_iff.1 hj).1
        simp at this
        omega
      rw [hj0] at hj
      simp at hj
      subst hj
      have : j = n := by omega
      subst this
      exact hu

/-- Cells of a variable are read. -/
theorem loadC_sound {σ : Sg} {Φ : Im} {w : World} {H : List Ob} {id n b off : Nat} {l : List V} (h : loadC H id n = some l) (ho : ObsOk σ Φ w H fun i => id ≤ i ∧ i < id + n)
    (hb : ∀ j, j < n → σ (id + j) = .cell b (off + j) ∨ σ (id + j) = .gone) :
    ∃ us, Rs σ Φ w l us ∧ us.length = n ∧ (∀ u ∈ us, u.oneCell' = true) ∧ (∀ j, j < n → σ (id + j) = .cell b (off + j)) ∧
      ∀ (j : Nat) (u : Value), us[j]? = some u → w.cell? ⟨b, off + j, Option.none⟩ = some u ∧ w.frozen? ⟨b, off + j, Option.none⟩ = false := by
  obtain ⟨hl, hc⟩ := loadC_spec h
  have key : ∀ j, j < n → ∃ u, ∃ v, l[j]? = some v ∧ R σ Φ w v u ∧ u.oneCell' = true ∧ σ (id + j) = .cell b (off + j) ∧ w.cell? ⟨b, off + j, Option.none⟩ = some u ∧ w.frozen? ⟨b, off + j, Option.none⟩ = false := by
    intro j hj
    have hjl : l[j]? = some (l[j]'(by omega)) := by simp [hl, hj]
    obtain ⟨b', off', u, h1, h2, h3, h4, h5⟩ := ho (id + j) ⟨by omega, by omega⟩ _ (hc j _ hjl)
    rcases hb j hj with e | e
    · rw [e] at h1
      injection h1 with e1 e2
      subst e1
      subst e2
      exact ⟨u, _, hjl, h5, h4, e, h2, h3⟩
    · rw [e] at h1; cases h1
  obtain ⟨us, hn, hu⟩ := choice key
  refine ⟨us, ⟨by omega, fun j v u h1 h2 => ?_⟩, hn, fun u hu' => ?_, fun j hj => ?_, fun j u hj => ?_⟩
  · obtain ⟨v', h3, h4, _⟩ := hu j u h2
    rw [h1] at h3
    cases h3
    exact h4
  · obtain ⟨j, hj⟩ := List.getElem?_of_mem hu'
    obtain ⟨_, _, _, h4, _⟩ := hu j u hj
    exact h4
  · obtain ⟨_, _, _, _, _, h5, _⟩ := key j hj
    exact h5
  · obtain ⟨_, _, _, _, _, h6, h7⟩ := hu j u hj
    exact ⟨h6, h7⟩

theorem run_isAgg {T : Nat} {ti : TI} {i : TypeInfo} {d : TypeDesc} {z : Value} (ht : TyOk P T ti i d z) (w : World) : (Go.isAgg T).run P w = .ok (AE.isAgg ti.d) w := by
  have hd := ht.desc
  simp only [Go.isAgg, Sem.run_bind, run_underlying ht.und, Result.andThen_ok, hd]
  cases d <;> rfl

theorem run_size {T : Nat} {ti : TI} {i : TypeInfo} {d : TypeDesc} {z : Value} (ht : TyOk P T ti i d z) (w : World) : (sizeOf T).run P w = .ok ti.size w := by
  simp [sizeOf, typeInfo, ht.info, ht.size]

theorem run_tinfo {T : Nat} {ti : TI} {i : TypeInfo} {d : TypeDesc} {z : Value} (ht : TyOk P T ti i d z) (w : World) : (typeInfo T).run P w = .ok i w := by
  simp [typeInfo, ht.info]

theorem run_zero {T : Nat} {ti : TI} {i : TypeInfo} {d : TypeDesc} {z : Value} (ht : TyOk P T ti i d z) (w : World) : (zeroValue T).run P w = .ok z w := by
  simp [zeroValue, typeInfo, ht.info, ht.zero]

theorem mkVal_sound {σ : Sg} {Φ : Im} {w : World} {d : TD} {l : List V} {v : V} (h : mkVal d l = some v) {us : List Value} (hr : Rs σ Φ w l us) (h1 : ∀ u ∈ us, u.oneCell' = true) :
    ∃ u, R σ Φ w v u ∧ (AE.isAgg d = true → u = .agg us.toArray) ∧ (AE.isAgg d = false → us = [u]) := by
  unfold mkVal at h
  split at h
  · rename_i hd
    injection h with h
    subst h
    exact ⟨_, .agg l us hr.1 hr.2 h1, fun _ => rfl, fun e => by rw [e] at hd; cases hd⟩
  · rename_i hd
    split at h
    · rename_i v'
      injection h with h
      subst h
      have hl := hr.1
      match us, hl with
      | [u], _ => exact ⟨u, hr.2 0 v' u rfl rfl, fun e => by rw [e] at hd; exact absurd rfl hd, fun _ => rfl⟩
    · cases h

theorem run_loadVar {T : Nat} {ti : TI} {i : TypeInfo} {d : TypeDesc} {z : Value} (ht : TyOk P T ti i d z) {w : World} {b off : Nat} {us : List Value} {u : Value} (hn : us.length = ti.size)
    (hc : ∀ (j : Nat) (x : Value), us[j]? = some x → w.cell? ⟨b, off + j, Option.none⟩ = some x) (ha : AE.isAgg ti.d = true → u = .agg us.toArray) (hs : AE.isAgg ti.d = false → us = [u]) :
    (loadVar T ⟨b, off, Option.none⟩).run P w = .ok u w := by
  simp only [loadVar, Sem.run_bind, run_isAgg ht, Result.andThen_ok]
  cases hd : AE.isAgg ti.d with
  | true =>
    have := run_loadCells_list (P := P) w ⟨b, off, Option.none⟩ us fun j v hj => by rw [add_mk]; exact hc j v hj
    have hi := ht.size
    simp [ha hd, sizeOf, typeInfo, ht.info, ← hi, ← hn, this]
  | false =>
    have := hs hd
    subst this
    have := hc 0 u rfl
    simp only [Nat.add_zero] at this
    simp [this]

/-- A part of a value. -/
theorem part_sound {T : Nat} {ti : TI} {i : TypeInfo} {d : TypeDesc} {z : Value} (ht : TyOk P T ti i d z) {σ : Sg} {Φ : Im} {w : World} {cs : List V} {us : List Value} {off : Nat} {v : V} (h : part ti.d ti.size cs off = some v)
    (hr : Rs σ Φ w cs us) (h1 : ∀ u ∈ us, u.oneCell' = true) : ∃ u, (Go.part T us.toArray off).run P w = .ok u w ∧ R σ Φ w v u := by
  unfold AE.part at h
  split at h
  · rename_i hle
    obtain ⟨u, hu, ha, hs⟩ := mkVal_sound h ((hr.drop off).take ti.size) fun u hu => h1 u (List.mem_of_mem_drop (List.mem_of_mem_take hu))
    refine ⟨u, ?_, hu⟩
    simp only [Go.part, Sem.run_bind, run_isAgg ht, Result.andThen_ok]
    have hi := ht.size
    cases hd : AE.isAgg ti.d with
    | true =>
      simp only [if_true, Sem.run_bind, run_size ht, Result.andThen_ok, Sem.run_pure, ha hd]
      congr 2
      apply Array.ext'
      simp [List.extract_eq_take_drop]
    | false =>
      have e := hs hd
      have h0 : ((us.drop off).take ti.size)[0]? = some u := by rw [e]; rfl
      rw [List.getElem?_take] at h0
      split at h0
      · rw [List.getElem?_drop, Nat.add_zero] at h0
        simp [h0]
      · cases h0
  · cases h

end Go.AE
