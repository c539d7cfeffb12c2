/- Calls by specs are sound: the calls. -/
import Derived.Test.YthdmhibmokhpgaaGreatAESound7
set_option linter.unusedVariables false
set_option linter.unusedSimpArgs false
namespace Go.AE

variable {P : Program} {C : Cfg} {ρ : Type}

theorem plain1_any {σ σ' : Sg} {Φ Φ' : Im} {w w' : World} {v : V} {u : Value} (hv : plain1 v = true) (h : R σ Φ w v u) : R σ' Φ' w' v u := by
  cases h with
  | b x => exact .b x
  | i k n => exact .i k n
  | s x => exact .s x
  | _ => simp [plain1] at hv

theorem plain2_any {σ σ' : Sg} {Φ Φ' : Im} {w w' : World} {v : V} {u : Value} (hv : plain2 v = true) (h : R σ Φ w v u) : R σ' Φ' w' v u := by
  cases v with
  | agg cs =>
    cases h with
    | agg _ us hl hr h1 =>
      simp only [plain2] at hv
      exact .agg cs us hl (fun j v u h2 h3 => plain1_any (List.all_eq_true.1 hv v (List.mem_of_getElem? h2)) (hr j v u h2 h3)) h1
  | _ => exact plain1_any hv h

theorem plainV_any {σ σ' : Sg} {Φ Φ' : Im} {w w' : World} {v : V} {u : Value} (hv : plainV v = true) (h : R σ Φ w v u) : R σ' Φ' w' v u := by
  cases v with
  | tup cs =>
    cases h with
    | tup _ us hl hr =>
      simp only [plainV] at hv
      exact .tup cs us hl fun j v u h2 h3 => plain2_any (List.all_eq_true.1 hv v (List.mem_of_getElem? h2)) (hr j v u h2 h3)
  | _ => exact plain2_any hv h

/-- A world that only has more. -/
theorem res_grown {H : List Ob} {W : Nat → Prop} (hW : ∀ id, ¬ W id) {σ : Sg} {Φ Φ' : Im} {w w' : World} (hp : Hp σ Φ w H.length) (hg : w.grownBy w' Option.none) (h1 : ∀ b o, Φ b o → Φ' b o) (h2 : ∀ b o, Φ' b o → Φ b o ∨ (w.heap.size ≤ b ∧ b < w'.heap.size)) :
    Res H.length H.length H W σ Φ w σ Φ' w' where
  hp := ⟨hp.dom, hp.sep, fun i b o hi hΦ => by
    rcases h2 b o hΦ with h | h
    · exact hp.imm i b o hi h
    · have := hp.lt i b o hi; omega, fun i b o hi => Nat.lt_of_lt_of_le (hp.lt i b o hi) hg.size, fun b o hΦ => by
    rcases h2 b o hΦ with h | h
    · exact Nat.lt_of_lt_of_le (hp.immlt b o h) hg.size
    · exact h.2⟩
  tr := {
    os := hg.os, tape := hg.tape, output := hg.output, size := hg.size
    keep := fun b o hb _ => grown_same hg hb (by simp) o
    imm := h1
    immNew := fun b o h => by
      rcases h2 b o h with h | h
      · exact .inl h
      · exact .inr (.inl h.1)
    later := fun id _ => Lc.later.refl _
    eqs := fun id _ _ => rfl
    cov := fun id b o hc => .inr (.inl ⟨hp.lt_of_covers hc, hc⟩) }
  ob := fun id hid o ho => by
    rcases hid with h | h
    · exact absurd h (hW id)
    · have := (List.getElem?_eq_some_iff.1 ho).1
      omega

theorem parts_or (v : V) : (∃ cs, v = .agg cs) ∨ (rows2 v = rows1 v ∧ kills2 v = kills2.kills1 v ∧ views2 v = views2.views1 v) := by
  cases v <;> first | exact .inl ⟨_, rfl⟩ | exact .inr ⟨rfl, rfl, rfl⟩

theorem touched_views {args : List V} {id : Nat} (h : id ∈ args.flatMap rows2 ∨ inKills (args.flatMap kills2) id) : touched (args.flatMap views2) id := by
  have one : ∀ v : V, (id ∈ rows1 v ∨ ∃ p ∈ kills2.kills1 v, p.1 ≤ id ∧ id < p.1 + p.2) → touched (views2.views1 v) id := fun v hv => by
    cases v <;> simp [rows1, kills2.kills1] at hv <;> simp [views2.views1, touched]
    · omega
    · omega
    · exact hv
  have two : ∀ v : V, (id ∈ rows2 v ∨ ∃ p ∈ kills2 v, p.1 ≤ id ∧ id < p.1 + p.2) → touched (views2 v) id := fun v hv => by
    rcases parts_or v with ⟨cs, rfl⟩ | ⟨e1, e2, e3⟩
    · have : ∃ c ∈ cs, id ∈ rows1 c ∨ ∃ p ∈ kills2.kills1 c, p.1 ≤ id ∧ id < p.1 + p.2 := by
        rcases hv with hv | ⟨p, hp, h1⟩
        · obtain ⟨c, hc, h1⟩ := List.mem_flatMap.1 hv
          exact ⟨c, hc, .inl h1⟩
        · obtain ⟨c, hc, h2⟩ := List.mem_flatMap.1 hp
          exact ⟨c, hc, .inr ⟨p, h2, h1⟩⟩
      obtain ⟨c, hc, h1⟩ := this
      obtain ⟨a, ha, h2⟩ := one c h1
      exact ⟨a, List.mem_flatMap.2 ⟨c, hc, ha⟩, h2⟩
    · rw [e1, e2] at hv
      rw [e3]
      exact one v hv
  have : ∃ v ∈ args, id ∈ rows2 v ∨ ∃ p ∈ kills2 v, p.1 ≤ id ∧ id < p.1 + p.2 := by
    rcases h with hv | ⟨p, hp, h1⟩
    · obtain ⟨c, hc, h1⟩ := List.mem_flatMap.1 hv
      exact ⟨c, hc, .inl h1⟩
    · obtain ⟨c, hc, h2⟩ := List.mem_flatMap.1 hp
      exact ⟨c, hc, .inr ⟨p, h2, h1⟩⟩
  obtain ⟨v, hv, h1⟩ := this
  obtain ⟨a, ha, h2⟩ := two v h1
  exact ⟨a, List.mem_flatMap.2 ⟨v, hv, ha⟩, h2⟩

theorem views_not_wrote {args : List V} {id : Nat} : ¬ wrote (args.flatMap views2) id := by
  have one : ∀ v : V, ∀ a ∈ views2.views1 v, a.w = false := fun v a ha => by
    cases v <;> simp [views2.views1] at ha <;> subst ha <;> rfl
  have two : ∀ v : V, ∀ a ∈ views2 v, a.w = false := fun v a ha => by
    rcases parts_or v with ⟨cs, rfl⟩ | ⟨_, _, e3⟩
    · obtain ⟨c, _, h⟩ := List.mem_flatMap.1 ha
      exact one c a h
    · rw [e3] at ha
      exact one v a ha
  rintro ⟨a, ha, hw, _⟩
  obtain ⟨v, _, h⟩ := List.mem_flatMap.1 ha
  rw [two v a h] at hw
  cases hw

theorem wrote_kills {ks : List (Nat × Nat)} {id : Nat} : wrote (ks.map fun p => (⟨true, p.1, p.2⟩ : Acc)) id ↔ inKills ks id := by
  simp only [wrote, List.mem_map, inKills]
  constructor
  · rintro ⟨a, ⟨p, hp, rfl⟩, _, h⟩
    exact ⟨p, hp, h⟩
  · rintro ⟨p, hp, h⟩
    exact ⟨_, ⟨p, hp, rfl⟩, rfl, h⟩

theorem evCallS_sound {call : CallK ρ} (hS : ∀ g s, look g C.specs = some s → SpecOk P g s) (hcall : CallOk P call) {g : Nat} {args : List V} {H : List Ob} {lg : Lg} {K : V → List Ob → Lg → Option ρ} {r : ρ} (h : evCallS C call g args H lg K = some r) :
    ∃ v H' l, K v H' (l ++ lg) = some r ∧ Fr H l H' ∧ CallSem P g args H v H' l := by
  unfold evCallS at h
  split at h
  · rename_i s hs
    obtain ⟨hen, hspec⟩ := hS g s hs
    split at h
    · rename_i o hrun
      obtain ⟨y, rfl, h'⟩ := brO_some h
      clear h
      have hh := hspec _ y hrun
      split at h'
      · rename_i hk
        obtain ⟨k1, k2, k3⟩ := killAll_spec (args.flatMap kills2) (freezeAll H (args.flatMap rows2))
        refine ⟨_, _, (((args.flatMap rows2).map fun id => (⟨true, id, 1⟩ : Acc)) ++ (((args.flatMap kills2).map fun p => (⟨true, p.1, p.2⟩ : Acc)) ++ args.flatMap views2)), by simpa using h', ⟨by rw [k1, freezeAll_length]; exact Nat.le_refl _, fun id hid hn => ?_⟩, hen, fun σ Φ w us hp ho hr => ?_⟩
        · rw [wrote_append, wrote_append, wrote_rows, wrote_kills, not_or, not_or] at hn
          rw [k3 id hn.2.1, freezeAll_ne _ _ _ hn.1]
        · have hob : ∀ id, (id ∈ args.flatMap rows2 ∨ inKills (args.flatMap kills2) id) → ∀ o, H[id]? = some o → ObOk σ Φ w id o := fun id hid o hoo => ho id (touched_append.2 (.inr (touched_append.2 (.inr (touched_views hid))))) o hoo
          obtain ⟨σ1, Φ1, ht⟩ := told_exists hp hr hob
          refine Calls.mono (hh σ1 Φ1 w us ht.res.hp.immlt (told_args hp ht (fun id hid => hob id (.inr hid)) hr)) fun e w' he => ?_
          obtain ⟨u, Φ2, rfl, hg, h1, h2, hR⟩ := he
          have hres2 := res_grown (H := killAll (freezeAll H (args.flatMap rows2)) (args.flatMap kills2)) (W := fun _ => False) (fun _ h => h) ht.res.hp hg h1 h2
          refine ⟨u, σ1, Φ2, rfl, hR.mono (σ := fun _ => .none) (σ' := σ1) (fun _ => trivial) (fun _ _ h => h) (fun _ _ _ _ h => h), (Res.trans ht.res hres2 (by rw [k1, freezeAll_length]; exact Nat.le_refl _) fun _ _ _ => rfl).congr fun id => ?_⟩
          rw [wrote_append, wrote_append, wrote_rows, wrote_kills, or_false]
          constructor
          · rintro (h | h)
            · exact .inl h
            · exact .inr (.inl h)
          · rintro (h | h | h)
            · exact .inl h
            · exact .inr h
            · exact absurd h views_not_wrote
      · rename_i hk
        split at h'
        · rename_i hpl
          refine ⟨_, H, args.flatMap views2, h', Fr.refl _ _, hen, fun σ Φ w us hp ho hr => ?_⟩
          have hob : ∀ id, (id ∈ args.flatMap rows2 ∨ inKills (args.flatMap kills2) id) → ∀ o, H[id]? = some o → ObOk σ Φ w id o := fun id hid o hoo => ho id (touched_views hid) o hoo
          obtain ⟨σ1, Φ1, ht⟩ := told_exists hp hr hob
          refine Calls.mono (hh σ1 Φ1 w us ht.res.hp.immlt (told_args hp ht (fun id hid => hob id (.inr hid)) hr)) fun e w' he => ?_
          obtain ⟨u, Φ2, rfl, hg, h1, h2, hR⟩ := he
          exact ⟨u, σ, Φ, rfl, plainV_any hpl hR, res_grown (fun id => views_not_wrote) hp hg (fun _ _ h => h) fun _ _ h => .inl h⟩
        · cases h'
    · exact hcall _ _ _ _ _ _ h
  · exact hcall _ _ _ _ _ _ h

end Go.AE
