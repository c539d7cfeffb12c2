/- Calls by specs are sound: the calls. -/
import Derived.Test.YthdmhibmokhpgaaGreatAESound6
set_option linter.unusedVariables false
set_option linter.unusedSimpArgs false
namespace Go.AE

variable {P : Program} {C : Cfg} {ρ : Type}

theorem rows1_row {σ : Sg} {Φ : Im} {w : World} {v : V} {u : Value} (h : R σ Φ w v u) {id : Nat} (hid : id ∈ rows1 v) : ∃ x sz ver own, σ id = .row x sz ver own := by
  cases h with
  | o id' ver p n cap hq =>
    simp only [rows1, List.mem_singleton] at hid
    subst hid
    obtain ⟨v', sz, ver', own, e, _⟩ := hq
    exact ⟨_, _, _, _, e⟩
  | ov id' ver off len p cap hc hq =>
    simp only [rows1, List.mem_singleton] at hid
    subst hid
    obtain ⟨v', sz, ver', own, e, _⟩ := hq
    exact ⟨_, _, _, _, e⟩
  | _ => simp [rows1] at hid

theorem kills1_cell {σ : Sg} {Φ : Im} {w : World} {v : V} {u : Value} (h : R σ Φ w v u) {p : Nat × Nat} (hp : p ∈ kills2.kills1 v) {id : Nat} (h1 : p.1 ≤ id) (h2 : id < p.1 + p.2) : (∃ b o, σ id = .cell b o) ∨ σ id = .gone := by
  cases h with
  | cs id' len esz q cap hc hh =>
    simp only [kills2.kills1, List.mem_singleton] at hp
    subst hp
    dsimp only at h1 h2
    obtain ⟨b, off, _, h3⟩ := hh (id - id') (by omega)
    rw [Nat.add_sub_cancel' h1] at h3
    rcases h3 with h3 | h3
    · exact .inl ⟨_, _, h3⟩
    · exact .inr h3
  | _ => simp [kills2.kills1] at hp

/-- The parts of arguments. -/
theorem rows2_row {σ : Sg} {Φ : Im} {w : World} {v : V} {u : Value} (h : R σ Φ w v u) {id : Nat} (hid : id ∈ rows2 v) : ∃ x sz ver own, σ id = .row x sz ver own := by
  cases v with
  | agg cs =>
    cases h with
    | agg _ us hl hr h1 =>
      simp only [rows2, List.mem_flatMap] at hid
      obtain ⟨c, hc, hid⟩ := hid
      obtain ⟨j, hj⟩ := List.getElem?_of_mem hc
      obtain ⟨u, _, hru⟩ := Rs.get ⟨hl, hr⟩ hj
      exact rows1_row hru hid
  | _ => exact rows1_row h hid

theorem kills2_cell {σ : Sg} {Φ : Im} {w : World} {v : V} {u : Value} (h : R σ Φ w v u) {p : Nat × Nat} (hp : p ∈ kills2 v) {id : Nat} (h1 : p.1 ≤ id) (h2 : id < p.1 + p.2) : (∃ b o, σ id = .cell b o) ∨ σ id = .gone := by
  cases v with
  | agg cs =>
    cases h with
    | agg _ us hl hr h3 =>
      simp only [kills2, List.mem_flatMap] at hp
      obtain ⟨c, hc, hp⟩ := hp
      obtain ⟨j, hj⟩ := List.getElem?_of_mem hc
      obtain ⟨u, _, hru⟩ := Rs.get ⟨hl, hr⟩ hj
      exact kills1_cell hru hp h1 h2
  | _ => exact kills1_cell h hp h1 h2

theorem told_exists {H : List Ob} {args : List V} {us : List Value} {σ : Sg} {Φ : Im} {w : World} (hp : Hp σ Φ w H.length) (hr : Rs σ Φ w args us)
    (hob : ∀ id, (id ∈ args.flatMap rows2 ∨ inKills (args.flatMap kills2) id) → ∀ o, H[id]? = some o → ObOk σ Φ w id o) : ∃ σ' Φ', Told H args σ Φ w σ' Φ' := by
  obtain ⟨σ1, Φ1, hr1, hf1⟩ := res_freeze (rs := args.flatMap rows2) hp fun id hid => hob id (.inl hid)
  have hrs1 := hr1.tr.values hp hr
  have hD : ∀ id, inKills (args.flatMap kills2) id → (∃ b o, σ1 id = .cell b o) ∨ σ1 id = .gone := fun id ⟨p, hp1, h1, h2⟩ => by
    obtain ⟨v, hv, hp2⟩ := List.mem_flatMap.1 hp1
    obtain ⟨j, hj⟩ := List.getElem?_of_mem hv
    obtain ⟨u, _, hru⟩ := hrs1.get hj
    exact kills2_cell hru hp2 h1 h2
  obtain ⟨k1, k2, k3⟩ := killAll_spec (args.flatMap kills2) (freezeAll H (args.flatMap rows2))
  obtain ⟨σ2, Φ2, hr2, hc2, hs2⟩ := res_kill hr1.hp hD k1 k2
  refine ⟨σ2, Φ2, Res.trans hr1 hr2 (by rw [freezeAll_length]; exact Nat.le_refl _) fun i _ hn => k3 i hn, fun id hid e t xs ver mu ap nz hq => ?_, fun id b o hk hc => ?_⟩
  · obtain ⟨v, own, e1, _, e3⟩ := hf1 id hid e t xs ver mu ap nz hq
    exact ⟨v, own, e1, hr2.tr.value hr1.hp e3⟩
  · refine hc2 id b o hk ?_
    by_cases hid : id ∈ args.flatMap rows2
    · obtain ⟨v, hv, hid2⟩ := List.mem_flatMap.1 hid
      obtain ⟨j, hj⟩ := List.getElem?_of_mem hv
      obtain ⟨u, _, hru⟩ := hr.get hj
      obtain ⟨x, sz, ver, own, e⟩ := rows2_row hru hid2
      rw [e] at hc
      cases hc
    · rw [hr1.tr.eqs id (hp.lt_of_ne (by rw [hc]; simp)) hid]
      exact hc

theorem told_args {H : List Ob} {args : List V} {us : List Value} {σ σ' : Sg} {Φ Φ' : Im} {w : World} (hp : Hp σ Φ w H.length) (ht : Told H args σ Φ w σ' Φ') (hob : ∀ id, inKills (args.flatMap kills2) id → ∀ o, H[id]? = some o → ObOk σ Φ w id o)
    (hr : Rs σ Φ w args us) : Rs σ' Φ' w (args.map (fz2 H)) us :=
  ⟨by simp [hr.1], fun j v u h1 h2 => by
    rw [List.getElem?_map] at h1
    cases hq : args[j]? with
    | none => rw [hq] at h1; cases h1
    | some v0 =>
      rw [hq] at h1
      cases h1
      have hv := hr.2 j v0 u hq h2
      have hmem := List.mem_of_getElem? hq
      cases v0 with
      | agg cs =>
        cases hv with
        | agg _ us hl hr' h3 =>
          simp only [fz2]
          refine .agg _ us (by simp [hl]) (fun i c x h4 h5 => ?_) h3
          rw [List.getElem?_map] at h4
          cases hc : cs[i]? with
          | none => rw [hc] at h4; cases h4
          | some c0 =>
            rw [hc] at h4
            cases h4
            have hcm := List.mem_of_getElem? hc
            exact fz1_told hp ht hob (hr' i c0 x hc h5) (fun id hid => List.mem_flatMap.2 ⟨_, hmem, List.mem_flatMap.2 ⟨c0, hcm, hid⟩⟩) fun p hp' => List.mem_flatMap.2 ⟨_, hmem, List.mem_flatMap.2 ⟨c0, hcm, hp'⟩⟩
      | _ => exact fz1_told hp ht hob hv (fun id hid => List.mem_flatMap.2 ⟨_, hmem, hid⟩) fun p hp' => List.mem_flatMap.2 ⟨_, hmem, hp'⟩⟩

end Go.AE
