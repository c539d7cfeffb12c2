/- Calls by specs are sound: what the callee is told. -/
import Derived.Test.YthdmhibmokhpgaaGreatAESound5
set_option linter.unusedVariables false
set_option linter.unusedSimpArgs false
namespace Go.AE

variable {P : Program} {C : Cfg} {ρ : Type}

theorem intsOf_sound {σ σ' : Sg} {Φ : Im} {w : World} : ∀ {l : List V} {xs : List Int} {us : List Value}, fz1.intsOf l = some xs → Rs σ Φ w l us → Rs σ' Φ w (flat .int xs) us ∧ xs.length = l.length
  | [], xs, us, h, hr => by
    simp only [fz1.intsOf, Option.some.injEq] at h
    subst h
    obtain rfl := hr.nil_inv
    exact ⟨Rs.nil, rfl⟩
  | v :: l, xs, us, h, hr => by
    cases v <;> first | (simp [fz1.intsOf] at h; done) | skip
    rename_i k n
    cases k <;> first | (simp [fz1.intsOf] at h; done) | skip
    simp only [fz1.intsOf] at h
    split at h
    · rename_i r hr'
      cases h
      obtain ⟨u, us', rfl, h0, hr1⟩ := hr.split
      obtain ⟨h1, h2⟩ := intsOf_sound (σ' := σ') hr' hr1
      cases h0
      exact ⟨Rs.cons (.i _ _) h1, by simp [h2]⟩
    · cases h

/-- What the callee is told of memory: nobody writes it. -/
structure Told (H : List Ob) (args : List V) (σ : Sg) (Φ : Im) (w : World) (σ' : Sg) (Φ' : Im) : Prop where
  res : Res H.length (killAll (freezeAll H (args.flatMap rows2)) (args.flatMap kills2)).length (killAll (freezeAll H (args.flatMap rows2)) (args.flatMap kills2))
    (fun id => id ∈ args.flatMap rows2 ∨ inKills (args.flatMap kills2) id) σ Φ w σ' Φ' w
  row : ∀ id ∈ args.flatMap rows2, ∀ e t xs ver mu ap nz, H[id]? = some (.row e t xs ver mu ap nz) → ∃ v own, σ id = .row v t.sz ver own ∧ R σ' Φ' w (.sl t xs false) v
  cell : ∀ id b o, inKills (args.flatMap kills2) id → σ id = .cell b o → Φ' b o

theorem fz1_told {H : List Ob} {args : List V} {σ σ' : Sg} {Φ Φ' : Im} {w : World} (hp : Hp σ Φ w H.length) (ht : Told H args σ Φ w σ' Φ') (hob : ∀ id, inKills (args.flatMap kills2) id → ∀ o, H[id]? = some o → ObOk σ Φ w id o)
    {v : V} {u : Value} (hv : R σ Φ w v u) (hrs : ∀ id ∈ rows1 v, id ∈ args.flatMap rows2) (hks : ∀ p ∈ kills2.kills1 v, p ∈ args.flatMap kills2) : R σ' Φ' w (fz1 H v) u := by
  have hm := ht.res.tr.value hp hv
  cases hv with
  | o id ver p n cap hq =>
    simp only [fz1]
    split
    · rename_i e t xs ver' mu ap nz hobj
      split
      · rename_i hver
        subst hver
        obtain ⟨v, own, e1, e3⟩ := ht.row id (hrs id (by simp [rows1])) e t xs ver mu ap nz hobj
        obtain ⟨v', sz, ver2, own', e4, e5, e6⟩ := hq
        rw [e1] at e4
        cases e4
        have := e6 rfl
        subst this
        exact e3
      · exact .u _
    · exact .u _
  | ov id ver off len p cap hc hq =>
    simp only [fz1]
    split
    · rename_i e t xs ver' mu ap nz hobj
      split
      · rename_i hver
        subst hver
        obtain ⟨v, own, e1, e3⟩ := ht.row id (hrs id (by simp [rows1])) e t xs ver mu ap nz hobj
        obtain ⟨v', sz, ver2, own', e4, e5, e6⟩ := hq
        rw [e1] at e4
        cases e4
        obtain ⟨p', n, cap', e7, hle, hpp⟩ := e6 rfl
        subst e7
        exact e3.sl_part hle hc hpp
      · exact .u _
    · exact .u _
  | cs id len esz p cap hcp hh =>
    unfold fz1
    split
    · rename_i heq; cases heq
    · rename_i heq; cases heq
    · rename_i id' len' heq
      cases heq
      split
      · rename_i l hl
        split
        · rename_i xs hxs
          have hin : ∀ j, j < len → inKills (args.flatMap kills2) (id + j) := fun j hj => ⟨(id, len * 1), hks _ (by simp [kills2.kills1]), by omega, by omega⟩
          have main : ∀ b0 off, (∀ j, j < len → σ (id + j) = .cell b0 (off + j) ∨ σ (id + j) = .gone) → (0 < len → p = some ⟨b0, off, Option.none⟩) → R σ' Φ' w (.sl .int xs false) (.slice p len cap) := by
            intro b0 off hb hp0
            obtain ⟨us, h1, h2, h3, h4, h5⟩ := loadC_sound hl (fun i hi => hob i (by
              have := hin (i - id) (by omega)
              rwa [Nat.add_sub_cancel' hi.1] at this)) hb
            obtain ⟨h6, h7⟩ := intsOf_sound (σ' := σ') hxs (ht.res.tr.values hp h1)
            have hxl : xs.length = len := by rw [h7, ← h1.1, h2]
            rw [← hxl]
            refine R.sl .int xs false p cap us h6.1 h6.2 (Nat.le_trans (Nat.le_of_eq hxl) hcp) (fun e => by cases e) fun j u hj => ?_
            have hjl : j < len := by rw [← h2]; exact (List.getElem?_eq_some_iff.1 hj).1
            refine ⟨⟨b0, off, Option.none⟩, hp0 (by omega), rfl, ht.cell (id + j) b0 (off + j) (hin j hjl) (h4 j hjl), (h5 j u hj).1, h3 u (List.mem_of_getElem? hj)⟩
          rcases Nat.eq_zero_or_pos len with h0 | h0
          · exact main 0 0 (fun j hj => by omega) (fun h => by omega)
          · obtain ⟨b0, off, e1, _⟩ := hh 0 (by omega)
            refine main b0 off (fun j hj => ?_) (fun _ => e1)
            obtain ⟨b1, off1, e2, h3⟩ := hh j (by omega)
            rw [e1] at e2
            cases e2
            exact h3
        · exact hm
      · exact hm
    · exact hm
  | _ => exact hm

end Go.AE
