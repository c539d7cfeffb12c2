/- The operations are sound: copy. -/
import Derived.Test.YthdmhibmokhpgaaGreatAEOps11
set_option linter.unusedVariables false
set_option linter.unusedSimpArgs false
namespace Go.AE

variable {P : Program} {C : Cfg} {ρ : Type}

theorem run_firstCells {w : World} {q : Option Addr} {m c sz n : Nat} {vals : List Value} (hvl : vals.length = m * sz) (hr : ReadAt w q vals) (hn : n ≤ m) :
    (Builtin.firstCells sz n (.slice q m c)).run P w = .ok (vals.take (n * sz)).toArray w := by
  have hle : n * sz ≤ m * sz := Nat.mul_le_mul_right _ hn
  cases q with
  | none =>
    have : vals = [] := by
      rcases Nat.eq_zero_or_pos vals.length with h | h
      · exact List.eq_nil_of_length_eq_zero h
      · obtain ⟨a, e⟩ := hr.nil_or h
        cases e
    subst this
    simp [Builtin.firstCells]
  | some a =>
    have hl : (vals.take (n * sz)).length = n * sz := by simp; omega
    have := run_loadCells_list (P := P) w a (vals.take (n * sz)) fun j v hj => by
      rw [List.getElem?_take] at hj
      split at hj
      · exact hr.cells j v hj
      · cases hj
    rw [hl] at this
    simp [Builtin.firstCells, this]

theorem run_copy_some {T T' e : Nat} (hu : P.underlying T = some (.slice e)) {ti : TI} {i : TypeInfo} {d : TypeDesc} {z : Value} (ht : TyOk P e ti i d z) (ty : TypeId) {a : Addr} {q : Option Addr} {dLen dCap m c : Nat} {vals : List Value} {w w' : World}
    (hvl : vals.length = m * ti.size) (hr : ReadAt w q vals) (hs : (storeCells a (vals.take (min m dLen * ti.size)) 0).run P w = .ok () w') :
    (Builtin.copy_ #[T, T'] ty #[.slice (some a) dLen dCap, .slice q m c]).run P w = .ok (goInt (min m dLen : Nat)) w' := by
  have hf := run_firstCells (P := P) (c := c) (n := min m dLen) hvl hr (Nat.min_le_left _ _)
  have e : Nat.min m dLen = min m dLen := rfl
  simp [Builtin.copy_, run_underlying hu, Builtin.lenOf, run_size ht, e, hf, hs]

theorem run_copy_zero {T T' e : Nat} (hu : P.underlying T = some (.slice e)) {ti : TI} {i : TypeInfo} {d : TypeDesc} {z : Value} (ht : TyOk P e ti i d z) (ty : TypeId) {p q : Option Addr} {dLen dCap m c : Nat} {vals : List Value} {w : World}
    (hvl : vals.length = m * ti.size) (hr : ReadAt w q vals) (h0 : min m dLen = 0) :
    (Builtin.copy_ #[T, T'] ty #[.slice p dLen dCap, .slice q m c]).run P w = .ok (goInt (min m dLen : Nat)) w := by
  cases p with
  | some a => exact run_copy_some hu ht ty hvl hr (by rw [h0, Nat.zero_mul, List.take_zero]; rfl)
  | none =>
    have hf := run_firstCells (P := P) (c := c) (n := min m dLen) hvl hr (Nat.min_le_left _ _)
    have e : Nat.min m dLen = min m dLen := rfl
    simp [Builtin.copy_, run_underlying hu, Builtin.lenOf, run_size ht, e, hf]

def over (vals old : List Value) : List Value := vals.take old.length ++ old.drop vals.length

theorem copyCells_sound {σ : Sg} {Φ : Im} {w : World} : ∀ {cs vs : List V} {ys : List Int} {vals old : List Value}, copyCells cs ys = some vs → Rs σ Φ w cs old → Rs σ Φ w (flat .int ys) vals → vs.length = cs.length ∧ Rs σ Φ w vs (over vals old)
  | [], vs, ys, vals, old, h, ho, hv => by
    simp only [copyCells, Option.some.injEq] at h
    subst h
    obtain rfl := ho.nil_inv
    exact ⟨rfl, by simp only [over, List.length_nil, List.take_zero, List.drop_nil, List.append_nil]; exact Rs.nil⟩
  | c :: cs, vs, ys, vals, old, h, ho, hv => by
    cases c <;> first | (simp [copyCells] at h; done) | skip
    rename_i k n
    cases k <;> first | (simp [copyCells] at h; done) | skip
    simp only [copyCells] at h
    split at h
    · rename_i r hr
      injection h with h
      subst h
      obtain ⟨o, old', rfl, h0, ho'⟩ := ho.split
      cases ys with
      | nil =>
        have hvn : vals = [] := hv.nil_inv
        subst hvn
        obtain ⟨h1, h2⟩ := copyCells_sound hr ho' (by exact Rs.nil)
        refine ⟨by simp [h1], ?_⟩
        simp only [over, List.take_nil, List.nil_append, List.length_nil, List.drop_zero] at h2 ⊢
        exact Rs.cons h0 h2
      | cons y ys =>
        have hv : Rs σ Φ w (.i .i64 y :: flat .int ys) vals := hv
        obtain ⟨u, vals', rfl, h1, hv'⟩ := hv.split
        obtain ⟨h2, h3⟩ := copyCells_sound hr ho' hv'
        refine ⟨by simp [h2], ?_⟩
        simp only [over, List.length_cons, List.take_succ_cons, List.drop_succ_cons, List.cons_append] at h3 ⊢
        exact Rs.cons h1 h3
    · cases h

theorem flat_overlay (t : STy) (ys xs : List (El t)) : flat t (overlay ys xs) = (flat t ys).take (xs.length * t.sz) ++ (flat t xs).drop (ys.length * t.sz) := by
  rw [overlay, flat_append, flat_take, flat_drop]

theorem len_put {α : Type} (xs ys : List α) (off len k : Nat) (hk : min ys.length len = k) (h : off + len ≤ xs.length) : (xs.take off ++ (ys.take len ++ xs.drop (off + k))).length = xs.length := by
  simp only [List.length_append, List.length_take, List.length_drop]
  omega

theorem mul_min (a b c : Nat) : min a b * c = min (a * c) (b * c) := by
  rcases Nat.le_total a b with h | h
  · rw [Nat.min_eq_left h, Nat.min_eq_left (Nat.mul_le_mul_right c h)]
  · rw [Nat.min_eq_right h, Nat.min_eq_right (Nat.mul_le_mul_right c h)]

theorem evCopy_sound (hT : TysOk P C) {T : Nat} {dst x : V} {H : List Ob} {lg : Lg} {K : V → List Ob → Lg → Option ρ} {r : ρ} (h : evCopy C T dst x H lg K = some r) :
    ∃ v H' l, K v H' (l ++ lg) = some r ∧ Fr H l H' ∧ ∀ (σ : Sg) (Φ : Im) (w : World) (a b : Value) (ty : TypeId), Hp σ Φ w H.length → ObsOk σ Φ w H (touched l) → R σ Φ w dst a → R σ Φ w x b →
      ∃ u σ' Φ' w', (Builtin.copy_ #[T, T] ty #[a, b]).run P w = .ok u w' ∧ R σ' Φ' w' v u ∧ Res H.length H'.length H' (wrote l) σ Φ w σ' Φ' w' := by
  unfold evCopy at h
  split at h
  · rename_i id ver
    split at h
    · rename_i e0 t xs v0 ap nz hob
      split at h
      · rename_i hc
        obtain ⟨rfl, hsz0⟩ := hc
        obtain ⟨e, hu, ti, i2, d2, z2, ht2, hsz⟩ := elSz_some hT hsz0
        split at h
        · rename_i ys nz' lx hsrc
          obtain ⟨hlx, hsrc⟩ := srcOf_sound hsrc
          have hlt0 : id < H.length := (List.getElem?_eq_some_iff.1 hob).1
          refine ⟨_, _, ⟨true, id, 1⟩ :: lx, h, ⟨by simp, fun i hi hn => List.getElem?_set_ne fun e => hn (wrote_one.2 (.inl (by omega)))⟩, fun σ Φ w a b ty hp ho ha hbx => ?_⟩
          have hobk := ho id (touched_self _ _ _) _ hob
          obtain ⟨q, c, vals, rfl, hr, h1, hnz, hread⟩ := hsrc σ Φ w b (fun i hi => ho i (touched_cons.2 (.inr hi))) hbx
          obtain ⟨v, olds, hσ, hO0, hr0, h1o, hnz0⟩ := row_own hobk (by simp)
          obtain ⟨p, cap, rfl⟩ := hO0.slice
          have hvl := hr.1
          rw [flat_length] at hvl
          have hol := hO0.1
          cases ha with
          | o _ _ p' n' cap' hq =>
            obtain ⟨v', sz, ver', own', e4, _, e5⟩ := hq
            rw [hσ] at e4
            injection e4 with e6 e7 e8 e9
            subst e6; subst e7; subst e8
            have e10 := e5 rfl
            injection e10 with e11 e12 e13
            subst e11; subst e12; subst e13
            have hlen : (overlay ys xs).length = xs.length := by simp [overlay]; omega
            have hnza : nz = true → overlay ys xs ≠ [] := fun e1 e2 => by
              have := congrArg List.length e2
              rw [hlen] at this
              exact hnz0 e1 (List.eq_nil_of_length_eq_zero this)
            have hrs : Rs σ Φ w (flat t (overlay ys xs)) (vals.take (xs.length * t.sz) ++ olds.drop (ys.length * t.sz)) := by
              rw [flat_overlay]
              exact (hr.take _).append (hr0.drop _)
            have h1a : ∀ u ∈ vals.take (xs.length * t.sz) ++ olds.drop (ys.length * t.sz), u.oneCell' = true := fun u hu => (List.mem_append.1 hu).elim (fun h => h1 u (List.mem_of_mem_take h)) (fun h => h1o u (List.mem_of_mem_drop h))
            have fin : ∀ w', (Builtin.copy_ #[T, T] ty #[.slice p xs.length cap, .slice q ys.length c]).run P w = .ok (goInt (min ys.length xs.length : Nat)) w' → w.grownBy w' (blk (.slice p xs.length cap)) →
                OwnV w' e0 t.sz (.slice p xs.length cap) xs.length (vals.take (xs.length * t.sz) ++ olds.drop (ys.length * t.sz)) →
                ∃ u σ' Φ' w', (Builtin.copy_ #[T, T] ty #[.slice p xs.length cap, .slice q ys.length c]).run P w = .ok u w' ∧ R σ' Φ' w' (I (min ys.length xs.length : Nat)) u ∧
                  Res H.length (H.set id (Ob.row e0 t (overlay ys xs) ver true ap nz)).length (H.set id (Ob.row e0 t (overlay ys xs) ver true ap nz)) (wrote (⟨true, id, 1⟩ :: lx)) σ Φ w σ' Φ' w' := by
              intro w' hrun hg hO
              obtain ⟨σ2, hr2, hs2⟩ := res_updRow (H := H) (id := id) (ver := ver) (ver' := ver) (mu := true) (ap := ap) (nz := nz) hlt0 hp hσ hg hlen hO hrs h1a (Nat.le_refl _) (fun _ => rfl) (fun b hb => .inl hb) hnza
              refine ⟨_, σ2, Φ, w', hrun, .i _ _, hr2.congr fun i => ?_⟩
              rw [wrote_one]
              constructor
              · rintro rfl; exact .inl (by omega)
              · rintro (h5 | h5)
                · omega
                · exact absurd h5 (hlx i)
            rcases Nat.eq_zero_or_pos (min ys.length xs.length) with h0 | h0
            · refine fin w (run_copy_zero hu ht2 ty (by rw [hvl, hsz]) hread h0) ⟨rfl, rfl, rfl, Nat.le_refl _, fun _ _ _ => rfl⟩ ?_
              have hsame : vals.take (xs.length * t.sz) ++ olds.drop (ys.length * t.sz) = olds := by
                have h0' : ys.length = 0 ∨ xs.length = 0 := by omega
                rcases h0' with h5 | h5
                · have : vals = [] := List.eq_nil_of_length_eq_zero (by rw [hvl, h5]; simp)
                  rw [h5, this]; simp
                · have : olds = [] := List.eq_nil_of_length_eq_zero (by rw [hol, h5]; simp)
                  rw [h5, this]; simp
              rw [hsame]
              exact hO0
            · rcases hO0.2 with ⟨p', e1, e2⟩ | ⟨g, cap', cur, e1, hcap, hg, hle, hm, hs, htk⟩
              · omega
              · simp only [Value.slice.injEq] at e1
                obtain ⟨rfl, _, rfl⟩ := e1
                have hmul : xs.length * t.sz ≤ cap * t.sz := Nat.mul_le_mul_right _ hle
                have hmm := mul_min ys.length xs.length t.sz
                have hul : (vals.take (min ys.length xs.length * t.sz)).length = min ys.length xs.length * t.sz := by rw [List.length_take, hvl]; omega
                have hst := run_storeCells_at P g 0 e0 (vals.take (min ys.length xs.length * t.sz)) 0 cur w hg (by rw [hul]; omega) (fun v hv => h1 v (List.mem_of_mem_take hv))
                simp only [Nat.add_zero, Nat.zero_add] at hst
                have hO := OwnV.write (o := 0) (us := vals.take (min ys.length xs.length * t.sz)) hol hcap hg hle hm hs htk (by rw [hul]; omega)
                simp only [Nat.zero_add] at hO
                have heq : olds.take 0 ++ (vals.take (min ys.length xs.length * t.sz) ++ olds.drop (vals.take (min ys.length xs.length * t.sz)).length) = vals.take (xs.length * t.sz) ++ olds.drop (ys.length * t.sz) := by
                  rw [List.take_zero, List.nil_append, hul, hmm]
                  rcases Nat.le_total (ys.length * t.sz) (xs.length * t.sz) with h5 | h5
                  · rw [Nat.min_eq_left h5, List.take_of_length_le (l := vals) (by omega), List.take_of_length_le (l := vals) (by omega)]
                  · rw [Nat.min_eq_right h5, List.drop_eq_nil_of_le (by omega), List.drop_eq_nil_of_le (by omega)]
                rw [heq] at hO
                exact fin _ (run_copy_some hu ht2 ty (by rw [hvl, hsz]) hread (by rw [hsz]; exact hst)) (by rw [blk_some hcap]; exact grownBy_setRow _ hg) hO
        · cases h
      · cases h
    · cases h
  · rename_i id ver off len
    split at h
    · rename_i e0 t xs v0 ap nz hob
      split at h
      · rename_i hc
        obtain ⟨rfl, hsz0⟩ := hc
        obtain ⟨e, hu, ti, i2, d2, z2, ht2, hsz⟩ := elSz_some hT hsz0
        split at h
        · rename_i ys nz' lx hsrc
          obtain ⟨hlx, hsrc⟩ := srcOf_sound hsrc
          rcases brB_some h with ⟨hb, h'⟩ | ⟨_, h'⟩
          · have hfit := of_decide_eq_true hb
            clear h
            generalize hkd : min ys.length len = k at h'
            have hlt0 : id < H.length := (List.getElem?_eq_some_iff.1 hob).1
            refine ⟨_, _, ⟨true, id, 1⟩ :: lx, h', ⟨by simp, fun i hi hn => List.getElem?_set_ne fun e => hn (wrote_one.2 (.inl (by omega)))⟩, fun σ Φ w a b ty hp ho ha hbx => ?_⟩
            have hobk := ho id (touched_self _ _ _) _ hob
            obtain ⟨q, c, vals, rfl, hr, h1, hnz, hread⟩ := hsrc σ Φ w b (fun i hi => ho i (touched_cons.2 (.inr hi))) hbx
            obtain ⟨v, olds, hσ, hO0, hr0, h1o, hnz0⟩ := row_own hobk (by simp)
            obtain ⟨p, cap, rfl⟩ := hO0.slice
            have hvl := hr.1
            rw [flat_length] at hvl
            have hol := hO0.1
            cases ha with
            | ov _ _ _ _ p' cap' hcap0 hq =>
              obtain ⟨v', sz, ver', own', e4, _, e5⟩ := hq
              rw [hσ] at e4
              injection e4 with e6 e7 e8 e9
              subst e6; subst e7; subst e8
              obtain ⟨p2, n2, cap2, e10, hle0, hpp⟩ := e5 rfl
              injection e10 with e11 e12 e13
              subst e11; subst e12; subst e13
              have HP : RowKit.Hid (0 < len → ∃ a, p = some a ∧ p' = some ⟨a.block, a.off + off * t.sz, Option.none⟩) := hpp
              clear hpp e5
              have hlen : (xs.take off ++ (ys.take len ++ xs.drop (off + k))).length = xs.length := len_put xs ys off len k hkd hfit
              have hnza : nz = true → xs.take off ++ (ys.take len ++ xs.drop (off + k)) ≠ [] := fun e1 e2 => by
                have := congrArg List.length e2
                rw [hlen] at this
                exact hnz0 e1 (List.eq_nil_of_length_eq_zero this)
              have hrs : Rs σ Φ w (flat t (xs.take off ++ (ys.take len ++ xs.drop (off + k)))) (olds.take (off * t.sz) ++ (vals.take (len * t.sz) ++ olds.drop ((off + k) * t.sz))) := by
                rw [flat_append, flat_append, flat_take, flat_take, flat_drop]
                exact (hr0.take _).append ((hr.take _).append (hr0.drop _))
              have h1a : ∀ u ∈ olds.take (off * t.sz) ++ (vals.take (len * t.sz) ++ olds.drop ((off + k) * t.sz)), u.oneCell' = true := fun u hu =>
                (List.mem_append.1 hu).elim (fun h => h1o u (List.mem_of_mem_take h)) (fun h => (List.mem_append.1 h).elim (fun h => h1 u (List.mem_of_mem_take h)) (fun h => h1o u (List.mem_of_mem_drop h)))
              have fin : ∀ w', (Builtin.copy_ #[T, T] ty #[.slice p' len cap', .slice q ys.length c]).run P w = .ok (goInt (k : Nat)) w' → w.grownBy w' (blk (.slice p xs.length cap)) →
                  OwnV w' e0 t.sz (.slice p xs.length cap) xs.length (olds.take (off * t.sz) ++ (vals.take (len * t.sz) ++ olds.drop ((off + k) * t.sz))) →
                  ∃ u σ' Φ' w', (Builtin.copy_ #[T, T] ty #[.slice p' len cap', .slice q ys.length c]).run P w = .ok u w' ∧ R σ' Φ' w' (I (k : Nat)) u ∧
                    Res H.length (H.set id (Ob.row e0 t (xs.take off ++ (ys.take len ++ xs.drop (off + k))) ver true ap nz)).length (H.set id (Ob.row e0 t (xs.take off ++ (ys.take len ++ xs.drop (off + k))) ver true ap nz)) (wrote (⟨true, id, 1⟩ :: lx)) σ Φ w σ' Φ' w' := by
                intro w' hrun hg hO
                obtain ⟨σ2, hr2, hs2⟩ := res_updRow (H := H) (id := id) (ver := ver) (ver' := ver) (mu := true) (ap := ap) (nz := nz) hlt0 hp hσ hg hlen hO hrs h1a (Nat.le_refl _) (fun _ => rfl) (fun b hb => .inl hb) hnza
                refine ⟨_, σ2, Φ, w', hrun, .i _ _, hr2.congr fun i => ?_⟩
                rw [wrote_one]
                constructor
                · rintro rfl; exact .inl (by omega)
                · rintro (h5 | h5)
                  · omega
                  · exact absurd h5 (hlx i)
              have hk : k * t.sz = min (ys.length * t.sz) (len * t.sz) := by rw [← hkd]; exact mul_min _ _ _
              have htk2 : vals.take (k * t.sz) = vals.take (len * t.sz) := by
                rw [hk]
                rcases Nat.le_total (ys.length * t.sz) (len * t.sz) with h5 | h5
                · rw [Nat.min_eq_left h5, List.take_of_length_le (l := vals) (by omega), List.take_of_length_le (l := vals) (by omega)]
                · rw [Nat.min_eq_right h5]
              have hul : (vals.take (len * t.sz)).length = k * t.sz := by rw [List.length_take, hvl, hk]; omega
              rcases Nat.eq_zero_or_pos k with h0 | h0
              · refine fin w (by rw [← hkd] at h0 ⊢; exact run_copy_zero hu ht2 ty (by rw [hvl, hsz]) hread h0) ⟨rfl, rfl, rfl, Nat.le_refl _, fun _ _ _ => rfl⟩ ?_
                have hn0 : vals.take (len * t.sz) = [] := List.eq_nil_of_length_eq_zero (by rw [hul, h0]; simp)
                rw [hn0, h0, List.nil_append, Nat.add_zero, List.take_append_drop]
                exact hO0
              · rcases hO0.2 with ⟨p3, e1, e2⟩ | ⟨g, cap3, cur, e1, hcap, hg, hle, hm, hs, htk⟩
                · have : len ≤ xs.length := by omega
                  omega
                · simp only [Value.slice.injEq] at e1
                  obtain ⟨rfl, _, rfl⟩ := e1
                  obtain ⟨a1, e1, rfl⟩ := HP.out (by omega)
                  cases e1
                  have hmul : xs.length * t.sz ≤ cap * t.sz := Nat.mul_le_mul_right _ hle
                  have hmul2 : (off + k) * t.sz ≤ xs.length * t.sz := Nat.mul_le_mul_right _ (by omega)
                  rw [Nat.add_mul] at hmul2
                  have hst := run_storeCells_at P g (off * t.sz) e0 (vals.take (len * t.sz)) 0 cur w hg (by rw [hul]; omega) (fun v hv => h1 v (List.mem_of_mem_take hv))
                  simp only [Nat.add_zero] at hst
                  have hO := OwnV.write (o := off * t.sz) (us := vals.take (len * t.sz)) hol hcap hg hle hm hs htk (by rw [hul]; omega)
                  have e5 : off * t.sz + (vals.take (len * t.sz)).length = (off + k) * t.sz := by rw [hul, Nat.add_mul]
                  rw [e5] at hO hst
                  refine fin _ (by rw [← hkd]; refine run_copy_some hu ht2 ty (by rw [hvl, hsz]) hread ?_; rw [hkd, hsz, htk2, Nat.zero_add]; exact hst) (by rw [blk_some hcap]; exact grownBy_setRow _ hg) hO
          · cases h'
        · cases h
      · cases h
    · cases h
  · rename_i id len
    split at h
    · cases h
    · rename_i hsz0
      have hsz0 : elSz C T = some 1 := Decidable.of_not_not hsz0
      obtain ⟨e, hu, ti, i2, d2, z2, ht2, hsz⟩ := elSz_some hT hsz0
      split at h
      · rename_i ys nz' lx cs hsrc hcs
        obtain ⟨hlx, hsrc⟩ := srcOf_sound hsrc
        split at h
        · rename_i vs hvs
          split at h
          · rename_i H' hst
            obtain ⟨hl, hin, hout⟩ := storeC_spec hst
            obtain ⟨hcl, _⟩ := loadC_spec hcs
            have hvc : vs.length = cs.length := by
              have : ∀ {cs vs : List V} {ys : List Int}, copyCells cs ys = some vs → vs.length = cs.length := by
                intro cs
                induction cs with
                | nil => intro vs ys h; simp only [copyCells, Option.some.injEq] at h; subst h; rfl
                | cons c cs ih =>
                  intro vs ys h
                  cases c <;> first | (simp [copyCells] at h; done) | skip
                  rename_i k n
                  cases k <;> first | (simp [copyCells] at h; done) | skip
                  simp only [copyCells] at h
                  split at h
                  · rename_i r hr
                    injection h with h
                    subst h
                    simp [ih hr]
                  · cases h
              exact this hvs
            refine ⟨_, _, ⟨true, id, len⟩ :: lx, h, ⟨by omega, fun i hi hn => hout i fun hh => hn (wrote_one.2 (.inl (by omega)))⟩, fun σ Φ w a b ty hp ho ha hbx => ?_⟩
            obtain ⟨q, c, vals, rfl, hr, h1, hnz, hread⟩ := hsrc σ Φ w b (fun i hi => ho i (touched_cons.2 (.inr hi))) hbx
            have hvl := hr.1
            rw [flat_length] at hvl
            have hvl1 : vals.length = ys.length := by rw [hvl]; simp [STy.sz]
            cases ha with
            | cs _ _ _ p cap hcap0 hh =>
              have main : ∀ b0 off, (∀ j, j < len → σ (id + j) = .cell b0 (off + j) ∨ σ (id + j) = .gone) → (0 < len → p = some ⟨b0, off, Option.none⟩) →
                  ∃ u σ' Φ' w', (Builtin.copy_ #[T, T] ty #[.slice p len cap, .slice q ys.length c]).run P w = .ok u w' ∧ R σ' Φ' w' (I (min ys.length len : Nat)) u ∧ Res H.length H'.length H' (wrote (⟨true, id, len⟩ :: lx)) σ Φ w σ' Φ' w' := by
                intro b0 off hb hp0
                obtain ⟨olds, hro, hol, h1o, hσc, hcell⟩ := loadC_sound hcs (fun i hi => ho i (touched_cons.2 (.inl hi))) hb
                obtain ⟨_, hov⟩ := copyCells_sound hvs hro hr
                have hovl := hov.1
                have hkl : (vals.take (min ys.length len)).length = min ys.length len := by rw [List.length_take, hvl1]; omega
                obtain ⟨w', hrun, hS⟩ := run_storeCells_any (P := P) b0 (vals.take (min ys.length len)) off 0 w (fun j hj => by
                  have hj' : j < olds.length := by omega
                  have := hcell j (olds[j]) (by simp [hj'])
                  rw [Nat.add_zero]
                  exact ⟨⟨_, this.1⟩, this.2⟩) (fun u hu => h1 u (List.mem_of_mem_take hu))
                rw [Nat.add_zero] at hS
                have hS' : Stored b0 off (over vals olds) w w' := {
                  os := hS.os, tape := hS.tape, output := hS.output, size := hS.size, frozen := hS.frozen
                  cell := fun j u hj => by
                    have hjl : j < len := by
                      have := (List.getElem?_eq_some_iff.1 hj).1
                      omega
                    simp only [over] at hj
                    by_cases hjk : j < min ys.length len
                    · rw [List.getElem?_append_left (by rw [List.length_take]; omega), List.getElem?_take, if_pos (by omega)] at hj
                      exact hS.cell j u (by rw [List.getElem?_take, if_pos hjk]; exact hj)
                    · rw [List.getElem?_append_right (by rw [List.length_take]; omega), List.length_take, List.getElem?_drop] at hj
                      have e6 : vals.length + (j - min olds.length vals.length) = j := by omega
                      rw [e6] at hj
                      exact (hS.other b0 (off + j) (by omega)).cell (hcell j u hj).1
                  other := fun b' o' hn => hS.other b' o' (by
                    have : (over vals olds).length = len := by omega
                    omega) }
                have h1v : ∀ u ∈ over vals olds, u.oneCell' = true := fun u hu => (List.mem_append.1 hu).elim (fun h => h1 u (List.mem_of_mem_take h)) (fun h => h1o u (List.mem_of_mem_drop h))
                have hres := res_storeC (b := b0) (off := off) hst hp hov h1v (fun j hj => hσc j (by omega)) (fun j hj => by
                  have hj' : j < olds.length := by omega
                  exact (hcell j (olds[j]) (by simp [hj'])).2) hS'
                have hres' : Res H.length H'.length H' (wrote (⟨true, id, len⟩ :: lx)) σ Φ w σ Φ w' := hres.congr fun i => by
                  rw [wrote_one]
                  constructor
                  · intro h5; exact .inl (by omega)
                  · rintro (h5 | h5)
                    · omega
                    · exact absurd h5 (hlx i)
                rcases Nat.eq_zero_or_pos len with h0 | h0
                · subst h0
                  have e7 : w' = w := by
                    rw [Nat.min_zero, List.take_zero] at hrun
                    have hrun : Result.ok () w = Result.ok () w' := hrun
                    injection hrun with _ h9
                    exact h9.symm
                  subst e7
                  exact ⟨_, σ, Φ, w', run_copy_zero hu ht2 ty (by rw [hvl, hsz]; rfl) hread (by simp), .i _ _, hres'⟩
                · have := hp0 h0
                  subst this
                  exact ⟨_, σ, Φ, w', run_copy_some hu ht2 ty (by rw [hvl, hsz]; rfl) hread (by rw [hsz, Nat.mul_one]; exact hrun), .i _ _, hres'⟩
              rcases Nat.eq_zero_or_pos len with h0 | h0
              · exact main 0 0 (fun j hj => by omega) (fun h => by omega)
              · obtain ⟨b0, off, e1, _⟩ := hh 0 (by omega)
                refine main b0 off (fun j hj => ?_) (fun _ => e1)
                obtain ⟨b1, off1, e2, h3⟩ := hh j (by omega)
                rw [e1] at e2
                cases e2
                exact h3
          · cases h
        · cases h
      · cases h
  · cases h

end Go.AE

/- The operations are sound: maps. -/
namespace Go.AE

variable {P : Program} {C : Cfg} {ρ : Type}

theorem run_underlying' {t : Nat} {d : TypeDesc} (h : P.underlying t = some d) (w : World) : (underlying t).run P w = .ok d w := by simp [run_underlying h]

theorem run_checkKey_int {T : Nat} {k : IntKind} (h : P.underlying T = some (.int k)) (b : Bool) (l : IntKind) (n : Int) (w : World) : (Instr.checkKey b 10000 T (.int l n)).run P w = .ok () w := by
  have : ∀ d, (Instr.checkKey b (d + 1) T (.int l n)).run P w = .ok () w := fun d => by
    simp only [Instr.checkKey, Sem.run_bind, run_underlying' h, Result.andThen_ok]
    rfl
  exact this 9999

theorem findNow_hit (k : IntKind) (n : Int) : ∀ {ms : List MapEntry} {j : Nat} {m : MapEntry} (i0 : Nat), ms[j]? = some m → m.key = .int .i64 n → (∀ i, i < j → ∀ m', ms[i]? = some m' → ∃ q, m'.key = .int .i64 q ∧ q ≠ n) →
    Instr.findNow (.int k) (.int .i64 n) ms i0 = some (some (i0 + j, m.val))
  | [], j, m, i0, h, _, _ => by simp at h
  | m0 :: ms, 0, m, i0, h, hk, _ => by
    simp at h
    subst h
    simp [Instr.findNow, hk, Instr.sameNow]
  | m0 :: ms, j + 1, m, i0, h, hk, hlt => by
    obtain ⟨q, h1, h2⟩ := hlt 0 (by omega) m0 rfl
    have e : (n == q) = false := by simp; exact fun e => h2 e.symm
    have := findNow_hit k n (i0 + 1) (ms := ms) (j := j) (m := m) (by simpa using h) hk fun i hi m' hm => hlt (i + 1) (by omega) m' (by simpa using hm)
    simp only [Instr.findNow, h1, Instr.sameNow, if_true, e, this]
    congr 3
    omega

theorem findNow_miss (k : IntKind) (n : Int) : ∀ {ms : List MapEntry} (i0 : Nat), (∀ m ∈ ms, ∃ q, m.key = .int .i64 q ∧ q ≠ n) → Instr.findNow (.int k) (.int .i64 n) ms i0 = some none
  | [], _, _ => rfl
  | m0 :: ms, i0, h => by
    obtain ⟨q, h1, h2⟩ := h m0 (by simp)
    have e : (n == q) = false := by simp; exact fun e => h2 e.symm
    simp only [Instr.findNow, h1, Instr.sameNow, if_true, e]
    exact findNow_miss k n (i0 + 1) fun m hm => h m (List.mem_cons_of_mem _ hm)

theorem run_findKey_of {T : Nat} {k : IntKind} (h : P.underlying T = some (.int k)) {n : Int} {ms : List MapEntry} {r : Option (Nat × Value)} (hf : Instr.findNow (.int k) (.int .i64 n) ms 0 = some r) (w : World) :
    (Instr.findKey T (.int .i64 n) ms).run P w = .ok r w := by
  simp only [Instr.findKey, Sem.run_bind, run_underlying' h, Result.andThen_ok, hf]
  rfl

/-- Where a key stands first. -/
def FirstAt {α : Type} (n : Int) (es : List (Int × α)) (j : Nat) (x : α) : Prop := es[j]? = some (n, x) ∧ ∀ i, i < j → ∀ e, es[i]? = some e → e.1 ≠ n

theorem mapGet_some {n : Int} : ∀ {es : List (Int × List V)} {K : Option (List V) → Option ρ} {r : ρ}, mapGet n es K = some r → (∃ j x, FirstAt n es j x ∧ K (some x) = some r) ∨ ((∀ e ∈ es, e.1 ≠ n) ∧ K none = some r)
  | [], K, r, h => .inr ⟨fun e he => (by cases he), h⟩
  | (k, v) :: es, K, r, h => by
    simp only [mapGet] at h
    rcases brB_some h with ⟨h1, h2⟩ | ⟨h1, h2⟩
    · have h1 := of_decide_eq_true h1
      subst h1
      exact .inl ⟨0, v, ⟨rfl, fun i hi => by omega⟩, h2⟩
    · have h1 := of_decide_eq_false h1
      rcases mapGet_some h2 with ⟨j, x, ⟨h3, h4⟩, h5⟩ | ⟨h3, h4⟩
      · refine .inl ⟨j + 1, x, ⟨by simpa using h3, fun i hi e he => ?_⟩, h5⟩
        cases i with
        | zero => simp at he; subst he; exact fun e => h1 e.symm
        | succ i => exact h4 i (by omega) e (by simpa using he)
      · refine .inr ⟨fun e he => ?_, h4⟩
        rcases List.mem_cons.1 he with rfl | he
        · exact fun e => h1 e.symm
        · exact h3 e he

theorem tmapGet_spec {α : Type} {n : Int} : ∀ (es : List (Int × α)), (∃ j x, FirstAt n es j x ∧ tmapGet n es = some x ∧ ∀ y, tmapSet n y es = es.set j (n, y)) ∨ ((∀ e ∈ es, e.1 ≠ n) ∧ tmapGet n es = none ∧ ∀ y, tmapSet n y es = es ++ [(n, y)])
  | [] => .inr ⟨fun e he => (by cases he), rfl, fun y => rfl⟩
  | (k, v) :: es => by
    by_cases h1 : n = k
    · subst h1
      exact .inl ⟨0, v, ⟨rfl, fun i hi => by omega⟩, by simp [tmapGet], fun y => by simp [tmapSet]⟩
    · rcases tmapGet_spec es with ⟨j, x, ⟨h3, h4⟩, h5, h6⟩ | ⟨h3, h4, h5⟩
      · refine .inl ⟨j + 1, x, ⟨by simpa using h3, fun i hi e he => ?_⟩, by simp [tmapGet, h1, h5], fun y => by simp [tmapSet, h1, h6]⟩
        cases i with
        | zero => simp at he; subst he; exact fun e => h1 e.symm
        | succ i => exact h4 i (by omega) e (by simpa using he)
      · refine .inr ⟨fun e he => ?_, by simp [tmapGet, h1, h4], fun y => by simp [tmapSet, h1, h5]⟩
        rcases List.mem_cons.1 he with rfl | he
        · exact fun e => h1 e.symm
        · exact h3 e he

theorem ent_hit {σ : Sg} {Φ : Im} {w : World} {ag : Bool} {es : List (Int × List V)} {ms : List MapEntry} (h : EntOk σ Φ w ag es ms) {n : Int} {j : Nat} {x : List V} (hf : FirstAt n es j x) (k : IntKind) :
    ∃ m us, ms[j]? = some m ∧ m.key = .int .i64 n ∧ Rs σ Φ w x us ∧ (∀ u ∈ us, u.oneCell' = true) ∧ (ag = true → m.val = .agg us.toArray) ∧ (ag = false → us = [m.val]) ∧ Instr.findNow (.int k) (.int .i64 n) ms 0 = some (some (j, m.val)) := by
  have hj : j < es.length := (List.getElem?_eq_some_iff.1 hf.1).1
  have hj' : j < ms.length := by rw [h.1]; exact hj
  have hm : ms[j]? = some ms[j] := by simp [hj']
  obtain ⟨h1, us, h2, h3, h4, h5⟩ := h.2 j _ _ hf.1 hm
  refine ⟨_, us, hm, h1, h2, h3, h4, h5, ?_⟩
  have := findNow_hit k n 0 hm h1 fun i hi m' hm' => by
    have hi' : i < es.length := by omega
    have he : es[i]? = some es[i] := by simp [hi']
    obtain ⟨h6, _⟩ := h.2 i _ _ he hm'
    exact ⟨_, h6, hf.2 i hi _ he⟩
  simpa using this

theorem ent_miss {σ : Sg} {Φ : Im} {w : World} {ag : Bool} {es : List (Int × List V)} {ms : List MapEntry} (h : EntOk σ Φ w ag es ms) {n : Int} (hf : ∀ e ∈ es, e.1 ≠ n) (k : IntKind) : Instr.findNow (.int k) (.int .i64 n) ms 0 = some none :=
  findNow_miss k n 0 fun m hm => by
    obtain ⟨i, hi⟩ := List.getElem?_of_mem hm
    have hi' : i < es.length := by rw [← h.1]; exact (List.getElem?_eq_some_iff.1 hi).1
    have he : es[i]? = some es[i] := by simp [hi']
    obtain ⟨h6, _⟩ := h.2 i _ _ he hi
    exact ⟨_, h6, hf _ (List.getElem_mem hi')⟩

theorem run_lookup_at {T kt e : Nat} (hu : P.underlying T = some (.map kt e)) {k : IntKind} (hk : P.underlying kt = some (.int k)) {w : World} {b : Nat} {ms : Array MapEntry} {cl : Nat} (hb : w.heap[b]? = some (.map ms cl)) {n : Int} {q : Option (Nat × Value)}
    (hf : Instr.findNow (.int k) (.int .i64 n) ms.toList 0 = some q) (ok : Bool) : (Instr.lookup T (.map (some b)) (.int .i64 n) ok).run P w =
      (match q with
        | some (_, v) => .ok (if ok then .tuple #[v, .bool true] else v) w
        | none => ((zeroValue e).run P w).andThen fun z w => .ok (if ok then .tuple #[z, .bool false] else z) w) := by
  have hg : (getObj b).run P w = .ok (.map ms cl) w := by simp [getObj, Sem.run, hb]
  have hfk := run_findKey_of (P := P) hk hf w
  simp only [Instr.lookup, Sem.run_bind, run_underlying' hu, Result.andThen_ok, hg, Sem.run_pure, run_checkKey_int hk, hfk]
  cases q with
  | some p => rfl
  | none =>
    simp only [Sem.run_bind, Sem.run_pure]
    cases (zeroValue e).run P w <;> rfl

theorem evLookup_sound (hT : TysOk P C) {T : Nat} {m k : V} {ok : Bool} {H : List Ob} {lg : Lg} {K : V → Lg → Option ρ} {r : ρ} (h : evLookup C T m k ok H lg K = some r) :
    ∃ v l, K v (l ++ lg) = some r ∧ (∀ id, ¬ wrote l id) ∧
      ∀ (σ : Sg) (Φ : Im) (w : World) (a b : Value), ObsOk σ Φ w H (touched l) → R σ Φ w m a → R σ Φ w k b → ∃ u, (Instr.lookup T a b ok).run P w = .ok u w ∧ R σ Φ w v u := by
  have pair : ∀ {σ : Sg} {Φ : Im} {w : World} {v : V} {u : Value} (b : Bool), R σ Φ w v u → R σ Φ w (okV v b ok) (if ok then .tuple #[u, .bool b] else u) := by
    intro σ Φ w v u b hh
    cases ok with
    | false => exact hh
    | true =>
      have hrs := Rs.cons hh (Rs.cons (R.b b) Rs.nil)
      exact .tup _ [_, _] hrs.1 hrs.2
  unfold evLookup at h
  split at h
  · rename_i kt e _ _ _ id n hti
    obtain ⟨i, d, z, ht⟩ := ty_at hT hti
    have hd := tdOf_map ht.desc
    subst hd
    split at h
    · rename_i kk _ _ _ ti hkt hte
      obtain ⟨ik, dk, zk, htk⟩ := ty_at hT hkt
      obtain ⟨ie, de, ze, hte⟩ := ty_at hT hte
      have hdk := tdOf_int htk.desc
      subst hdk
      have hzero : ∀ (σ : Sg) (Φ : Im) (w : World) (v : V), mkVal ti.d (ti.zero.map Z.v) = some v → R σ Φ w v ze := fun σ Φ w v hv => by
        obtain ⟨hz, hz1⟩ := zero_cells hte σ Φ w
        obtain ⟨u, hu, ha, hs⟩ := mkVal_sound hv hz hz1
        have hag := hte.ag
        cases hq : AE.isAgg ti.d with
        | true =>
          have e1 := ha hq
          rw [hq] at hag
          cases ze with
          | agg cs =>
            have : u = .agg cs := by rw [e1]; simp [Value.cells]
            rw [this] at hu
            exact hu
          | _ => cases hag
        | false =>
          have e1 := hs hq
          rw [hq] at hag
          cases ze with
          | agg cs => cases hag
          | _ =>
            simp only [Value.cells, List.cons.injEq, and_true] at e1
            rw [e1]
            exact hu
      have hent : ∀ {ag : Bool} {l : List V} {v : V} {us : List Value} {x : Value} {σ : Sg} {Φ : Im} {w : World}, ag = AE.isAgg ti.d → mkVal ti.d l = some v → Rs σ Φ w l us → (∀ u ∈ us, u.oneCell' = true) → (ag = true → x = .agg us.toArray) → (ag = false → us = [x]) → R σ Φ w v x := by
        intro ag l v us x σ Φ w hag hv hr h1 hxa hxs
        obtain ⟨u, hu, ha, hs⟩ := mkVal_sound hv hr h1
        cases ag with
        | true => rw [hxa rfl, ← ha hag.symm]; exact hu
        | false =>
          have e1 := hxs rfl
          have e2 := hs hag.symm
          rw [e1] at e2
          cases e2
          exact hu
      split at h
      · rename_i ag es hob
        split at h
        · cases h
        · rename_i hag
          have hag : ag = AE.isAgg ti.d := Decidable.of_not_not hag
          rcases mapGet_some h with ⟨j, x, hf, h'⟩ | ⟨hf, h'⟩
          · dsimp only [lookFin] at h'
            split at h'
            · rename_i v hv
              refine ⟨_, [⟨false, id, 1⟩], h', fun i => by simp [wrote], fun σ Φ w a b ho ha hb => ?_⟩
              obtain ⟨bb, ms, cl, e1, e2, e3⟩ := ho id (touched_self _ _ _) _ hob
              cases ha with
              | m _ b' e4 =>
                rw [e1] at e4
                cases e4
                cases hb with
                | i =>
                  obtain ⟨m, us, h1, h2, h3, h4, h5, h6, h7⟩ := ent_hit e3 hf kk
                  exact ⟨_, by rw [run_lookup_at ht.und htk.und e2 h7], pair true (hent hag hv h3 h4 h5 h6)⟩
            · cases h'
          · dsimp only [lookFin] at h'
            split at h'
            · rename_i v hv
              refine ⟨_, [⟨false, id, 1⟩], h', fun i => by simp [wrote], fun σ Φ w a b ho ha hb => ?_⟩
              obtain ⟨bb, ms, cl, e1, e2, e3⟩ := ho id (touched_self _ _ _) _ hob
              cases ha with
              | m _ b' e4 =>
                rw [e1] at e4
                cases e4
                cases hb with
                | i => exact ⟨_, by rw [run_lookup_at ht.und htk.und e2 (ent_miss e3 hf kk), run_zero hte]; rfl, pair false (hzero σ Φ w v hv)⟩
            · cases h'
      · rename_i ag t es hob
        split at h
        · rename_i zel hzel
          split at h
          · rename_i hag
            dsimp only [lookFin] at h
            split at h
            · rename_i v hv
              refine ⟨_, [⟨false, id, 1⟩], h, fun i => by simp [wrote], fun σ Φ w a b ho ha hb => ?_⟩
              obtain ⟨bb, ms, cl, e1, e2, e3⟩ := ho id (touched_self _ _ _) _ hob
              cases ha with
              | m _ b' e4 =>
                rw [e1] at e4
                cases e4
                cases hb with
                | i =>
                  rcases tmapGet_spec (n := n) es with ⟨j, x, hf, hg, _⟩ | ⟨hf, hg, _⟩
                  · rw [hg] at hv ⊢
                    have hf' : FirstAt n (es.map fun e => (e.1, cellsOf t e.2)) j (cellsOf t x) := ⟨by rw [List.getElem?_map, hf.1]; rfl, fun i hi e he => by
                      rw [List.getElem?_map] at he
                      cases hq : es[i]? with
                      | none => rw [hq] at he; cases he
                      | some e' => rw [hq] at he; cases he; exact hf.2 i hi e' hq⟩
                    obtain ⟨m, us, h1, h2, h3, h4, h5, h6, h7⟩ := ent_hit e3 hf' kk
                    exact ⟨_, by rw [run_lookup_at ht.und htk.und e2 h7], pair true (hent hag hv h3 h4 h5 h6)⟩
                  · rw [hg] at hv ⊢
                    have hmiss : ∀ e ∈ es.map (fun e => (e.1, cellsOf t e.2)), e.1 ≠ n := fun e he => by
                      obtain ⟨e', h1, rfl⟩ := List.mem_map.1 he
                      exact hf e' h1
                    refine ⟨_, by rw [run_lookup_at ht.und htk.und e2 (ent_miss e3 hmiss kk), run_zero hte]; rfl, pair false ?_⟩
                    · obtain ⟨hz, hz1⟩ := zero_cells hte σ Φ w
                      have hzr := ofCells_R hzel hz
                      refine hent hag hv hzr hz1 (fun e => ?_) fun e => ?_
                      · have h9 := hte.ag
                        rw [← hag, e] at h9
                        cases ze with
                        | agg cs => simp [Value.cells]
                        | _ => cases h9
                      · have h9 := hte.ag
                        rw [← hag, e] at h9
                        cases ze with
                        | agg cs => cases h9
                        | _ => rfl
            · cases h
          · cases h
        · cases h
      · cases h
    · cases h
  · cases h

end Go.AE
