/- The operations are sound: loads, addresses, parts, slices, lengths. -/
import Derived.Test.YthdmhibmokhpgaaGreatAEOps1
set_option linter.unusedVariables false
set_option linter.unusedSimpArgs false
namespace Go.AE

variable {P : Program} {C : Cfg} {ρ : Type}

theorem brB_some {b : Bool} {x y : Unit → Option ρ} {r : ρ} (h : brB b x y = some r) : (b = true ∧ x () = some r) ∨ (b = false ∧ y () = some r) := by
  cases b with
  | true => exact .inl ⟨rfl, h⟩
  | false => exact .inr ⟨rfl, h⟩

theorem brO_some {α : Type} {o : Option α} {k : α → Option ρ} {r : ρ} (h : brO o k = some r) : ∃ a, o = some a ∧ k a = some r := by
  cases o with
  | some a => exact ⟨a, rfl, h⟩
  | none => cases h

theorem brI_some : ∀ {n : Nat} {i : Int} {k : Nat → Option ρ} {r : ρ}, brI n i k = some r → ∃ j, j < n ∧ i = (j : Int) ∧ k j = some r
  | 0, _, _, _, h => by simp [brI] at h
  | n + 1, i, k, r, h => by
    simp only [brI] at h
    rcases brB_some h with ⟨h1, h2⟩ | ⟨_, h2⟩
    · exact ⟨n, by omega, of_decide_eq_true h1, h2⟩
    · obtain ⟨j, h3, h4⟩ := brI_some h2
      exact ⟨j, by omega, h4⟩

theorem tdOf_struct {d : TypeDesc} {fs : List (Nat × Nat)} (h : TD.struct fs = tdOf d) : ∃ fields, d = .struct fields ∧ fs = fields.toList.map fun f => (f.offset, f.type) := by
  cases d <;> simp [tdOf] at h
  exact ⟨_, rfl, h⟩
theorem tdOf_arr {d : TypeDesc} {n e : Nat} (h : TD.arr n e = tdOf d) : d = .array n e := by cases d <;> simp_all [tdOf]
theorem tdOf_slice {d : TypeDesc} {e : Nat} (h : TD.slice e = tdOf d) : d = .slice e := by cases d <;> simp_all [tdOf]
theorem tdOf_str {d : TypeDesc} (h : TD.str = tdOf d) : d = .string := by cases d <;> simp_all [tdOf]
theorem tdOf_bool {d : TypeDesc} (h : TD.bool = tdOf d) : d = .bool := by cases d <;> simp_all [tdOf]
theorem tdOf_func {d : TypeDesc} (h : TD.func = tdOf d) : ∃ a b c, d = .func a b c := by cases d <;> simp_all [tdOf]
theorem tdOf_int {d : TypeDesc} {k : IntKind} (h : TD.int k = tdOf d) : d = .int k := by cases d <;> simp_all [tdOf]
theorem tdOf_map {d : TypeDesc} {k e : Nat} (h : TD.map k e = tdOf d) : d = .map k e := by cases d <;> simp_all [tdOf]

/-- What the table tells of a type of a kind. -/
theorem ty_at (hT : TysOk P C) {T : Nat} {ti : TI} (h : C.ty T = some ti) : ∃ i d z, TyOk P T ti i d z := tiOf_spec (hT T ti h)

theorem elSz_some (hT : TysOk P C) {T n : Nat} (h : elSz C T = some n) : ∃ e, P.underlying T = some (.slice e) ∧ ∃ ti i d z, TyOk P e ti i d z ∧ ti.size = n := by
  unfold elSz at h
  split at h
  · rename_i e _ _ _ h1
    obtain ⟨i, d, z, ht⟩ := ty_at hT h1
    have := tdOf_slice ht.desc
    subst this
    split at h
    · rename_i ti h2
      injection h with h
      obtain ⟨i', d', z', ht'⟩ := ty_at hT h2
      exact ⟨e, ht.und, ti, i', d', z', ht', h⟩
    · cases h
  · cases h

theorem isSl_true (hT : TysOk P C) {T : Nat} (h : isSl C T = true) : ∃ e, P.underlying T = some (.slice e) := by
  unfold isSl at h
  split at h
  · rename_i e _ _ _ h1
    obtain ⟨i, d, z, ht⟩ := ty_at hT h1
    have := tdOf_slice ht.desc
    subst this
    exact ⟨e, ht.und⟩
  · cases h

theorem isStr_true (hT : TysOk P C) {T : Nat} (h : isStr C T = true) : P.underlying T = some .string := by
  unfold isStr at h
  split at h
  · rename_i _ _ _ h1
    obtain ⟨i, d, z, ht⟩ := ty_at hT h1
    have := tdOf_str ht.desc
    subst this
    exact ht.und
  · cases h

/-- A row's elements, as they stand in the world. -/
theorem row_cells {σ : Sg} {Φ : Im} {w : World} {id e : Nat} {t : STy} {xs : List (El t)} {ver : Nat} {mu ap nz : Bool} (h : ObOk σ Φ w id (.row e t xs ver mu ap nz)) :
    ∃ p cap own vals, σ id = .row (.slice p xs.length cap) t.sz ver own ∧ xs.length ≤ cap ∧ Rs σ Φ w (flat t xs) vals ∧ (∀ u ∈ vals, u.oneCell' = true) ∧ (nz = true → xs ≠ []) ∧
      ∀ (j : Nat) (u : Value), vals[j]? = some u → ∃ a, p = some a ∧ a.spot = Option.none ∧ w.cell? ⟨a.block, a.off + j, Option.none⟩ = some u := by
  obtain ⟨v, own, h1, h2, h3, h4, h5⟩ := h
  cases own with
  | true =>
    obtain ⟨vals, ⟨ho1, ho2⟩, hr, h1c⟩ := h4 rfl
    rcases ho2 with ⟨p, rfl, hn⟩ | ⟨g, cap, cur, rfl, hc, hg, hle, hm, hs, ht⟩
    · have hx : xs = [] := List.eq_nil_of_length_eq_zero hn
      subst hx
      exact ⟨p, 0, true, vals, h1, Nat.le_refl _, hr, h1c, h2, fun j u hj => by
        have : vals = [] := List.eq_nil_of_length_eq_zero (by simpa using ho1)
        subst this
        simp at hj⟩
    · refine ⟨some ⟨g, 0, Option.none⟩, cap, true, vals, h1, hle, hr, h1c, h2, fun j u hj => ⟨⟨g, 0, Option.none⟩, rfl, rfl, ?_⟩⟩
      have hjl : j < xs.length * t.sz := by rw [← ho1]; exact (List.getElem?_eq_some_iff.1 hj).1
      rw [← ht, List.getElem?_take, if_pos hjl] at hj
      simp only [World.cell?, hg, Nat.zero_add]
      simpa using hj
  | false =>
    have hr := h5 rfl
    cases hr with
    | sl _ _ _ p cap vals hl hr hn he hw =>
      refine ⟨p, cap, false, vals, h1, hn, ⟨hl, hr⟩, fun u hu => ?_, h2, fun j u hj => ?_⟩
      · obtain ⟨j, hj⟩ := List.getElem?_of_mem hu
        obtain ⟨_, _, _, _, _, h⟩ := hw j u hj
        exact h
      · obtain ⟨a, h0, h1, _, h3, _⟩ := hw j u hj
        exact ⟨a, h0, h1, h3⟩

/-- An element's cells among all cells. -/
theorem flat_el {t : STy} {xs : List (El t)} {k : Nat} {y : El t} (h : xs[k]? = some y) {j : Nat} (hj : j < t.sz) : (flat t xs)[k * t.sz + j]? = (cellsOf t y)[j]? := by
  induction xs generalizing k with
  | nil => simp at h
  | cons x xs ih =>
    have e : flat t (x :: xs) = cellsOf t x ++ flat t xs := rfl
    cases k with
    | zero =>
      simp at h
      subst h
      rw [e, Nat.zero_mul, Nat.zero_add, List.getElem?_append_left (by rw [cellsOf_length]; exact hj)]
    | succ k =>
      simp at h
      rw [e, List.getElem?_append_right (by rw [cellsOf_length, Nat.succ_mul]; omega), cellsOf_length, ← ih h]
      congr 1
      rw [Nat.succ_mul]
      omega

/-- The cells of one element. -/
theorem el_cells {σ : Sg} {Φ : Im} {w : World} {t : STy} {xs : List (El t)} {vals : List Value} (hr : Rs σ Φ w (flat t xs) vals) {k : Nat} {y : El t} (h : xs[k]? = some y) :
    Rs σ Φ w (cellsOf t y) ((vals.drop (k * t.sz)).take t.sz) := by
  have hk : k < xs.length := (List.getElem?_eq_some_iff.1 h).1
  have hl := hr.1
  rw [flat_length] at hl
  have hlt : (k + 1) * t.sz ≤ xs.length * t.sz := Nat.mul_le_mul_right _ hk
  rw [Nat.add_mul, Nat.one_mul] at hlt
  refine ⟨by simp [cellsOf_length]; omega, fun j v u h1 h2 => ?_⟩
  rw [List.getElem?_take] at h2
  split at h2
  · rename_i hj
    rw [List.getElem?_drop] at h2
    exact hr.2 _ v u ((flat_el h hj).trans h1) h2
  · cases h2

theorem loadAt_run {T : Nat} {x : Addr} (w : World) : (Instr.loadAt T (.pointer (some x))).run P w = (loadVar T x).run P w := by
  simp [Instr.loadAt, Instr.sureAddr]

theorem evLoad_sound (hT : TysOk P C) {T : Nat} {a : V} {H : List Ob} {lg : Lg} {K : V → Lg → Option ρ} {r : ρ} (h : evLoad C T a H lg K = some r) :
    ∃ v l, K v (l ++ lg) = some r ∧ (∀ id, ¬ wrote l id) ∧
      ∀ (σ : Sg) (Φ : Im) (w : World) (x : Value), ObsOk σ Φ w H (touched l) → R σ Φ w a x → ∃ u, (Instr.loadAt T x).run P w = .ok u w ∧ R σ Φ w v u := by
  unfold evLoad at h
  split at h
  · rename_i ti hti
    obtain ⟨i, d, z, ht⟩ := ty_at hT hti
    split at h
    · rename_i id k
      split at h
      · cases h
      · rename_i hk
        split at h
        · rename_i l hl
          split at h
          · rename_i v hv
            refine ⟨v, [⟨false, id, ti.size⟩], h, fun i => by simp [wrote], fun σ Φ w x ho hx => ?_⟩
            cases hx with
            | p id n b off hb =>
              obtain ⟨us, h1, h2, h3, h4, h5⟩ := loadC_sound hl (fun i hi => ho i (touched_cons.2 (.inl hi))) fun j hj => hb j (by omega)
              obtain ⟨u, hu, ha, hs⟩ := mkVal_sound hv h1 h3
              exact ⟨u, by rw [loadAt_run]; exact run_loadVar ht h2 (fun j y hj => (h5 j y hj).1) ha hs, hu⟩
          · cases h
        · cases h
    · rename_i t y off
      split at h
      · rename_i v hv
        refine ⟨v, [], h, fun i => by simp [wrote], fun σ Φ w x ho hx => ?_⟩
        cases hx with
        | px _ _ _ b o vals hl hr hw =>
          unfold part at hv
          split at hv
          · rename_i hle
            have hrs : Rs σ Φ w (cellsOf t y) vals := ⟨hl, hr⟩
            have h1c : ∀ u ∈ (vals.drop off).take ti.size, u.oneCell' = true := fun u hu => by
              obtain ⟨j, hj⟩ := List.getElem?_of_mem (List.mem_of_mem_drop (List.mem_of_mem_take hu))
              exact (hw j u hj).2.2
            obtain ⟨u, hu, ha, hs⟩ := mkVal_sound hv ((hrs.drop off).take ti.size) h1c
            refine ⟨u, ?_, hu⟩
            rw [loadAt_run]
            refine run_loadVar ht (by simp; omega) (fun j x hj => ?_) ha hs
            rw [List.getElem?_take] at hj
            split at hj
            · rw [List.getElem?_drop] at hj
              have := (hw _ x hj).2.1
              rwa [← Nat.add_assoc] at this
            · cases hj
          · cases hv
      · cases h
    · rename_i id ver j off
      split at h
      · rename_i e t xs v mu ap nz hob
        split at h
        · rename_i hver
          subst hver
          obtain ⟨y, hy, h⟩ := brO_some h
          split at h
          · rename_i v hv
            refine ⟨v, [⟨false, id, 1⟩], h, fun i => by simp [wrote], fun σ Φ w x ho hx => ?_⟩
            obtain ⟨p, cap, own, vals, h1, h2, hrs, h1c, _, hc⟩ := row_cells (ho id (touched_self _ _ _) _ hob)
            cases hx with
            | pr _ _ _ _ a hh =>
              obtain ⟨v', sz, ver', own', e1, _, e2⟩ := hh
              rw [h1] at e1
              injection e1 with e3 e4 e5 e6
              subst e3; subst e4; subst e5
              obtain ⟨a0, n, cap', e7, hix, rfl⟩ := e2 rfl
              injection e7 with e8 e9 e10
              subst e8
              have hel := el_cells hrs hy
              unfold part at hv
              split at hv
              · rename_i hle
                rw [cellsOf_length] at hle
                obtain ⟨u, hu, ha, hs⟩ := mkVal_sound hv ((hel.drop off).take ti.size) fun u hu => h1c u (List.mem_of_mem_drop (List.mem_of_mem_take (List.mem_of_mem_drop (List.mem_of_mem_take hu))))
                refine ⟨u, ?_, hu⟩
                rw [loadAt_run]
                have hlen := hel.1
                rw [cellsOf_length] at hlen
                refine run_loadVar ht (by rw [List.length_take, List.length_drop, hlen]; omega) (fun k x hk => ?_) ha hs
                rw [List.getElem?_take] at hk
                split at hk
                · rw [List.getElem?_drop, List.getElem?_take] at hk
                  split at hk
                  · rw [List.getElem?_drop] at hk
                    obtain ⟨a, e8, _, hcell⟩ := hc _ x hk
                    cases e8
                    rw [← hcell]
                    congr 2
                    omega
                  · cases hk
                · cases hk
              · cases hv
          · cases h
        · cases h
      · cases h
    · cases h
  · cases h

theorem evFieldAddr_sound (hT : TysOk P C) {T : Nat} {a v : V} {fd : Nat} (h : evFieldAddr C T a fd = some v) (σ : Sg) (Φ : Im) (w : World) (x : Value) (hx : R σ Φ w a x) :
    ∃ u, (Instr.fieldAt T x fd).run P w = .ok u w ∧ R σ Φ w v u := by
  unfold evFieldAddr at h
  split at h
  · rename_i fs _ _ _ hti
    obtain ⟨i, d, z, ht⟩ := ty_at hT hti
    obtain ⟨fields, rfl, hfs⟩ := tdOf_struct ht.desc
    split at h
    · rename_i off t hfd
      split at h
      · rename_i ti hti2
        obtain ⟨i2, d2, z2, ht2⟩ := ty_at hT hti2
        split at h
        · cases h
        · rename_i hsz
          have hf : ∃ f, fields[fd]? = some f ∧ f.offset = off ∧ f.type = t := by
            rw [hfs, List.getElem?_map] at hfd
            cases hq : fields.toList[fd]? with
            | none => rw [hq] at hfd; cases hfd
            | some f =>
              rw [hq] at hfd
              simp at hfd
              exact ⟨f, by simpa using hq, hfd.1, hfd.2⟩
          obtain ⟨f, hf, rfl, rfl⟩ := hf
          have hrun : ∀ a : Addr, (Instr.fieldAt T (.pointer (some a)) fd).run P w = .ok (.pointer (some (a.add f.offset))) w := fun a => by
            simp [Instr.fieldAt, run_underlying ht.und, hf, Instr.sureAddr, fieldPlace, run_size ht2, hsz]
          split at h
          · rename_i id k
            injection h with h
            subst h
            cases hx with
            | p _ _ b off hb =>
              refine ⟨_, hrun _, ?_⟩
              rw [add_mk]
              exact .p _ _ b _ fun j hj => by
                have := hb (f.offset + j) (by omega)
                rwa [← Nat.add_assoc, ← Nat.add_assoc] at this
          · rename_i t y o
            injection h with h
            subst h
            cases hx with
            | px _ _ _ b o' vals hl hr hw =>
              refine ⟨_, hrun _, ?_⟩
              rw [add_mk, Nat.add_assoc]
              exact .px _ _ _ b o' vals hl hr hw
          · rename_i id ver j o
            injection h with h
            subst h
            cases hx with
            | pr _ _ _ _ a hh =>
              refine ⟨_, hrun _, ?_⟩
              obtain ⟨v', sz, ver', own', e1, e0, e2⟩ := hh
              exact .pr _ _ _ _ _ ⟨v', sz, ver', own', e1, e0, fun e => by
                obtain ⟨a0, n, cap', e7, hix, rfl⟩ := e2 e
                refine ⟨a0, n, cap', e7, hix, ?_⟩
                rw [add_mk]
                congr 1
                omega⟩
          · cases h
      · cases h
    · cases h
  · cases h

theorem evField_sound (hT : TysOk P C) {T : Nat} {a v : V} {fd : Nat} (h : evField C T a fd = some v) (σ : Sg) (Φ : Im) (w : World) (x : Value) (hx : R σ Φ w a x) :
    ∃ u, (Instr.field T x fd).run P w = .ok u w ∧ R σ Φ w v u := by
  unfold evField at h
  split at h
  · rename_i fs _ _ _ cs hti
    obtain ⟨i, d, z, ht⟩ := ty_at hT hti
    obtain ⟨fields, rfl, hfs⟩ := tdOf_struct ht.desc
    split at h
    · rename_i off t hfd
      split at h
      · rename_i ti hti2
        obtain ⟨i2, d2, z2, ht2⟩ := ty_at hT hti2
        have hf : ∃ f, fields[fd]? = some f ∧ f.offset = off ∧ f.type = t := by
          rw [hfs, List.getElem?_map] at hfd
          cases hq : fields.toList[fd]? with
          | none => rw [hq] at hfd; cases hfd
          | some f =>
            rw [hq] at hfd
            simp at hfd
            exact ⟨f, by simpa using hq, hfd.1, hfd.2⟩
        obtain ⟨f, hf, rfl, rfl⟩ := hf
        cases hx with
        | agg _ us hl hr h1 =>
          obtain ⟨u, h2, h3⟩ := part_sound ht2 h ⟨hl, hr⟩ h1 (P := P)
          exact ⟨u, by simp [Instr.field, run_underlying ht.und, hf, asAgg, h2], h3⟩
      · cases h
    · cases h
  · cases h

theorem run_asIntOf (k : IntKind) (n : Int) (w : World) : (asIntOf (.int k n)).run P w = .ok (k, n) w := by simp [asIntOf]

theorem evIndex_sound (hT : TysOk P C) {T : Nat} {x ix : V} {K : V → Option ρ} {r : ρ} (h : evIndex C T x ix K = some r) :
    ∃ v, K v = some r ∧ ∀ (σ : Sg) (Φ : Im) (w : World) (a b : Value), R σ Φ w x a → R σ Φ w ix b → ∃ u, (Instr.index T a b).run P w = .ok u w ∧ R σ Φ w v u := by
  unfold evIndex at h
  split at h
  · rename_i n e _ _ _ cs k i hti
    obtain ⟨ii, d, z, ht⟩ := ty_at hT hti
    have hd := tdOf_arr ht.desc
    subst hd
    split at h
    · rename_i ti hti2
      obtain ⟨i2, d2, z2, ht2⟩ := ty_at hT hti2
      obtain ⟨j, hj, rfl, h'⟩ := brI_some h
      clear h
      split at h'
      · rename_i v hv
        refine ⟨v, h', fun σ Φ w a b ha hb => ?_⟩
        cases ha with
        | agg _ us hl hr h1 =>
          cases hb with
          | i _ _ =>
            obtain ⟨u, h2, h3⟩ := part_sound ht2 hv ⟨hl, hr⟩ h1 (P := P)
            refine ⟨u, ?_, h3⟩
            have hj' : (j : Int) < (n : Int) := by omega
            simp [Instr.index, run_asIntOf, run_underlying ht.und, hj', run_size ht2, h2]
      · cases h'
    · cases h
  · rename_i _ _ _ bs k i hti
    obtain ⟨ii, d, z, ht⟩ := ty_at hT hti
    have hd := tdOf_str ht.desc
    subst hd
    obtain ⟨c, hc, h⟩ := brO_some h
    refine ⟨_, h, fun σ Φ w a b ha hb => ?_⟩
    cases ha with
    | s _ =>
      cases hb with
      | i _ _ =>
        refine ⟨_, ?_, .i .u8 _⟩
        unfold idx at hc
        split at hc
        · rename_i h0
          have hg : (⟨bs.toArray⟩ : ByteArray)[i.toNat]? = some c := by
            have hlt := (List.getElem?_eq_some_iff.1 hc).1
            have hv := (List.getElem?_eq_some_iff.1 hc).2
            have hs : (⟨bs.toArray⟩ : ByteArray).size = bs.length := rfl
            rw [getElem?_pos _ _ (by rw [hs]; exact hlt)]
            congr 1
          simp [Instr.index, run_asIntOf, run_underlying ht.und, h0, hg]
        · cases hc
  · cases h

end Go.AE

/- The operations are sound: addresses of elements, slices, lengths, what is appended or copied. -/
namespace Go.AE

variable {P : Program} {C : Cfg} {ρ : Type}

theorem add_spot {a : Addr} (h : a.spot = Option.none) (n : Nat) : a.add n = ⟨a.block, a.off + n, Option.none⟩ := by
  cases a
  simp only at h
  subst h
  exact add_mk _ _ _

theorem run_indexAt_arr {T n e : Nat} (hu : P.underlying T = some (.array n e)) {sz : Nat} (hs : ∀ w, (sizeOf e).run P w = .ok sz w) (a : Addr) (k : IntKind) (j : Nat) (hj : j < n) (w : World) :
    (Instr.indexAt T (.pointer (some a)) (.int k (j : Int))).run P w = .ok (.pointer (some (a.add (j * sz)))) w := by
  have hj' : (j : Int) < (n : Int) := by omega
  simp [Instr.indexAt, run_asIntOf, run_underlying hu, Instr.sureAddr, hj', hs]

theorem run_indexAt_slice {T e : Nat} (hu : P.underlying T = some (.slice e)) {sz : Nat} (hs : ∀ w, (sizeOf e).run P w = .ok sz w) (a : Addr) (len cap : Nat) (k : IntKind) (i : Int) (h0 : 0 ≤ i) (h1 : i < len) (w : World) :
    (Instr.indexAt T (.slice (some a) len cap) (.int k i)).run P w = .ok (.pointer (some (a.add (i.toNat * sz)))) w := by
  simp [Instr.indexAt, run_asIntOf, run_underlying hu, h0, h1, hs]

theorem idx_some {α : Type} {xs : List α} {i : Int} {y : α} (h : idx xs i = some y) : 0 ≤ i ∧ xs[i.toNat]? = some y ∧ i < xs.length := by
  unfold idx at h
  split at h
  · rename_i h0
    have := (List.getElem?_eq_some_iff.1 h).1
    exact ⟨h0, h, by omega⟩
  · cases h

theorem evIndexAddr_sound (hT : TysOk P C) {T : Nat} {x ix : V} {H : List Ob} {lg : Lg} {K : V → Lg → Option ρ} {r : ρ} (h : evIndexAddr C T x ix H lg K = some r) :
    ∃ v l, K v (l ++ lg) = some r ∧ (∀ id, ¬ wrote l id) ∧
      ∀ (σ : Sg) (Φ : Im) (w : World) (a b : Value), ObsOk σ Φ w H (touched l) → R σ Φ w x a → R σ Φ w ix b → ∃ u, (Instr.indexAt T a b).run P w = .ok u w ∧ R σ Φ w v u := by
  unfold evIndexAddr at h
  split at h
  · rename_i k i
    split at h
    · rename_i n e _ _ _ hti
      obtain ⟨ii, d, z, ht⟩ := ty_at hT hti
      have hd := tdOf_arr ht.desc
      subst hd
      split at h
      · rename_i ti hti2
        obtain ⟨i2, d2, z2, ht2⟩ := ty_at hT hti2
        split at h
        · rename_i id m
          obtain ⟨j, hj, rfl, h'⟩ := brI_some h
          refine ⟨_, [], h', fun i => by simp [wrote], fun σ Φ w a b _ ha hb => ?_⟩
          cases ha with
          | p _ _ b off hh =>
            cases hb with
            | i _ _ =>
              refine ⟨_, run_indexAt_arr ht.und (run_size ht2) _ _ j hj w, ?_⟩
              rw [add_mk]
              exact .p _ _ _ _ fun q hq => by
                have := hh (j * ti.size + q) (by omega)
                rwa [← Nat.add_assoc, ← Nat.add_assoc] at this
        · rename_i t y off
          obtain ⟨j, hj, rfl, h'⟩ := brI_some h
          refine ⟨_, [], h', fun i => by simp [wrote], fun σ Φ w a b _ ha hb => ?_⟩
          cases ha with
          | px _ _ _ b o vals hl hr hw =>
            cases hb with
            | i _ _ =>
              refine ⟨_, run_indexAt_arr ht.und (run_size ht2) _ _ j hj w, ?_⟩
              rw [add_mk, Nat.add_assoc]
              exact .px _ _ _ b o vals hl hr hw
        · rename_i id ver q off
          obtain ⟨j, hj, rfl, h'⟩ := brI_some h
          refine ⟨_, [], h', fun i => by simp [wrote], fun σ Φ w a b _ ha hb => ?_⟩
          cases ha with
          | pr _ _ _ _ a hh =>
            cases hb with
            | i _ _ =>
              refine ⟨_, run_indexAt_arr ht.und (run_size ht2) _ _ j hj w, ?_⟩
              obtain ⟨v', sz, ver', own', e1, e0, e2⟩ := hh
              exact .pr _ _ _ _ _ ⟨v', sz, ver', own', e1, e0, fun e => by
                obtain ⟨a0, n, cap', e7, hix, rfl⟩ := e2 e
                refine ⟨a0, n, cap', e7, hix, ?_⟩
                rw [add_mk]
                congr 1
                omega⟩
        · cases h
      · cases h
    · rename_i e0 _ _ _ hti
      split at h
      · rename_i t xs ex
        split at h
        · rename_i hsz
          obtain ⟨e, hu, ti, i2, d2, z2, ht2, hs⟩ := elSz_some hT hsz
          obtain ⟨y, hy, h'⟩ := brO_some h
          obtain ⟨h0, hy', hlt⟩ := idx_some hy
          refine ⟨_, [], h', fun i => by simp [wrote], fun σ Φ w a b _ ha hb => ?_⟩
          cases ha with
          | sl _ _ _ p cap vals hl hr hn he hw =>
            cases hb with
            | i _ _ =>
              have hel := el_cells ⟨hl, hr⟩ hy'
              have hlen := hel.1
              rw [cellsOf_length] at hlen
              have hpos := sz_pos t
              have hx := List.getElem?_eq_getElem (show 0 < ((vals.drop (i.toNat * t.sz)).take t.sz).length by omega)
              have hx0 := hx
              rw [List.getElem?_take, if_pos hpos, List.getElem?_drop] at hx0
              obtain ⟨ad, rfl, hsp, _⟩ := hw _ _ hx0
              refine ⟨_, run_indexAt_slice hu (fun w => by rw [run_size ht2, hs]) ad _ _ _ i h0 hlt w, ?_⟩
              rw [add_spot hsp]
              refine R.px t y 0 ad.block (ad.off + i.toNat * t.sz) ((vals.drop (i.toNat * t.sz)).take t.sz) hel.1 hel.2 fun j u hj => ?_
              rw [List.getElem?_take] at hj
              split at hj
              · rw [List.getElem?_drop] at hj
                obtain ⟨a', e1, _, h3, h4, h5⟩ := hw _ u hj
                cases e1
                rw [Nat.add_assoc]
                exact ⟨h3, h4, h5⟩
              · cases hj
        · cases h
      · rename_i id ver
        split at h
        · rename_i e t xs v mu ap nz hob
          split at h
          · rename_i hc
            obtain ⟨rfl, hsz⟩ := hc
            obtain ⟨e, hu, ti, i2, d2, z2, ht2, hs⟩ := elSz_some hT hsz
            rcases brB_some h with ⟨hb, h'⟩ | ⟨_, h'⟩
            · rw [Bool.and_eq_true, decide_eq_true_eq, decide_eq_true_eq] at hb
              obtain ⟨h0, hlt⟩ := hb
              refine ⟨_, [⟨false, id, 1⟩], h', fun i => by simp [wrote], fun σ Φ w a b ho ha hb => ?_⟩
              obtain ⟨p, cap, own, vals, h1, h2, hrs, h1c, _, hcell⟩ := row_cells (ho id (touched_self _ _ _) _ hob)
              cases ha with
              | o _ _ p' n' cap' hh =>
                cases hb with
                | i _ _ =>
                  obtain ⟨v', sz, ver', own', e1, _, e2⟩ := hh
                  rw [h1] at e1
                  injection e1 with e3 e4 e5 e6
                  subst e3; subst e4; subst e5
                  have e7 := e2 rfl
                  injection e7 with e8 e9 e10
                  subst e8; subst e9; subst e10
                  have hpos := sz_pos t
                  have hvl := hrs.1
                  rw [flat_length] at hvl
                  have hv0 : 0 < vals.length := by rw [hvl]; exact Nat.mul_pos (by omega) hpos
                  obtain ⟨ad, rfl, hsp, _⟩ := hcell 0 (vals[0]) (by simp [hv0])
                  refine ⟨_, run_indexAt_slice hu (fun w => by rw [run_size ht2, hs]) ad _ _ _ i h0 hlt w, ?_⟩
                  rw [add_spot hsp]
                  exact .pr _ _ _ _ _ ⟨_, _, _, _, h1, Nat.le_refl _, fun _ => ⟨ad, _, _, rfl, by omega, rfl⟩⟩
            · cases h'
          · cases h
        · cases h
      · rename_i id ver off len
        split at h
        · rename_i e t xs v mu ap nz hob
          split at h
          · rename_i hc
            obtain ⟨rfl, hsz⟩ := hc
            obtain ⟨e, hu, ti, i2, d2, z2, ht2, hs⟩ := elSz_some hT hsz
            rcases brB_some h with ⟨hb, h'⟩ | ⟨_, h'⟩
            · rw [Bool.and_eq_true, decide_eq_true_eq, decide_eq_true_eq] at hb
              obtain ⟨h0, hlt⟩ := hb
              refine ⟨_, [⟨false, id, 1⟩], h', fun i => by simp [wrote], fun σ Φ w a b ho ha hb => ?_⟩
              obtain ⟨p, cap, own, vals, h1, h2, hrs, h1c, _, hcell⟩ := row_cells (ho id (touched_self _ _ _) _ hob)
              cases ha with
              | ov _ _ _ _ p' cap' _ hh =>
                cases hb with
                | i _ _ =>
                  obtain ⟨v', sz, ver', own', e1, _, e2⟩ := hh
                  rw [h1] at e1
                  injection e1 with e3 e4 e5 e6
                  subst e3; subst e4; subst e5
                  obtain ⟨p2, n2, cap2, e7, hle, hpp⟩ := e2 rfl
                  injection e7 with e8 e9 e10
                  subst e8; subst e9; subst e10
                  obtain ⟨ad, rfl, rfl⟩ := hpp (by omega)
                  refine ⟨_, run_indexAt_slice hu (fun w => by rw [run_size ht2, hs]) _ _ _ _ i h0 hlt w, ?_⟩
                  rw [add_mk]
                  exact .pr _ _ _ _ _ ⟨_, _, _, _, h1, Nat.le_refl _, fun _ => ⟨ad, _, _, rfl, by omega, by
                    congr 1
                    rw [Nat.add_mul]
                    omega⟩⟩
            · cases h'
          · cases h
        · cases h
      · rename_i id len esz
        split at h
        · cases h
        rename_i hez
        split at h
        · rename_i hsz
          obtain ⟨e, hu, ti, i2, d2, z2, ht2, hs⟩ := elSz_some hT hsz
          obtain ⟨j, hj, rfl, h'⟩ := brI_some h
          refine ⟨_, [], h', fun i => by simp [wrote], fun σ Φ w a b ho ha hb => ?_⟩
          cases ha with
          | cs _ _ _ p cap _ hh =>
            cases hb with
            | i _ _ =>
              have hmul : j * esz + esz ≤ len * esz := by rw [← Nat.succ_mul]; exact Nat.mul_le_mul_right _ hj
              obtain ⟨b0, off, rfl, _⟩ := hh 0 (by omega)
              refine ⟨_, run_indexAt_slice hu (fun w => by rw [run_size ht2, hs]) _ _ _ _ (j : Int) (by omega) (by omega) w, ?_⟩
              rw [add_mk, Int.toNat_natCast]
              exact .p _ _ _ _ fun q hq => by
                obtain ⟨b1, off1, e1, h2⟩ := hh (j * esz + q) (by omega)
                injection e1 with e1
                injection e1 with e2 e3
                subst e2; subst e3
                rwa [← Nat.add_assoc, ← Nat.add_assoc] at h2
        · cases h
      · cases h
    · cases h
  · cases h

end Go.AE
