/- Comparisons of structs and arrays, cell by cell. -/
import Derived.Test.YthdmhibmokhpgaaGreatAESpec7
import Derived.Laws.StructEq
import Derived.ChangeKeysEq
set_option linter.unusedVariables false
set_option linter.unusedSimpArgs false
namespace Go.AE

variable {P : Program}

def repL {α : Type} (n : Nat) (l : List α) : List α := match n with
  | 0 => []
  | n + 1 => l ++ repL n l

def eqFs (E : Nat → Option (List Z)) (ti : Nat → Option TI) : List Field → Nat → Option (List Z)
  | [], _ => some []
  | f :: r, off => if f.name ≠ "_" ∧ f.offset = off then match E f.type, ti f.type with
      | some zs, some t => if t.size = zs.length then match eqFs E ti r (off + zs.length) with
          | some l => some (zs ++ l)
          | none => none
        else none
      | _, _ => none
    else none

/-- The kinds of the cells of a type whose values are compared cell by cell. -/
def eqT (P : Program) : Nat → Nat → Option (List Z)
  | 0, _ => none
  | d + 1, T => match P.underlying T with
    | some (.int k) => some [.i k]
    | some .bool => some [.b]
    | some .string => some [.s]
    | some (.array n e) => match eqT P d e, tiOf P e with
      | some zs, some te => if te.size = zs.length then some (repL n zs) else none
      | _, _ => none
    | some (.struct fs) => if P.stoodInHeld T then none else eqFs (eqT P d) (tiOf P) fs.toList 0
    | _ => none

def ValIs (ti : TI) (us : List Value) (x : Value) : Prop := (AE.isAgg ti.d = true → x = .agg us.toArray) ∧ (AE.isAgg ti.d = false → us = [x])

theorem part_run {T : Nat} {ti : TI} (h : tiOf P T = some ti) {us : List Value} {off : Nat} (hle : off + ti.size ≤ us.length) (h1 : AE.isAgg ti.d = false → ti.size = 1) (w : World) :
    ∃ x, (Go.part T us.toArray off).run P w = .ok x w ∧ ValIs ti ((us.drop off).take ti.size) x := by
  obtain ⟨i, d, z, ht⟩ := tiOf_spec h
  simp only [Go.part, Sem.run_bind, run_isAgg ht, Result.andThen_ok]
  cases hd : AE.isAgg ti.d with
  | true =>
    refine ⟨.agg ((us.drop off).take ti.size).toArray, ?_, fun _ => rfl, fun e => by rw [hd] at e; cases e⟩
    simp only [if_true, Sem.run_bind, run_size ht, Result.andThen_ok, Sem.run_pure]
    congr 2
    apply Array.ext'
    simp [List.extract_eq_take_drop]
  | false =>
    have e1 := h1 hd
    rw [e1] at hle ⊢
    have hlt : off < us.length := by omega
    refine ⟨us[off], by simp [hlt], fun e => absurd (hd.symm.trans e) (by simp), fun _ => ?_⟩
    have : us.drop off = us[off] :: us.drop (off + 1) := List.drop_eq_getElem_cons hlt
    rw [this]
    rfl

theorem fitZ_length : ∀ {a : List V} {zs : List Z}, fitZ a zs = true → a.length = zs.length
  | [], [], _ => rfl
  | v :: a, z :: zs, h => by
    simp only [fitZ, Bool.and_eq_true] at h
    simp [fitZ_length h.2]
  | [], _ :: _, h => by simp [fitZ] at h
  | _ :: _, [], h => by simp [fitZ] at h

theorem fitZ_append : ∀ {a : List V} {x y : List Z}, fitZ a (x ++ y) = true → fitZ (a.take x.length) x = true ∧ fitZ (a.drop x.length) y = true
  | a, [], y, h => by simpa [fitZ] using h
  | v :: a, z :: x, y, h => by
    simp only [List.cons_append, fitZ, Bool.and_eq_true] at h
    obtain ⟨h1, h2⟩ := fitZ_append h.2
    simp only [List.length_cons, List.take_succ_cons, List.drop_succ_cons, fitZ, Bool.and_eq_true]
    exact ⟨⟨h.1, h1⟩, h2⟩
  | [], _ :: _, _, h => by simp [fitZ] at h

theorem eqCells_append : ∀ {a b : List V} {c : Bool}, eqCells a b = some c → ∀ n, ∃ c1 c2, eqCells (a.take n) (b.take n) = some c1 ∧ eqCells (a.drop n) (b.drop n) = some c2 ∧ c = (c1 && c2)
  | a, b, c, h, 0 => ⟨true, c, rfl, by simpa using h, by simp⟩
  | [], [], c, h, n + 1 => by
    simp only [eqCells, Option.some.injEq] at h
    exact ⟨true, true, rfl, rfl, h.symm⟩
  | x :: a, y :: b, c, h, n + 1 => by
    unfold eqCells at h
    split at h
    · rename_i e1 _
      cases e1
    · rename_i k p r l q s e1 e2
      cases e1; cases e2
      split at h
      · rename_i hk
        subst hk
        split at h
        · rename_i c' hc
          cases h
          obtain ⟨c1, c2, h1, h2, h3⟩ := eqCells_append hc n
          exact ⟨(p == q && c1), c2, by simp [eqCells, h1], h2, by rw [h3, Bool.and_assoc]⟩
        · cases h
      · cases h
    · rename_i p r q s e1 e2
      cases e1; cases e2
      split at h
      · rename_i c' hc
        cases h
        obtain ⟨c1, c2, h1, h2, h3⟩ := eqCells_append hc n
        exact ⟨(p == q && c1), c2, by simp [eqCells, h1], h2, by rw [h3, Bool.and_assoc]⟩
      · cases h
    · rename_i p r q s e1 e2
      cases e1; cases e2
      split at h
      · rename_i c' hc
        cases h
        obtain ⟨c1, c2, h1, h2, h3⟩ := eqCells_append hc n
        exact ⟨(p == q && c1), c2, by simp [eqCells, h1], h2, by rw [h3, Bool.and_assoc]⟩
      · cases h
    · cases h
  | [], _ :: _, _, h, _ + 1 => by simp [eqCells] at h
  | _ :: _, [], _, h, _ + 1 => by simp [eqCells] at h

/-- What is to be shown of a type. -/
def EqAt (P : Program) (D T : Nat) (zs : List Z) : Prop := ∀ ti, tiOf P T = some ti → ti.size = zs.length → ∀ (σ : Sg) (Φ : Im) (w : World) (a b : List V) (c : Bool) (us vs : List Value) (x y : Value), fitZ a zs = true → fitZ b zs = true → eqCells a b = some c →
  Rs σ Φ w a us → Rs σ Φ w b vs → ValIs ti us x → ValIs ti vs y → (Op.equalIn D T x y).run P w = .ok c w

theorem leaf_size {T : Nat} {ti : TI} (h : tiOf P T = some ti) {zs : List Z} (hs : ti.size = zs.length) (h1 : AE.isAgg ti.d = false → zs.length = 1) : AE.isAgg ti.d = false → ti.size = 1 := fun e => hs.trans (h1 e)

theorem eqT_one {d T : Nat} {zs : List Z} (h : eqT P d T = some zs) {ti : TI} (hti : tiOf P T = some ti) (ha : AE.isAgg ti.d = false) : zs.length = 1 := by
  obtain ⟨i, de, z, ht⟩ := tiOf_spec hti
  rw [ht.desc] at ha
  cases d with
  | zero => cases h
  | succ d =>
    simp only [eqT, ht.und] at h
    cases de <;> first | (cases ha; done) | (cases h; rfl) | (cases h; done)

theorem ValIs.of_agg {ti : TI} {us : List Value} {x : Value} (h : ValIs ti us x) (ha : AE.isAgg ti.d = true) : x = .agg us.toArray := h.1 ha
theorem ValIs.of_one {ti : TI} {us : List Value} {x : Value} (h : ValIs ti us x) (ha : AE.isAgg ti.d = false) : us = [x] := h.2 ha

theorem fields_ok {D : Nat} {E : Nat → Option (List Z)} (hE : ∀ T zs, E T = some zs → EqAt P D T zs ∧ ∀ ti, tiOf P T = some ti → AE.isAgg ti.d = false → zs.length = 1) :
    ∀ (fs : List Field) (off : Nat) (zs : List Z), eqFs E (tiOf P) fs off = some zs → ∀ (σ : Sg) (Φ : Im) (w : World) (a b : List V) (c : Bool) (us vs : List Value), off + zs.length = a.length → off ≤ a.length → fitZ (a.drop off) zs = true → fitZ (b.drop off) zs = true → eqCells (a.drop off) (b.drop off) = some c →
      Rs σ Φ w a us → Rs σ Φ w b vs → b.length = a.length → (Op.eqFields D us.toArray vs.toArray fs).run P w = .ok c w
  | [], off, zs, h, σ, Φ, w, a, b, c, us, vs, hl, ho, h1, h2, hc, hr, hs, hab => by
    cases h
    have e1 : a.drop off = [] := by rw [List.drop_eq_nil_iff]; simp at hl; omega
    have e2 : b.drop off = [] := by rw [List.drop_eq_nil_iff]; simp at hl; omega
    rw [e1, e2] at hc
    cases hc
    simp [Op.eqFields]
  | f :: r, off, zs, h, σ, Φ, w, a, b, c, us, vs, hl, ho, h1, h2, hc, hr, hs, hab => by
    simp only [eqFs] at h
    split at h
    · rename_i hf
      obtain ⟨hf1, rfl⟩ := hf
      split at h
      · rename_i z1 t hz1 ht
        split at h
        · rename_i hsz
          split at h
          · rename_i zr hzr
            cases h
            obtain ⟨hEq, hone⟩ := hE _ _ hz1
            simp only [List.length_append] at hl
            obtain ⟨f1, f2⟩ := fitZ_append h1
            obtain ⟨g1, g2⟩ := fitZ_append h2
            obtain ⟨c1, c2, k1, k2, rfl⟩ := eqCells_append hc z1.length
            obtain ⟨x, hx, vx⟩ := part_run ht (us := us) (off := f.offset) (by rw [hr.1, hsz]; omega) (fun e => hsz.trans (hone _ ht e)) w
            obtain ⟨y, hy, vy⟩ := part_run ht (us := vs) (off := f.offset) (by rw [hs.1, hab, hsz]; omega) (fun e => hsz.trans (hone _ ht e)) w
            rw [hsz] at vx vy
            have := hEq t ht hsz σ Φ w _ _ c1 _ _ x y f1 g1 k1 ((hr.drop f.offset).take z1.length) ((hs.drop f.offset).take z1.length) vx vy
            simp only [Op.eqFields, hf1, ne_eq, not_false_eq_true, if_true, Sem.run_bind, hx, hy, this, Result.andThen_ok, Sem.run_ite]
            cases c1 with
            | false => simp
            | true =>
              simp only [Bool.not_true, Bool.false_eq_true, if_false, Bool.true_and]
              refine fields_ok hE r (f.offset + z1.length) zr hzr σ Φ w a b c2 us vs (by omega) (by omega) ?_ ?_ ?_ hr hs hab
              · rw [← List.drop_drop]; exact f2
              · rw [← List.drop_drop]; exact g2
              · rw [← List.drop_drop, ← List.drop_drop]; exact k2
          · cases h
        · cases h
      · cases h
    · cases h

theorem repL_length {α : Type} (l : List α) : ∀ n, (repL n l).length = n * l.length
  | 0 => by simp [repL]
  | n + 1 => by simp [repL, repL_length l n, Nat.add_mul]; omega

theorem array_ok {D e : Nat} {z1 : List Z} {t : TI} (ht : tiOf P e = some t) (hsz : t.size = z1.length) (hEq : EqAt P D e z1) (hone : AE.isAgg t.d = false → z1.length = 1) (us vs : List Value) :
    ∀ (m i : Nat) (σ : Sg) (Φ : Im) (w : World) (a b : List V) (c : Bool), i * z1.length + m * z1.length = a.length → fitZ (a.drop (i * z1.length)) (repL m z1) = true → fitZ (b.drop (i * z1.length)) (repL m z1) = true → eqCells (a.drop (i * z1.length)) (b.drop (i * z1.length)) = some c →
      Rs σ Φ w a us → Rs σ Φ w b vs → b.length = a.length → (Op.eqItems D e z1.length us.toArray vs.toArray (List.range' i m)).run P w = .ok c w
  | 0, i, σ, Φ, w, a, b, c, hl, h1, h2, hc, hr, hs, hab => by
    have e1 : a.drop (i * z1.length) = [] := by rw [List.drop_eq_nil_iff]; omega
    have e2 : b.drop (i * z1.length) = [] := by rw [List.drop_eq_nil_iff]; omega
    rw [e1, e2] at hc
    cases hc
    simp [Op.eqItems]
  | m + 1, i, σ, Φ, w, a, b, c, hl, h1, h2, hc, hr, hs, hab => by
    simp only [repL] at h1 h2
    have hm : (m + 1) * z1.length = m * z1.length + z1.length := by rw [Nat.add_mul]; omega
    obtain ⟨f1, f2⟩ := fitZ_append h1
    obtain ⟨g1, g2⟩ := fitZ_append h2
    obtain ⟨c1, c2, k1, k2, rfl⟩ := eqCells_append hc z1.length
    obtain ⟨x, hx, vx⟩ := part_run ht (us := us) (off := i * z1.length) (by rw [hr.1, hsz]; omega) (fun e => hsz.trans (hone e)) w
    obtain ⟨y, hy, vy⟩ := part_run ht (us := vs) (off := i * z1.length) (by rw [hs.1, hab, hsz]; omega) (fun e => hsz.trans (hone e)) w
    rw [hsz] at vx vy
    have := hEq t ht hsz σ Φ w _ _ c1 _ _ x y f1 g1 k1 ((hr.drop (i * z1.length)).take z1.length) ((hs.drop (i * z1.length)).take z1.length) vx vy
    have hi : (i + 1) * z1.length = i * z1.length + z1.length := by rw [Nat.add_mul]; omega
    simp only [List.range'_succ, Op.eqItems, Sem.run_bind, hx, hy, this, Result.andThen_ok, Sem.run_ite]
    cases c1 with
    | false => simp
    | true =>
      simp only [Bool.not_true, Bool.false_eq_true, if_false, Bool.true_and]
      refine array_ok ht hsz hEq hone us vs m (i + 1) σ Φ w a b c2 (by omega) ?_ ?_ ?_ hr hs hab
      · rw [hi, ← List.drop_drop]; exact f2
      · rw [hi, ← List.drop_drop]; exact g2
      · rw [hi, ← List.drop_drop, ← List.drop_drop]; exact k2

theorem one_cells {a b : List V} {c : Bool} {z : Z} (ha : fitZ a [z] = true) (hb : fitZ b [z] = true) (h : eqCells a b = some c) : ∃ v v2, a = [v] ∧ b = [v2] ∧ fitZ1 v z = true ∧ fitZ1 v2 z = true ∧ eqCells [v] [v2] = some c := by
  match a, b, ha, hb, h with
  | [v], [v2], ha, hb, h =>
    simp only [fitZ, Bool.and_true] at ha hb
    exact ⟨v, v2, rfl, rfl, ha, hb, h⟩
  | [], _, ha, _, _ => simp [fitZ] at ha
  | _ :: _ :: _, _, ha, _, _ => simp [fitZ] at ha
  | [_], [], _, hb, _ => simp [fitZ] at hb
  | [_], _ :: _ :: _, _, hb, _ => simp [fitZ] at hb

theorem s_beq (x y : List UInt8) : ((⟨x.toArray⟩ : ByteArray).toList == (⟨y.toArray⟩ : ByteArray).toList) = (x == y) := by
  rw [ByteArray.toList_eq, ByteArray.toList_eq]

theorem eqT_ok : ∀ (d T : Nat) (zs : List Z), eqT P d T = some zs → ∀ D, d ≤ D → EqAt P D T zs
  | 0, T, zs, h, _, _ => by cases h
  | d + 1, T, zs, h, D, hD => by
    obtain ⟨D, rfl⟩ : ∃ D', D = D' + 1 := ⟨D - 1, by omega⟩
    have ih := fun T zs h => eqT_ok d T zs h D (by omega)
    intro ti hti hsz σ Φ w a b c us vs x y fa fb hc hr hs vx vy
    obtain ⟨i, de, z, ht⟩ := tiOf_spec hti
    simp only [eqT, ht.und] at h
    have hd := ht.desc
    cases de with
    | int k =>
      cases h
      have hna : AE.isAgg ti.d = false := by rw [hd]; rfl
      obtain ⟨v, v2, rfl, rfl, h1, h2, h3⟩ := one_cells fa fb hc
      rw [vx.of_one hna] at hr
      rw [vy.of_one hna] at hs
      have r1 := hr.2 0 v x rfl rfl
      have r2 := hs.2 0 v2 y rfl rfl
      cases v <;> try (simp [fitZ1] at h1; done)
      cases v2 <;> try (simp [fitZ1] at h2; done)
      cases r1; cases r2
      rename_i k1 n1 k2 n2
      have : k1 = k2 := by
        cases k1 <;> cases k2 <;> cases k <;> first | rfl | (simp [fitZ1] at h1 h2)
      subst this
      simp only [eqCells, if_true, Option.some.injEq, Bool.and_true] at h3
      rw [← h3]
      exact run_equalIn_int w D T k1 k n1 n2 ht.und
    | bool =>
      cases h
      have hna : AE.isAgg ti.d = false := by rw [hd]; rfl
      obtain ⟨v, v2, rfl, rfl, h1, h2, h3⟩ := one_cells fa fb hc
      rw [vx.of_one hna] at hr
      rw [vy.of_one hna] at hs
      have r1 := hr.2 0 v x rfl rfl
      have r2 := hs.2 0 v2 y rfl rfl
      cases v <;> try (simp [fitZ1] at h1; done)
      cases v2 <;> try (simp [fitZ1] at h2; done)
      cases r1; cases r2
      simp only [eqCells, Option.some.injEq, Bool.and_true] at h3
      rw [← h3]
      exact run_equalIn_bool' w D T _ _ ht.und
    | string =>
      cases h
      have hna : AE.isAgg ti.d = false := by rw [hd]; rfl
      obtain ⟨v, v2, rfl, rfl, h1, h2, h3⟩ := one_cells fa fb hc
      rw [vx.of_one hna] at hr
      rw [vy.of_one hna] at hs
      have r1 := hr.2 0 v x rfl rfl
      have r2 := hs.2 0 v2 y rfl rfl
      cases v <;> try (simp [fitZ1] at h1; done)
      cases v2 <;> try (simp [fitZ1] at h2; done)
      cases r1; cases r2
      rename_i x1 x2
      simp only [eqCells, Option.some.injEq, Bool.and_true] at h3
      rw [← h3]
      have := run_equalIn_string (P := P) w D T ⟨x1.toArray⟩ ⟨x2.toArray⟩ ht.und
      rw [s_beq] at this
      exact this
    | array n e =>
      dsimp only at h
      split at h
      · rename_i z1 te hz1 hte
        split at h
        · rename_i hs1
          cases h
          have hag : AE.isAgg ti.d = true := by rw [hd]; rfl
          rw [vx.of_agg hag, vy.of_agg hag]
          obtain ⟨ie, dd, ze, hte'⟩ := tiOf_spec hte
          rw [run_equalIn_array w D us.toArray vs.toArray ht.und hte'.info]
          have hcell : P.cellsOf e = z1.length := by simp [Program.cellsOf, hte'.info, ← hte'.size, hs1]
          rw [hcell, List.range_eq_range']
          have hal := fitZ_length fa
          have hbl := fitZ_length fb
          rw [repL_length] at hal hbl
          exact array_ok hte hs1 (ih e z1 hz1) (eqT_one hz1 hte) us vs n 0 σ Φ w a b c (by omega) (by simpa using fa) (by simpa using fb) (by simpa using hc) hr hs (by omega)
        · cases h
      · cases h
    | struct fs =>
      dsimp only at h
      split at h
      · cases h
      · rename_i hst
        have hag : AE.isAgg ti.d = true := by rw [hd]; rfl
        rw [vx.of_agg hag, vy.of_agg hag]
        have hf : P.fieldsOf T = fs := by simp [Program.fieldsOf, ht.und]
        rw [run_equalIn_struct w D T us.toArray vs.toArray (by rw [hf]; exact ht.und) (by simpa using hst), hf]
        have hal := fitZ_length fa
        have hbl := fitZ_length fb
        exact fields_ok (fun T' zs' h' => ⟨ih T' zs' h', fun ti' h1 h2 => eqT_one h' h1 h2⟩) fs.toList 0 zs h σ Φ w a b c us vs (by omega) (by omega) (by simpa using fa) (by simpa using fb) (by simpa using hc) hr hs (by omega)
    | _ => simp at h

/-- What is asked of a type whose values are compared. -/
def eqOkB (P : Program) (T : Nat) : Bool := (match tiOf P T with
  | some ti => AE.isAgg ti.d && (ti.size == ti.zero.length && decide (eqT P 9 T = some ti.zero))
  | none => true) && !P.eqGuardType P.depth T

theorem eqOk_of {T : Nat} (h : eqOkB P T = true) : EqOk P T := by
  intro ti hti σ Φ w a b c us vs fa fb hc hr hs x y
  simp only [eqOkB, hti, Bool.and_eq_true, beq_iff_eq, decide_eq_true_eq, Bool.not_eq_true'] at h
  obtain ⟨⟨hag, hsz, hq⟩, hg⟩ := h
  have := eqT_ok 9 T ti.zero hq 10000 (by omega) ti hti hsz σ Φ w a b c us vs (.agg us.toArray) (.agg vs.toArray) fa fb hc hr hs ⟨fun _ => rfl, fun e => by rw [hag] at e; cases e⟩ ⟨fun _ => rfl, fun e => by rw [hag] at e; cases e⟩
  simp only [Sem.run_bind, run_eqGuard_agg w _ T x y _ _ hg, Result.andThen_ok, run_eql_struct, run_neq_struct, this, and_self]

end Go.AE
