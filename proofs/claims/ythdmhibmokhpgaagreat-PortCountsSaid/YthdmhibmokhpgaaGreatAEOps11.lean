/- The operations are sound: slices that are built, made, appended to, copied. -/
import Derived.Test.YthdmhibmokhpgaaGreatAEOps9
set_option linter.unusedVariables false
set_option linter.unusedSimpArgs false
namespace Go.AE

variable {P : Program} {C : Cfg} {ρ : Type}

theorem sz_le (t : STy) : t.sz ≤ 11 := by cases t <;> decide

theorem rows2_cells {v : V} {vs : List V} (h : cellsV v = some vs) : rows2 v = vs.flatMap rows1 := by
  cases v <;> simp only [cellsV, Option.some.injEq, reduceCtorEq] at h <;> subst h <;> simp [rows2]

theorem take_put {α : Type} (l c : List α) (off : Nat) (h : off ≤ l.length) : (l.take off ++ (c ++ l.drop (off + c.length))).take (off + c.length) = l.take off ++ c := by
  have e : (l.take off ++ c).length = off + c.length := by simp; omega
  rw [← List.append_assoc, ← e, List.take_left]

theorem elems_sound {rs : List Nat} {H : List Ob} {σ σ' : Sg} {Φ Φ' : Im} {w : World} (hp : Hp σ Φ w H.length) (hr : Res H.length (freezeAll H rs).length (freezeAll H rs) (· ∈ rs) σ Φ w σ' Φ' w)
    (hf : ∀ id ∈ rs, ∀ e t xs ver mu ap nz, H[id]? = some (.row e t xs ver mu ap nz) → ∃ v own, σ id = .row v t.sz ver own ∧ σ' id = .row v t.sz ver false ∧ R σ' Φ' w (.sl t xs false) v)
    {t : STy} {tm : List V} {a : Act} : ∀ {ps : List (Nat × Operand)} {i : Nat} {xs : List (El t)}, elems t tm H i ps = some xs → (∀ p ∈ ps, R σ Φ w (opd tm p.2) (a.eval p.2)) → (∀ id ∈ rowsOf tm ps, id ∈ rs) →
      ∃ vals, Rs σ' Φ' w (flat t xs) vals ∧ (∀ u ∈ vals, u.oneCell' = true) ∧ xs.length = ps.length ∧
        ∀ cells : Array Value, cells.size = (i + ps.length) * t.sz → ∃ cells', Instr.fill (fun i => some (i * t.sz, t.sz)) cells (ps.map fun p => (p.1, a.eval p.2)) = some cells' ∧ cells'.toList = cells.toList.take (i * t.sz) ++ vals
  | [], i, xs, h, _, _ => by
    simp only [elems, Option.some.injEq] at h
    subst h
    exact ⟨[], Rs.nil, fun _ h => (by cases h), rfl, fun cells hc => ⟨cells, rfl, by
      rw [List.append_nil, List.take_of_length_le]
      rw [Array.length_toList, hc]
      simp⟩⟩
  | (j, x) :: r, i, xs, h, hx, hrs => by
    simp only [elems] at h
    split at h
    · rename_i hij
      subst hij
      split at h
      · rename_i vs hvs
        split at h
        · rename_i y l hy hl
          injection h with h
          subst h
          obtain ⟨vals, h1, h2, h3, h4⟩ := elems_sound hp hr hf hl (fun p hp => hx p (List.mem_cons_of_mem _ hp)) fun id hid => hrs id (by
            simp only [rowsOf, List.flatMap_cons, List.mem_append] at hid ⊢
            exact .inr hid)
          have hx0 : R σ Φ w (opd tm x) (a.eval x) := hx (i, x) (by simp)
          obtain ⟨hc, hc1⟩ := hx0.cells hvs
          have hfz := fz0s_sound hp hr hf hc fun id hid => hrs id (by
            simp only [rowsOf, List.flatMap_cons, List.mem_append]
            rw [rows2_cells hvs]
            exact .inl hid)
          have hy' := ofCells_R hy hfz
          refine ⟨(a.eval x).cells.toList ++ vals, ?_, fun u hu => (List.mem_append.1 hu).elim (hc1 u) (h2 u), by simp [h3], fun cells hsz => ?_⟩
          · exact hy'.append h1
          · have hyl := hy'.1
            rw [cellsOf_length, Array.length_toList] at hyl
            simp only [List.length_cons] at hsz
            have hm1 : i * t.sz + t.sz ≤ (i + (r.length + 1)) * t.sz := by
              rw [← Nat.succ_mul]
              exact Nat.mul_le_mul_right _ (by omega)
            obtain ⟨cells1, e1, e2⟩ := fill_step (place := fun i => some (i * t.sz, t.sz)) (rest := r.map fun p => (p.1, a.eval p.2)) (i := i) (v := a.eval x) (cells := cells) rfl hyl (by omega)
            have hsz1 : cells1.size = (i + 1 + r.length) * t.sz := by
              have := congrArg List.length e2
              simp only [List.length_append, List.length_take, List.length_drop, Array.length_toList] at this
              have e : i + 1 + r.length = i + (r.length + 1) := by omega
              rw [e]
              omega
            obtain ⟨cells', e3, e4⟩ := h4 cells1 hsz1
            refine ⟨cells', by rw [List.map_cons, e1, e3], ?_⟩
            have e5 := take_put cells.toList (a.eval x).cells.toList (i * t.sz) (by rw [Array.length_toList]; omega)
            rw [Array.length_toList] at e5
            rw [hyl] at e5
            rw [e4, e2, Nat.add_mul, Nat.one_mul, hyl, e5, List.append_assoc]
        · cases h
      · cases h
    · cases h

theorem grownBy_new {w : World} (o : Obj) : w.grownBy (w.alloc o) Option.none := World.grownBy_alloc w o _

theorem heap_new (w : World) (o : Obj) : (w.alloc o).heap[w.heap.size]? = some o := by
  show (w.heap.push o)[w.heap.size]? = some o
  simp

/-- A new block, whole. -/
theorem OwnV.new (w : World) (e sz n : Nat) (cells : Array Value) (hs : cells.size = n * sz) (hm : n ≤ maxLen) : OwnV (w.alloc (.cells cells e)) e sz (.slice (some ⟨w.heap.size, 0, Option.none⟩) n n) n cells.toList := by
  refine ⟨by simpa using hs, ?_⟩
  rcases Nat.eq_zero_or_pos n with h0 | h0
  · subst h0
    exact .inl ⟨_, rfl, rfl⟩
  · exact .inr ⟨_, n, cells, rfl, h0, heap_new w _, Nat.le_refl _, hm, hs, by rw [List.take_of_length_le]; simpa using Nat.le_of_eq hs⟩

theorem blk_new {w w' : World} {n cap : Nat} (h : w.heap.size < w'.heap.size) : ∀ b, blk (.slice (some ⟨w.heap.size, 0, Option.none⟩) n cap) = some b → w.heap.size ≤ b ∧ b < w'.heap.size := by
  intro b hb
  cases cap with
  | zero => cases hb
  | succ c =>
    cases hb
    exact ⟨Nat.le_refl _, h⟩

theorem evBuildSlice_sound (hT : TysOk P C) {T len : Nat} {ps : List (Nat × Operand)} {tm : List V} {H : List Ob} {lg : Lg} {K : V → List Ob → Lg → Option ρ} {r : ρ} (h : evBuildSlice C T len ps tm H lg K = some r) :
    ∃ v H' l, K v H' (l ++ lg) = some r ∧ Fr H l H' ∧ ∀ (σ : Sg) (Φ : Im) (w : World) (a : Act), Hp σ Φ w H.length → ObsOk σ Φ w H (touched l) → (∀ p ∈ ps, R σ Φ w (opd tm p.2) (a.eval p.2)) →
      ∃ u σ' Φ' w', (Instr.buildSlice T len (ps.map fun p => (p.1, a.eval p.2)).toArray).run P w = .ok u w' ∧ R σ' Φ' w' v u ∧ Res H.length H'.length H' (wrote l) σ Φ w σ' Φ' w' := by
  unfold evBuildSlice at h
  split at h
  · rename_i e _ _ _ hti
    obtain ⟨i, d, z, ht⟩ := ty_at hT hti
    have hd := tdOf_slice ht.desc
    subst hd
    split at h
    · rename_i t ti hst hti2
      obtain ⟨i2, d2, z2, ht2⟩ := ty_at hT hti2
      split at h
      · rename_i hc
        obtain ⟨hsz, hlen, hpl⟩ := hc
        split at h
        · rename_i xs hxs
          let rs := rowsOf tm ps
          refine ⟨_, freezeAll H rs ++ [.row e t xs 0 true true (len != 0)], rs.map fun r => ⟨true, r, 1⟩, h, ⟨?_, fun i hi hn => ?_⟩, fun σ Φ w a hp ho hx => ?_⟩
          · rw [List.length_append, freezeAll_length]; omega
          · rw [wrote_rows] at hn
            rw [List.getElem?_append_left (by rw [freezeAll_length]; exact hi), freezeAll_ne H rs i hn]
          · obtain ⟨σ1, Φ1, hr1, hf1⟩ := res_freeze (rs := rs) hp fun i hi => ho i ((touched_rows true).2 hi)
            obtain ⟨vals, h1, h2, h3, h4⟩ := elems_sound hp hr1 hf1 hxs hx fun id hid => hid
            have hsz2 : i2.size = t.sz := by rw [← ht2.size]; exact hsz
            have h24 : ¬ (16777216 < len * t.sz) := by
              have h5 := sz_le t
              have : len * t.sz ≤ 1000 * 11 := Nat.mul_le_mul hlen h5
              omega
            let cells0 : Array Value := (Array.range (len * t.sz)).map (z2.cells[· % z2.cells.size]!)
            obtain ⟨cells', e1, e2⟩ := h4 cells0 (by simp [cells0, hpl])
            simp only [Nat.zero_mul, List.take_zero, List.nil_append] at e2
            have hrun : (Instr.buildSlice T len (ps.map fun p => (p.1, a.eval p.2)).toArray).run P w = .ok (.slice (some ⟨w.heap.size, 0, Option.none⟩) len len) (w.alloc (.cells cells' e)) := by
              by_cases h0 : len * t.sz = 0
              · have hps : ps = [] := by
                  have : len = 0 := by
                    rcases Nat.mul_eq_zero.1 h0 with h5 | h5
                    · exact h5
                    · have := sz_pos t; omega
                  exact List.eq_nil_of_length_eq_zero (by omega)
                subst hps
                have hl0 : len = 0 := hpl.symm
                subst hl0
                have hc' : cells' = #[] := by
                  have : vals = [] := by
                    have := h1.1
                    rw [flat_length, h3] at this
                    exact List.eq_nil_of_length_eq_zero (by simpa using this)
                  rw [this] at e2
                  exact Array.toList_eq_nil_iff.1 e2
                subst hc'
                simp [Instr.buildSlice, run_underlying ht.und, run_size ht2, hsz, newRow, Instr.fill, show Array.range 0 = #[] by simp]
              · simp only [cells0] at e1
                simp [Instr.buildSlice, run_underlying ht.und, run_size ht2, hsz, h24, h0, run_zero ht2, newRow, e1]
            have hxl : xs.length = len := by omega
            have hlm : len ≤ maxLen := by simp only [maxLen]; omega
            have hcs : cells'.size = len * t.sz := by
              have h5 := h1.1
              rw [flat_length, hxl, ← e2, Array.length_toList] at h5
              exact h5
            have hO := OwnV.new w e t.sz len cells' hcs hlm
            rw [e2] at hO
            obtain ⟨σ2, hr2, hR⟩ := res_newRow (H := freezeAll H rs) (e := e) (t := t) (xs := xs) (mu := true) (ap := true) (nz := len != 0) (W := fun _ => False) (fun _ h => h) hr1.hp (grownBy_new (.cells cells' e)) hxl hO h1 h2 (blk_new (by simp)) (fun hnz e' => by
              subst e'
              simp at hxl
              rw [← hxl] at hnz
              cases hnz)
            rw [freezeAll_length] at hR
            refine ⟨_, σ2, Φ1, _, hrun, hR, (Res.trans hr1 hr2 (by rw [freezeAll_length]; exact Nat.le_refl _) fun i hi _ => List.getElem?_append_left hi).congr fun i => ?_⟩
            rw [wrote_rows, or_false]
        · cases h
      · cases h
    · cases h
  · cases h

theorem flat_replicate (t : STy) (z : El t) (n j : Nat) (hj : j < n * t.sz) : (flat t (List.replicate n z))[j]? = (cellsOf t z)[j % t.sz]? := by
  have hd : j / t.sz < n := (Nat.div_lt_iff_lt_mul (sz_pos t)).2 hj
  have := flat_el (t := t) (xs := List.replicate n z) (k := j / t.sz) (y := z) (by simp [hd]) (Nat.mod_lt j (sz_pos t))
  rw [Nat.div_add_mod'] at this
  exact this

theorem evMake_sound (hT : TysOk P C) {T : Nat} {l : V} {H : List Ob} {K : V → List Ob → Option ρ} {r : ρ} (h : evMake C T l H K = some r) :
    ∃ v H', K v H' = some r ∧ Fr H [] H' ∧ ∀ (σ : Sg) (Φ : Im) (w : World) (x : Value), Hp σ Φ w H.length → R σ Φ w l x →
      ∃ u σ' Φ' w', (Instr.makeSlice T x x).run P w = .ok u w' ∧ R σ' Φ' w' v u ∧ Res H.length H'.length H' (wrote []) σ Φ w σ' Φ' w' := by
  unfold evMake at h
  split at h
  · rename_i e _ _ _ n hti
    obtain ⟨i, d, z, ht⟩ := ty_at hT hti
    have hd := tdOf_slice ht.desc
    subst hd
    split at h
    · rename_i t ti hst hti2
      obtain ⟨i2, d2, z2, ht2⟩ := ty_at hT hti2
      split at h
      · rename_i hc
        obtain ⟨hsz, hby⟩ := hc
        split at h
        · rename_i zel hz
          rcases brB_some h with ⟨hb, h'⟩ | ⟨_, h'⟩
          · simp only [Bool.and_eq_true, decide_eq_true_eq] at hb
            obtain ⟨h0, h1⟩ := hb
            simp only [most] at h1
            refine ⟨_, _, h', Fr.push _ _ _, fun σ Φ w x hp hx => ?_⟩
            cases hx with
            | i _ _ =>
              have hb2 : i2.bytes ≤ 65536 := by rw [← ht2.bytes]; exact hby
              have hbytes : (i2.bytes : Int) * n ≤ 281474976710656 := by
                have : (i2.bytes : Int) * n ≤ 65536 * 4294967296 := Int.mul_le_mul (by omega) (by omega) h0 (by omega)
                omega
              have hrun := run_make (P := P) w T e i2 z2 ht.und ht2.info ht2.zero .i64 .i64 n n h0 (Int.le_refl _) hbytes (by omega)
              have hsz2 : i2.size = t.sz := by rw [← ht2.size]; exact hsz
              rw [hsz2] at hrun
              obtain ⟨hz0, hz1⟩ := zero_cells ht2 σ Φ w
              have hzr := ofCells_R hz hz0
              have hzl := hzr.1
              rw [cellsOf_length, Array.length_toList] at hzl
              have hpos := sz_pos t
              have hget : ∀ j, (hj : j < n.toNat * t.sz) → (madeCells z2.cells (n.toNat * t.sz)).toList[j]? = z2.cells.toList[j % t.sz]? := fun j hj => by
                have hlt : j % t.sz < z2.cells.size := by rw [hzl]; exact Nat.mod_lt j hpos
                simp only [madeCells, Array.toList_map, Array.toList_range, List.getElem?_map, List.getElem?_range hj, Option.map_some, hzl]
                rw [Array.getElem!_eq_getD, Array.getD_eq_getD_getElem?, Array.getElem?_toList]
                simp [hlt]
              have hrs : Rs σ Φ w (flat t (List.replicate n.toNat zel)) (madeCells z2.cells (n.toNat * t.sz)).toList := by
                refine ⟨by rw [flat_length, List.length_replicate, Array.length_toList, size_madeCells], fun j v u hv hu => ?_⟩
                have hj : j < n.toNat * t.sz := by
                  have := (List.getElem?_eq_some_iff.1 hv).1
                  rwa [flat_length, List.length_replicate] at this
                rw [flat_replicate t zel _ j hj] at hv
                rw [hget j hj] at hu
                exact hzr.2 _ v u hv hu
              have h1c : ∀ u ∈ (madeCells z2.cells (n.toNat * t.sz)).toList, u.oneCell' = true := fun u hu => by
                obtain ⟨j, hj⟩ := List.getElem?_of_mem hu
                have hjl : j < n.toNat * t.sz := by
                  have := (List.getElem?_eq_some_iff.1 hj).1
                  rwa [Array.length_toList, size_madeCells] at this
                rw [hget j hjl] at hj
                exact hz1 u (List.mem_of_getElem? hj)
              have hO := OwnV.new w e t.sz n.toNat (madeCells z2.cells (n.toNat * t.sz)) (size_madeCells _ _) (by simp only [maxLen]; omega)
              have hxl : (List.replicate n.toNat zel).length = n.toNat := List.length_replicate
              obtain ⟨σ2, hr2, hR⟩ := res_newRow (H := H) (e := e) (t := t) (xs := List.replicate n.toNat zel) (mu := true) (ap := true) (nz := false) wrote_nil hp (grownBy_new _) hxl hO hrs h1c (blk_new (by simp)) (fun h => by cases h)
              exact ⟨_, σ2, Φ, _, hrun, hR, hr2⟩
          · cases h'
        · cases h
      · cases h
    · cases h
  · cases h

end Go.AE

/- The operations are sound: append, copy. -/
namespace Go.AE

variable {P : Program} {C : Cfg} {ρ : Type}

/-- Cells that can be read behind a slice's place. -/
def ReadAt (w : World) (p : Option Addr) (vals : List Value) : Prop := ∀ (j : Nat) (u : Value), vals[j]? = some u → ∃ a, p = some a ∧ a.spot = Option.none ∧ w.cell? ⟨a.block, a.off + j, Option.none⟩ = some u

theorem ReadAt.cells {w : World} {a : Addr} {vals : List Value} (h : ReadAt w (some a) vals) : ∀ (j : Nat) (u : Value), vals[j]? = some u → w.cell? (a.add j) = some u := fun j u hj => by
  obtain ⟨a', e, hs, hc⟩ := h j u hj
  cases e
  rw [add_spot hs]
  exact hc

theorem ReadAt.nil_or {w : World} {p : Option Addr} {vals : List Value} (h : ReadAt w p vals) (h0 : 0 < vals.length) : ∃ a, p = some a := by
  obtain ⟨a, e, _⟩ := h 0 (vals[0]) (by simp [h0])
  exact ⟨a, e⟩

theorem run_append_zero {T e : Nat} (hu : P.underlying T = some (.slice e)) {ti : TI} {i : TypeInfo} {d : TypeDesc} {z : Value} (ht : TyOk P e ti i d z) (ty : TypeId) (p q : Option Addr) (n cap c : Nat) (hle : n ≤ cap) (w : World) :
    (Builtin.append_ #[T, T] ty #[.slice p n cap, .slice q 0 c]).run P w = .ok (.slice p n cap) w := by
  cases q <;> cases p <;> simp [Builtin.append_, run_underlying hu, run_size ht, Builtin.lenOf, Builtin.firstCells, loadCells, loadCellsFrom, hle, storeCells]

theorem run_append_new {T e : Nat} (hu : P.underlying T = some (.slice e)) {ti : TI} {i : TypeInfo} {d : TypeDesc} {z : Value} (ht : TyOk P e ti i d z) (hzs : ti.zero.length = ti.size) (hby : ti.bytes ≤ 32768) (hpos : 0 < ti.size) (ty : TypeId)
    {p q : Option Addr} {n cap m c : Nat} {olds news : List Value} {w : World} (ho : olds.length = n * ti.size) (hro : ReadAt w p olds) (hn : news.length = m * ti.size) (hrn : ReadAt w q news) (hle : n ≤ cap) (hm : 0 < m) (hnm : n + m ≤ most) (hg : cap < n + m)
    (hnil : p = Option.none → n = 0 ∧ cap = 0) :
    ∃ cap' w', (Builtin.append_ #[T, T] ty #[.slice p n cap, .slice q m c]).run P w = .ok (.slice (some ⟨w.heap.size, 0, Option.none⟩) (n + m) cap') w' ∧ w.grownBy w' Option.none ∧ w.heap.size < w'.heap.size ∧
      OwnV w' e ti.size (.slice (some ⟨w.heap.size, 0, Option.none⟩) (n + m) cap') (n + m) (olds ++ news) := by
  simp only [most] at hnm
  have hs2 := ht.size
  have hb2 := ht.bytes
  have hzc : z.cells.size = ti.size := by rw [← hzs, ht.zs]; simp
  obtain ⟨aq, rfl⟩ := hrn.nil_or (by rw [hn]; exact Nat.mul_pos hm hpos)
  have hnews := hrn.cells
  have hbytes : (n + m) * i.bytes ≤ 140737488355328 := by
    have : (n + m) * i.bytes ≤ 4294967296 * 32768 := Nat.mul_le_mul (by omega) (by omega)
    omega
  have hfin : ∀ (old : Nat), old < n + m → OwnV (w.drew.alloc (.cells (olds.toArray ++ news.toArray ++ Builtin.zeroCells z.cells (grownCap w (n + m) old e - (n + m))) e)) e ti.size
      (.slice (some ⟨w.heap.size, 0, Option.none⟩) (n + m) (grownCap w (n + m) old e)) (n + m) (olds ++ news) := fun old hold => by
    have hge := grownCap_ge w (n + m) old e
    have hcm := grownCap_le_maxLen w (n + m) old e (by simp only [maxLen]; omega)
    have hlen : (olds ++ news).length = (n + m) * ti.size := by rw [List.length_append, ho, hn, Nat.add_mul]
    refine ⟨hlen, .inr ⟨w.heap.size, _, _, rfl, by omega, heap_alloc_new w.drew _, hge, hcm, ?_, ?_⟩⟩
    · simp only [Array.size_append, List.size_toArray, size_zeroCells, hzc, ho, hn, ← Nat.add_mul]
      congr 1
      omega
    · simp only [Array.toList_append, List.append_assoc]
      rw [← List.append_assoc, ← hlen]
      exact List.take_left
  have hgr : ∀ (o : Obj), w.grownBy (w.drew.alloc o) Option.none := fun o => ⟨rfl, rfl, rfl, by simp, fun k hk _ => heap_alloc_old w.drew o k hk⟩
  cases p with
  | none =>
    obtain ⟨rfl, rfl⟩ := hnil rfl
    have hx : olds = [] := List.eq_nil_of_length_eq_zero (by simpa using ho)
    subst hx
    have hr := run_append_nil (P := P) w T ty e i z hu ht.info ht.zero aq m c news (by rw [hn, hs2]) hnews hm (by omega) (by simp only [Nat.zero_add] at hbytes; omega)
    have hO := hfin 0 (by omega)
    simp only [Nat.zero_add, List.nil_append, Array.empty_append] at hO hr ⊢
    exact ⟨_, _, hr, hgr _, by simp, by simpa using hO⟩
  | some ap =>
    have hr := run_append_grow (P := P) w T ty e i z hu ht.info ht.zero ap n cap olds (by rw [ho, hs2]) hro.cells aq m c news (by rw [hn, hs2]) hnews hg (by omega) (growslice_fits (by omega) hbytes)
    exact ⟨_, _, hr, hgr _, by simp, hfin cap hg⟩

theorem OwnV.read {w : World} {e sz n : Nat} {p : Option Addr} {cap : Nat} {vals : List Value} (h : OwnV w e sz (.slice p n cap) n vals) : ReadAt w p vals ∧ n ≤ cap := by
  obtain ⟨hl, ho⟩ := h
  rcases ho with ⟨p', e1, rfl⟩ | ⟨g, cap', cur, e1, hc, hg, hle, hm, hs, ht⟩
  · cases e1
    refine ⟨fun j u hj => ?_, Nat.le_refl _⟩
    have : vals = [] := List.eq_nil_of_length_eq_zero (by simpa using hl)
    subst this
    simp at hj
  · cases e1
    refine ⟨fun j u hj => ⟨_, rfl, rfl, ?_⟩, hle⟩
    have hjl : j < n * sz := by rw [← hl]; exact (List.getElem?_eq_some_iff.1 hj).1
    rw [← ht, List.getElem?_take, if_pos hjl] at hj
    simp only [World.cell?, hg, Nat.zero_add]
    simpa using hj

/-- A row that nobody writes, new in the heap. -/
theorem res_newSl {H : List Ob} {σ : Sg} {Φ : Im} {w : World} {e : TypeId} {t : STy} {xs : List (El t)} {v : Value} {W : Nat → Prop} (hW : ∀ id, ¬ W id) (hp : Hp σ Φ w H.length) (hs : ∃ p n cap, v = .slice p n cap) (hr : R σ Φ w (.sl t xs false) v) :
    ∃ σ', Res H.length (H ++ [Ob.row e t xs 0 false false false]).length (H ++ [Ob.row e t xs 0 false false false]) W σ Φ w σ' Φ w ∧ R σ' Φ w (.o H.length 0) v := by
  let σ' : Sg := upd σ H.length (.row v t.sz 0 false)
  have hold : ∀ i, i < H.length → σ' i = σ i := fun i hi => by simp only [σ', upd]; rw [if_neg (by omega)]
  have hnew : σ' H.length = .row v t.sz 0 false := by simp [σ', upd]
  have hcov : ∀ i b o, (σ' i).covers b o → i < H.length ∧ (σ i).covers b o := fun i b o hc => by
    by_cases hi : i = H.length
    · subst hi
      rw [hnew] at hc
      exact hc.elim
    · simp only [σ', upd, if_neg hi] at hc
      exact ⟨hp.lt_of_covers hc, hc⟩
  have htr : Tr H.length W σ Φ w σ' Φ w := {
    os := rfl, tape := rfl, output := rfl, size := Nat.le_refl _,
    keep := fun b o _ _ => same.refl w b o
    imm := fun _ _ h => h
    immNew := fun _ _ h => .inl h
    later := fun i hi => by rw [hold i hi]; exact Lc.later.refl _
    eqs := fun i hi _ => hold i hi
    cov := fun i b o hc => .inr (.inl (hcov i b o hc)) }
  refine ⟨σ', ⟨?_, htr, ?_⟩, ?_⟩
  · exact {
      dom := fun i hi => by
        simp only [List.length_append, List.length_cons, List.length_nil] at hi
        simp only [σ', upd]
        rw [if_neg (by omega)]
        exact hp.dom i (by omega)
      sep := fun i j b o hi hj => hp.sep i j b o (hcov i b o hi).2 (hcov j b o hj).2
      imm := fun i b o hi hΦ => hp.imm i b o (hcov i b o hi).2 hΦ
      lt := fun i b o hi => hp.lt i b o (hcov i b o hi).2
      immlt := hp.immlt }
  · intro id hid o hoo
    rcases hid with h2 | h2
    · exact absurd h2 (hW id)
    · have hid : id = H.length := by
        have := (List.getElem?_eq_some_iff.1 hoo).1
        simp only [List.length_append, List.length_cons, List.length_nil] at this
        omega
      subst hid
      rw [List.getElem?_append_right (Nat.le_refl _), Nat.sub_self] at hoo
      cases hoo
      exact ⟨v, false, hnew, fun e => (by cases e), fun e => (by cases e), fun e => (by cases e), fun _ => htr.value hp hr⟩
  · obtain ⟨p, n, cap, rfl⟩ := hs
    exact .o _ _ _ _ _ ⟨_, _, _, _, hnew, Nat.le_refl _, fun _ => rfl⟩

theorem Res.sub {n n' : Nat} {H' : List Ob} {W W' : Nat → Prop} {σ σ' : Sg} {Φ Φ' : Im} {w w' : World} (h : Res n n' H' W σ Φ w σ' Φ' w') (hW : ∀ id, W id → W' id) (ho : ∀ id, id < n → W' id → ¬ W id → ∀ o, H'[id]? = some o → ObOk σ Φ w id o) (hp : Hp σ Φ w n) : Res n n' H' W' σ Φ w σ' Φ' w' where
  hp := h.hp
  tr := h.tr.weaken (Nat.le_refl _) fun id _ hw => hW id hw
  ob := fun id hid o hoo => by
    by_cases h1 : W id ∨ n ≤ id
    · exact h.ob id h1 o hoo
    · rw [not_or] at h1
      rcases hid with h2 | h2
      · exact h.tr.ob hp (by omega) h1.1 (ho id (by omega) h2 h1.1 o hoo)
      · exact absurd h2 h1.2

theorem evAppend_sound (hT : TysOk P C) {T : Nat} {s x : V} {H : List Ob} {lg : Lg} {K : V → List Ob → Lg → Option ρ} {r : ρ} (h : evAppend C T s x H lg K = some r) :
    ∃ v H' l, K v H' (l ++ lg) = some r ∧ Fr H l H' ∧ ∀ (σ : Sg) (Φ : Im) (w : World) (a b : Value) (ty : TypeId), Hp σ Φ w H.length → ObsOk σ Φ w H (touched l) → R σ Φ w s a → R σ Φ w x b →
      ∃ u σ' Φ' w', (Builtin.append_ #[T, T] ty #[a, b]).run P w = .ok u w' ∧ R σ' Φ' w' v u ∧ Res H.length H'.length H' (wrote l) σ Φ w σ' Φ' w' := by
  unfold evAppend at h
  split at h
  · rename_i e _ _ _ hti
    obtain ⟨i, d, z, ht⟩ := ty_at hT hti
    have hd := tdOf_slice ht.desc
    subst hd
    split at h
    · rename_i t ti hst hti2
      obtain ⟨i2, d2, z2, ht2⟩ := ty_at hT hti2
      split at h
      · rename_i hc
        obtain ⟨hsz, hzl, hby⟩ := hc
        have hzl' : ti.zero.length = ti.size := by rw [hsz]; exact hzl
        have hpos : 0 < ti.size := by rw [hsz]; exact sz_pos t
        split at h
        · rename_i ys nz lx hsrc
          obtain ⟨hlx, hsrc⟩ := srcOf_sound hsrc
          split at h
          · -- a nil slice
            rcases brB_some h with ⟨hb, h'⟩ | ⟨_, h'⟩
            · have hb := of_decide_eq_true hb
              refine ⟨_, _, lx, h', Fr.push _ _ _, fun σ Φ w a b ty hp ho ha hbx => ?_⟩
              obtain ⟨q, c, vals, rfl, hr, h1, hnz, hread⟩ := hsrc σ Φ w b ho hbx
              cases ha with
              | nils =>
                have hvl := hr.1
                rw [flat_length, ← hsz] at hvl
                rcases Nat.eq_zero_or_pos ys.length with h0 | h0
                · rw [h0]
                  obtain ⟨σ2, hr2, hR⟩ := res_newRow (H := H) (e := e) (t := t) (xs := ys) (p := Option.none) (cap := 0) (mu := true) (ap := true) (nz := nz) hlx hp ⟨rfl, rfl, rfl, Nat.le_refl _, fun _ _ _ => rfl⟩ h0
                    ⟨by rw [hvl, h0]; simp, .inl ⟨_, rfl, rfl⟩⟩ hr h1 (fun b hb => by cases hb) hnz
                  exact ⟨_, σ2, Φ, w, run_append_zero ht.und ht2 ty _ _ _ _ _ (Nat.le_refl _) w, hR, hr2⟩
                · obtain ⟨cap', w', hrun, hg, hlt, hO⟩ := run_append_new (p := Option.none) (n := 0) (cap := 0) (c := c) (olds := []) ht.und ht2 hzl' hby hpos ty (by simp) (fun j u h => (by simp at h)) hvl hread (Nat.le_refl _) h0 (by omega) (by omega) fun _ => ⟨rfl, rfl⟩
                  simp only [Nat.zero_add, List.nil_append] at hrun hO
                  rw [hsz] at hO
                  obtain ⟨σ2, hr2, hR⟩ := res_newRow (H := H) (e := e) (t := t) (xs := ys) (mu := true) (ap := true) (nz := nz) hlx hp hg rfl hO hr h1 (blk_new hlt) hnz
                  exact ⟨_, σ2, Φ, w', hrun, hR, hr2⟩
            · cases h'
          · -- a slice without room
            rename_i u0 xs0
            split at h
            · rename_i xs hxs
              obtain ⟨rfl, hh⟩ := asSl_row hxs
              cases hh
              rcases brB_some h with ⟨hb, h'⟩ | ⟨_, h'⟩
              · have hb := of_decide_eq_true hb
                refine ⟨_, _, lx, h', Fr.push _ _ _, fun σ Φ w a b ty hp ho ha hbx => ?_⟩
                obtain ⟨q, c, vals, rfl, hr, h1, hnz, hread⟩ := hsrc σ Φ w b ho hbx
                have ha0 := ha
                cases ha with
                | sl _ _ _ p cap olds hl0 hr0 hn he hw =>
                  have hcap := he rfl
                  subst hcap
                  have hvl := hr.1
                  rw [flat_length, ← hsz] at hvl
                  have hol := hl0
                  rw [flat_length, ← hsz] at hol
                  rcases Nat.eq_zero_or_pos ys.length with h0 | h0
                  · have hys : ys = [] := List.eq_nil_of_length_eq_zero h0
                    subst hys
                    have hnz' : nz = false := by
                      cases nz with
                      | false => rfl
                      | true => exact absurd rfl (hnz rfl)
                    subst hnz'
                    have ha1 : R σ Φ w (.sl u0 (xs0 ++ []) false) (.slice p xs0.length xs0.length) := by
                      rw [List.append_nil]
                      exact .sl u0 xs0 false p _ olds hl0 hr0 hn (fun e => by cases e) hw
                    obtain ⟨σ2, hr2, hR⟩ := res_newSl (H := H) (e := e) hlx hp ⟨_, _, _, rfl⟩ ha1
                    exact ⟨_, σ2, Φ, w, run_append_zero ht.und ht2 ty _ _ _ _ _ (Nat.le_refl _) w, hR, hr2⟩
                  · have hrd : ReadAt w p olds := fun j u hj => let ⟨a, e1, e2, _, e3, _⟩ := hw j u hj; ⟨a, e1, e2, e3⟩
                    have h1o : ∀ u ∈ olds, u.oneCell' = true := fun u hu => by
                      obtain ⟨j, hj⟩ := List.getElem?_of_mem hu
                      obtain ⟨_, _, _, _, _, h⟩ := hw j u hj
                      exact h
                    obtain ⟨cap', w', hrun, hg, hlt, hO⟩ := run_append_new (c := c) ht.und ht2 hzl' hby hpos ty hol hrd hvl hread (Nat.le_refl _) h0 hb (by omega) fun hpn => by
                      subst hpn
                      have : xs0.length = 0 := by
                        rcases Nat.eq_zero_or_pos xs0.length with h5 | h5
                        · exact h5
                        · obtain ⟨a, e1⟩ := hrd.nil_or (by rw [hol]; exact Nat.mul_pos h5 hpos)
                          cases e1
                      exact ⟨this, this⟩
                    rw [hsz] at hO
                    have hrs : Rs σ Φ w (flat u0 (xs0 ++ ys)) (olds ++ vals) := by
                      rw [flat_append]
                      exact Rs.append ⟨hl0, hr0⟩ hr
                    obtain ⟨σ2, hr2, hR⟩ := res_newRow (H := H) (e := e) (t := u0) (xs := xs0 ++ ys) (mu := nz) (ap := nz) (nz := nz) hlx hp hg (by simp) hO hrs (fun u hu => (List.mem_append.1 hu).elim (h1o u) (h1 u)) (blk_new hlt)
                      fun e1 e2 => hnz e1 (List.append_eq_nil_iff.1 e2).2
                    exact ⟨_, σ2, Φ, w', hrun, hR, hr2⟩
              · cases h'
            · cases h
          · -- a row of one's own
            rename_i id ver
            split at h
            · rename_i e' u0 xs0 v0 mu nz0 hob
              split at h
              · rename_i hc
                obtain ⟨rfl, rfl⟩ := hc
                split at h
                · rename_i xs hxs
                  obtain ⟨rfl, hh⟩ := asSl_row hxs
                  cases hh
                  rcases brB_some h with ⟨hb, h'⟩ | ⟨_, h'⟩
                  · have hb := of_decide_eq_true hb
                    have hlt0 : id < H.length := (List.getElem?_eq_some_iff.1 hob).1
                    refine ⟨_, _, ⟨true, id, 1⟩ :: lx, h', ⟨by simp, fun i hi hn => List.getElem?_set_ne fun e => hn (wrote_one.2 (.inl (by omega)))⟩, fun σ Φ w a b ty hp ho ha hbx => ?_⟩
                    have hobk := ho id (touched_self _ _ _) _ hob
                    obtain ⟨q, c, vals, rfl, hr, h1, hnz, hread⟩ := hsrc σ Φ w b (fun i hi => ho i (touched_cons.2 (.inr hi))) hbx
                    obtain ⟨v, olds, hσ, hO0, hr0, h1o, hnz0⟩ := row_own hobk (by simp)
                    obtain ⟨p, cap, rfl⟩ := hO0.slice
                    obtain ⟨hrd, hncap⟩ := hO0.read
                    cases ha with
                    | o _ _ p' n' cap' hq =>
                      obtain ⟨v', sz, ver', own', e4, _, e5⟩ := hq
                      rw [hσ] at e4
                      injection e4 with e6 e7 e8 e9
                      subst e6; subst e7; subst e8
                      have e10 := e5 rfl
                      injection e10 with e11 e12 e13
                      subst e11; subst e12; subst e13
                      have hvl := hr.1
                      rw [flat_length, ← hsz] at hvl
                      have hol := hO0.1
                      rw [← hsz] at hol
                      have hrs : Rs σ Φ w (flat u0 (xs0 ++ ys)) (olds ++ vals) := by
                        rw [flat_append]
                        exact Rs.append hr0 hr
                      have h1a : ∀ u ∈ olds ++ vals, u.oneCell' = true := fun u hu => (List.mem_append.1 hu).elim (h1o u) (h1 u)
                      have hnza : (nz0 || nz) = true → xs0 ++ ys ≠ [] := fun e1 e2 => by
                        rw [Bool.or_eq_true] at e1
                        rcases e1 with e1 | e1
                        · exact hnz0 e1 (List.append_eq_nil_iff.1 e2).1
                        · exact hnz e1 (List.append_eq_nil_iff.1 e2).2
                      have hlen : (xs0 ++ ys).length = xs0.length + ys.length := List.length_append
                      have fin : ∀ (p2 : Option Addr) (cap2 : Nat) (w' : World), (Builtin.append_ #[T, T] ty #[.slice p xs0.length cap, .slice q ys.length c]).run P w = .ok (.slice p2 (xs0.length + ys.length) cap2) w' →
                          w.grownBy w' (blk (.slice p xs0.length cap)) → OwnV w' e' u0.sz (.slice p2 (xs0.length + ys.length) cap2) (xs0.length + ys.length) (olds ++ vals) →
                          (∀ b, blk (.slice p2 (xs0.length + ys.length) cap2) = some b → blk (.slice p xs0.length cap) = some b ∨ (w.heap.size ≤ b ∧ b < w'.heap.size)) →
                          ∃ u σ' Φ' w', (Builtin.append_ #[T, T] ty #[.slice p xs0.length cap, .slice q ys.length c]).run P w = .ok u w' ∧ R σ' Φ' w' (.o id (ver + 1)) u ∧
                            Res H.length (H.set id (Ob.row e' u0 (xs0 ++ ys) (ver + 1) mu true (nz0 || nz))).length (H.set id (Ob.row e' u0 (xs0 ++ ys) (ver + 1) mu true (nz0 || nz))) (wrote (⟨true, id, 1⟩ :: lx)) σ Φ w σ' Φ' w' := by
                        intro p2 cap2 w' hrun hg hO hblk
                        obtain ⟨σ2, hr2, hs2⟩ := res_updRow (H := H) (id := id) (ver := ver) (ver' := ver + 1) (mu := mu) (ap := true) (nz := nz0 || nz) hlt0 hp hσ hg hlen hO hrs h1a (by omega) (fun e => (by omega)) hblk hnza
                        refine ⟨_, σ2, Φ, w', hrun, ?_, hr2.congr fun i => ?_⟩
                        · exact .o _ _ _ _ _ ⟨_, _, _, _, hs2, Nat.le_refl _, fun _ => rfl⟩
                        · rw [wrote_one]
                          constructor
                          · rintro rfl; exact .inl (by omega)
                          · rintro (h5 | h5)
                            · omega
                            · exact absurd h5 (hlx i)
                      rcases Nat.eq_zero_or_pos ys.length with h0 | h0
                      · have hys : ys = [] := List.eq_nil_of_length_eq_zero h0
                        subst hys
                        have hvals : vals = [] := List.eq_nil_of_length_eq_zero (by simpa using hvl)
                        subst hvals
                        exact fin p cap w (run_append_zero ht.und ht2 ty _ _ _ _ _ hncap w) ⟨rfl, rfl, rfl, Nat.le_refl _, fun _ _ _ => rfl⟩ (by simpa using hO0) (fun b hb => .inl hb)
                      · by_cases hroom : xs0.length + ys.length ≤ cap
                        · rcases hO0.2 with ⟨p', e1, e2⟩ | ⟨g, cap', cur, e1, hcap, hg, hle, hm, hs, htk⟩
                          · injection e1 with e3 e4 e5
                            omega
                          · simp only [Value.slice.injEq] at e1
                            obtain ⟨rfl, _, rfl⟩ := e1
                            obtain ⟨aq, rfl⟩ := ReadAt.nil_or hread (by rw [hvl]; exact Nat.mul_pos h0 hpos)
                            have hmul : (xs0.length + ys.length) * u0.sz ≤ cap * u0.sz := Nat.mul_le_mul_right _ hroom
                            rw [Nat.add_mul] at hmul
                            rw [hsz] at hvl hol
                            have hrun := run_append_room (P := P) w T ty e' i2 ht.und ht2.info g xs0.length cap cur hg aq ys.length c vals (by rw [hvl, ← ht2.size, hsz]) (ReadAt.cells hread) h1 hroom (by rw [hvl, ← ht2.size, hsz]; omega)
                            rw [← ht2.size, hsz] at hrun
                            refine fin _ cap _ hrun (by rw [blk_some hcap]; exact grownBy_setRow _ hg) ⟨by rw [List.length_append, hvl, hol, Nat.add_mul], .inr ⟨g, cap, _, rfl, hcap, setRow_heap w g cur _ e' _ hg, hroom, hm, ?_, ?_⟩⟩ (fun b hb => by rw [blk_some hcap] at hb ⊢; exact .inl hb)
                            · simp; omega
                            · dsimp only
                              rw [htk]
                              have e6 : (xs0.length + ys.length) * u0.sz = (olds ++ vals).length := by rw [List.length_append, hvl, hol, Nat.add_mul]
                              rw [e6]
                              exact List.take_left
                        · obtain ⟨cap', w', hrun, hg, hlt, hO⟩ := run_append_new (c := c) ht.und ht2 hzl' hby hpos ty hol hrd hvl hread hncap h0 hb (by omega) fun hpn => by
                            subst hpn
                            rcases hO0.2 with ⟨p', e1, e2⟩ | ⟨g, cap', cur, e1, _⟩
                            · injection e1 with e3 e4 e5
                              exact ⟨e4, e5⟩
                            · injection e1 with e3
                              cases e3
                          rw [hsz] at hO
                          exact fin _ cap' w' hrun ⟨hg.os, hg.tape, hg.output, hg.size, fun k hk _ => hg.block k hk (by simp)⟩ hO fun b hb => .inr (blk_new hlt b hb)
                  · cases h'
                · cases h
              · cases h
            · cases h
          · cases h
        · cases h
      · cases h
    · cases h
  · cases h

end Go.AE
