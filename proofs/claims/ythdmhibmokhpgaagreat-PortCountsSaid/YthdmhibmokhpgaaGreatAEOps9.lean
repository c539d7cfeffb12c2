/- The operations are sound: stores. -/
import Derived.Test.YthdmhibmokhpgaaGreatAEOps7
set_option linter.unusedVariables false
set_option linter.unusedSimpArgs false
namespace Go.AE

variable {P : Program} {C : Cfg} {ρ : Type}

theorem storeAt_run {T : Nat} {ti : TI} {i : TypeInfo} {d : TypeDesc} {z : Value} (ht : TyOk P T ti i d z) (x : Addr) (y : Value) (hy : y.cells.toList.length = ti.size) (w : World) :
    (Instr.storeAt T (.pointer (some x)) y).run P w = (storeCells x y.cells.toList 0).run P w := by
  have hy' : y.cells.size = ti.size := by simpa using hy
  simp [Instr.storeAt, Instr.sureAddr, storeVar, run_size ht, hy']

theorem grownBy_setRow {w : World} {g : Nat} {cur : Array Value} {e : TypeId} {fr : Nat × Nat} (cs : Array Value) (hg : w.heap[g]? = some (.cells cur e fr)) : w.grownBy (w.setRow g cs) (some g) :=
  ⟨rfl, rfl, rfl, by simp, fun k _ hk => setRow_other w g k cs (fun e => hk (by rw [e]))⟩

theorem blk_some {a : Addr} {n cap : Nat} (h : 0 < cap) : blk (.slice (some a) n cap) = some a.block := by
  cases cap with
  | zero => omega
  | succ c => rfl

/-- The row that is behind a pointer into it. -/
theorem row_own {σ : Sg} {Φ : Im} {w : World} {id e : Nat} {t : STy} {xs : List (El t)} {ver : Nat} {mu ap nz : Bool} (h : ObOk σ Φ w id (.row e t xs ver mu ap nz)) (hm : (mu || ap) = true) :
    ∃ v vals, σ id = .row v t.sz ver true ∧ OwnV w e t.sz v xs.length vals ∧ Rs σ Φ w (flat t xs) vals ∧ (∀ u ∈ vals, u.oneCell' = true) ∧ (nz = true → xs ≠ []) := by
  obtain ⟨v, own, h1, h2, h3, h4, h5⟩ := h
  have ho := h3 hm
  subst ho
  obtain ⟨vals, h6, h7, h8⟩ := h4 rfl
  exact ⟨v, vals, h1, h6, h7, h8, h2⟩

theorem OwnV.slice {w : World} {e sz n : Nat} {v : Value} {vals : List Value} (h : OwnV w e sz v n vals) : ∃ p cap, v = .slice p n cap := by
  rcases h.2 with ⟨p, rfl, rfl⟩ | ⟨g, cap, cur, rfl, _⟩
  · exact ⟨_, _, rfl⟩
  · exact ⟨_, _, rfl⟩

/-- A stretch of a row, written. -/
theorem OwnV.write {w : World} {e sz n g cap : Nat} {cur : Array Value} {vals us : List Value} {o : Nat} (hl : vals.length = n * sz) (hc : 0 < cap) (hg : w.heap[g]? = some (.cells cur e (0, 0))) (hle : n ≤ cap) (hm : cap ≤ maxLen) (hs : cur.size = cap * sz)
    (ht : cur.toList.take (n * sz) = vals) (hfit : o + us.length ≤ n * sz) :
    OwnV (w.setRow g (cur.toList.take o ++ us ++ cur.toList.drop (o + us.length)).toArray) e sz (.slice (some ⟨g, 0, Option.none⟩) n cap) n (vals.take o ++ (us ++ vals.drop (o + us.length))) := by
  have hmul : n * sz ≤ cap * sz := Nat.mul_le_mul_right _ hle
  refine ⟨by simp; omega, .inr ⟨g, cap, _, rfl, hc, setRow_heap w g cur _ e (0, 0) hg, hle, hm, by simp; omega, ?_⟩⟩
  subst ht
  apply List.ext_getElem?
  intro j
  simp only [List.getElem?_take, List.getElem?_append, List.length_append, List.length_take, List.getElem?_drop, List.length_drop, Array.length_toList]
  have h1 : min o cur.size = o := by omega
  have h2 : min o (min (n * sz) cur.size) = o := by omega
  rw [h1, h2]
  by_cases h3 : j < n * sz
  · rw [if_pos h3]
    by_cases h4 : j < o
    · have h5 : j < o + us.length := by omega
      simp [h4, h5, h3]
    · by_cases h5 : j < o + us.length
      · have h6 : j - o < us.length := by omega
        simp [h4, h5, h6]
      · have h6 : ¬ j - o < us.length := by omega
        have h7 : o + us.length + (j - (o + us.length)) = j := by omega
        have h8 : o + us.length + (j - o - us.length) = j := by omega
        simp [h4, h5, h6, h7, h8, h3]
  · rw [if_neg h3]
    have h4 : ¬ j < o := by omega
    have h6 : ¬ j - o < us.length := by omega
    have h8 : ¬ o + us.length + (j - o - us.length) < n * sz := by omega
    simp [h4, h6, h8]

theorem splice_lists {α : Type} (vals us : List α) (J sz off : Nat) (h : off + us.length ≤ sz) :
    vals.take J ++ (((((vals.drop J).take sz).take off) ++ (us ++ ((vals.drop J).take sz).drop (off + us.length))) ++ vals.drop (J + sz)) = vals.take (J + off) ++ (us ++ vals.drop (J + off + us.length)) := by
  have e1 : vals.take (J + off) = vals.take J ++ (vals.drop J).take off := List.take_add
  have e2 : ((vals.drop J).take sz).take off = (vals.drop J).take off := by rw [List.take_take, Nat.min_eq_left (by omega)]
  have e3 : ((vals.drop J).take sz).drop (off + us.length) ++ vals.drop (J + sz) = vals.drop (J + off + us.length) := by
    have e4 : vals.drop (J + sz) = (vals.drop J).drop sz := by rw [List.drop_drop]
    have e5 : vals.drop (J + off + us.length) = (vals.drop J).drop (off + us.length) := by rw [List.drop_drop]; congr 1; omega
    rw [e4, e5]
    generalize vals.drop J = l
    have e6 : l.drop sz = (l.drop (off + us.length)).drop (sz - (off + us.length)) := by rw [List.drop_drop]; congr 1; omega
    rw [List.drop_take, e6, List.take_append_drop]
  rw [e1, e2, List.append_assoc, List.append_assoc, List.append_assoc, e3]

theorem set_freeze : ∀ (rs : List Nat) (H : List Ob) (id : Nat) (o : Ob), id ∉ rs → freezeAll (H.set id o) rs = (freezeAll H rs).set id o
  | [], _, _, _, _ => rfl
  | r :: rs, H, id, o, h => by
    simp only [List.mem_cons, not_or] at h
    have e : freezeAt (H.set id o) r = (freezeAt H r).set id o := by
      apply List.ext_getElem?
      intro i
      by_cases hi : i = id
      · subst hi
        by_cases hl : i < H.length
        · rw [freezeAt_ne _ _ _ h.1, List.getElem?_set_self hl, List.getElem?_set_self (by rw [freezeAt_length]; exact hl)]
        · rw [List.getElem?_eq_none (by rw [freezeAt_length, List.length_set]; omega), List.getElem?_eq_none (by rw [List.length_set, freezeAt_length]; omega)]
      · rw [List.getElem?_set_ne (Ne.symm hi)]
        by_cases hr : i = r
        · subst hr
          rw [freezeAt_eq, freezeAt_eq, List.getElem?_set_ne (Ne.symm hi)]
        · rw [freezeAt_ne _ _ _ hr, freezeAt_ne _ _ _ hr, List.getElem?_set_ne (Ne.symm hi)]
    rw [freezeAll, freezeAll, e, set_freeze rs _ id o h.2]

theorem wrote_rows {rs : List Nat} {id : Nat} : wrote (rs.map fun r => (⟨true, r, 1⟩ : Acc)) id ↔ id ∈ rs := by
  simp only [wrote, List.mem_map]
  constructor
  · rintro ⟨a, ⟨r, hr, rfl⟩, _, h1, h2⟩
    dsimp only at h1 h2
    have : id = r := by omega
    subst this
    exact hr
  · intro h
    exact ⟨_, ⟨id, h, rfl⟩, rfl, Nat.le_refl _, Nat.lt_succ_self _⟩

theorem touched_rows {rs : List Nat} {id : Nat} (b : Bool) : touched (rs.map fun r => (⟨b, r, 1⟩ : Acc)) id ↔ id ∈ rs := by
  simp only [touched, List.mem_map]
  constructor
  · rintro ⟨a, ⟨r, hr, rfl⟩, h1, h2⟩
    dsimp only at h1 h2
    have : id = r := by omega
    subst this
    exact hr
  · intro h
    exact ⟨_, ⟨id, h, rfl⟩, Nat.le_refl _, Nat.lt_succ_self _⟩

theorem wrote_one {id n i : Nat} {l : Lg} : wrote (⟨true, id, n⟩ :: l) i ↔ (id ≤ i ∧ i < id + n) ∨ wrote l i := by simp [wrote_cons]

theorem evStore_sound (hT : TysOk P C) {T : Nat} {a v : V} {H : List Ob} {lg : Lg} {K : List Ob → Lg → Option ρ} {r : ρ} (h : evStore C T a v H lg K = some r) :
    ∃ H' l, K H' (l ++ lg) = some r ∧ Fr H l H' ∧
      ∀ (σ : Sg) (Φ : Im) (w : World) (x y : Value), Hp σ Φ w H.length → ObsOk σ Φ w H (touched l) → R σ Φ w a x → R σ Φ w v y →
        ∃ σ' Φ' w', (Instr.storeAt T x y).run P w = .ok () w' ∧ Res H.length H'.length H' (wrote l) σ Φ w σ' Φ' w' := by
  unfold evStore at h
  split at h
  · rename_i ti vs hti hvs
    obtain ⟨i, d, z, ht⟩ := ty_at hT hti
    split at h
    · rename_i hlen
      split at h
      · rename_i id k
        split at h
        · cases h
        · rename_i hk
          split at h
          · rename_i H' hst
            obtain ⟨hl, hin, hout⟩ := storeC_spec hst
            refine ⟨H', [⟨true, id, ti.size⟩], h, ⟨by omega, fun i hi hn => hout i fun hh => hn (wrote_one.2 (.inl (by omega)))⟩, fun σ Φ w x y hp ho hx hy => ?_⟩
            cases hx with
            | p _ _ b off hb =>
              obtain ⟨hrs, h1⟩ := hy.cells hvs
              have hob : ∀ j, j < vs.length → σ (id + j) = .cell b (off + j) ∧ (∃ old, w.cell? ⟨b, off + j, Option.none⟩ = some old) ∧ w.frozen? ⟨b, off + j, Option.none⟩ = false := fun j hj => by
                obtain ⟨⟨v0, hv0⟩, _⟩ := hin j (vs[j]) (by simp [hj])
                obtain ⟨b', off', u, h1, h2, h3, h4, h5⟩ := ho (id + j) (touched_cons.2 (.inl ⟨by simp, by simp; omega⟩)) _ hv0
                rcases hb j (by omega) with e | e
                · rw [e] at h1
                  injection h1 with e1 e2
                  subst e1; subst e2
                  exact ⟨e, ⟨u, h2⟩, h3⟩
                · rw [e] at h1; cases h1
              have hyl := hrs.1
              obtain ⟨w', hrun, hS⟩ := run_storeCells_any (P := P) b y.cells.toList off 0 w (fun j hj => by rw [Nat.add_zero]; exact (hob j (by omega)).2) h1
              rw [Nat.add_zero] at hS
              refine ⟨σ, Φ, w', by rw [storeAt_run ht _ _ (by omega)]; exact hrun, ?_⟩
              refine (res_storeC hst hp hrs h1 (fun j hj => (hob j hj).1) (fun j hj => (hob j hj).2.2) hS).congr fun i => ?_
              rw [wrote_one, hlen]
              simp [wrote]
          · cases h
      · rename_i id ver j off
        split at h
        · rename_i e t xs ver' ap nz hob
          split at h
          · rename_i hc
            obtain ⟨rfl, hfit, hnc⟩ := hc
            obtain ⟨el, hel, h'⟩ := brO_some h
            split at h'
            · rename_i zel hz
              let rs := vs.flatMap rows1
              have hidr : id ∉ rs := fun hh => by
                have : rs.contains id = true := by rw [List.contains_iff_mem]; exact hh
                rw [this] at hnc
                cases hnc
              have hlt : id < H.length := (List.getElem?_eq_some_iff.1 hob).1
              have hH' : freezeAll (H.set id (.row e t (xs.set j zel) ver true ap nz)) rs = (freezeAll H rs).set id (.row e t (xs.set j zel) ver true ap nz) := set_freeze rs H id _ hidr
              refine ⟨_, ⟨true, id, 1⟩ :: rs.map fun r => ⟨true, r, 1⟩, h', ⟨?_, fun i hi hn => ?_⟩, fun σ Φ w x y hp ho hx hy => ?_⟩
              · rw [hH', List.length_set, freezeAll_length]; exact Nat.le_refl _
              · rw [wrote_one, wrote_rows] at hn
                rw [hH', List.getElem?_set_ne (fun e => hn (.inl (by omega))), freezeAll_ne H rs i fun hh => hn (.inr hh)]
              · cases hx with
                | pr _ _ _ _ ad hh =>
                  obtain ⟨hrs, h1⟩ := hy.cells hvs
                  obtain ⟨σ1, Φ1, hr1, hf1⟩ := res_freeze (rs := rs) hp fun i hi => ho i (touched_cons.2 (.inr ((touched_rows true).2 hi)))
                  have hvz := fz0s_sound hp hr1 hf1 hrs fun i hi => hi
                  have hob1 : ObOk σ1 Φ1 w id (.row e t xs ver true ap nz) := hr1.tr.ob hp hlt hidr (ho id (touched_self _ _ _) _ hob)
                  obtain ⟨v, vals, e1, hov, hrv, h1v, hnz⟩ := row_own hob1 rfl
                  obtain ⟨v', sz, ver2, own', e2, _, e3⟩ := hh
                  have e4 := hr1.tr.eqs id hlt hidr
                  rw [← e4, e1] at e2
                  injection e2 with e5 e6 e7 e8
                  subst e5; subst e6; subst e7
                  obtain ⟨a0, n, cap', e9, hix, rfl⟩ := e3 rfl
                  have hj : j < xs.length := (List.getElem?_eq_some_iff.1 hel).1
                  obtain ⟨hvl, hov⟩ := hov
                  rcases hov with ⟨p, rfl, hn0⟩ | ⟨g, cap, cur, rfl, hcap, hg, hle, hm, hs, htk⟩
                  · omega
                  · injection e9 with e10 e11 e12
                    cases e10
                    have hel' := el_cells hrv hel
                    have hspl := hel'.splice hvz (n := off) (by rw [List.length_map, cellsOf_length]; exact hfit)
                    have hz' := ofCells_R hz hspl
                    have hset := hrv.set_el hz' hj
                    have hyl := hrs.1
                    have hmul : j * t.sz + t.sz ≤ xs.length * t.sz := by rw [← Nat.succ_mul]; exact Nat.mul_le_mul_right _ hj
                    have hmul2 : xs.length * t.sz ≤ cap * t.sz := Nat.mul_le_mul_right _ hle
                    have hrun := run_storeCells_at P g (j * t.sz + off) e y.cells.toList 0 cur w hg (by omega) h1
                    simp only [Nat.add_zero] at hrun
                    have hO := OwnV.write (o := j * t.sz + off) (us := y.cells.toList) hvl hcap hg hle hm hs htk (by omega)
                    have hleq : vals.take (j * t.sz) ++ (((((vals.drop (j * t.sz)).take t.sz).take off) ++ (y.cells.toList ++ ((vals.drop (j * t.sz)).take t.sz).drop (off + y.cells.toList.length))) ++ vals.drop (j * t.sz + t.sz)) =
                        vals.take (j * t.sz + off) ++ (y.cells.toList ++ vals.drop (j * t.sz + off + y.cells.toList.length)) := by
                      exact splice_lists vals y.cells.toList _ _ _ (by omega)
                    rw [hleq] at hset
                    have hlen2 : (xs.set j zel).length = xs.length := List.length_set
                    have h1n : ∀ u ∈ vals.take (j * t.sz + off) ++ (y.cells.toList ++ vals.drop (j * t.sz + off + y.cells.toList.length)), u.oneCell' = true := fun u hu => by
                      rcases List.mem_append.1 hu with hu | hu
                      · exact h1v u (List.mem_of_mem_take hu)
                      · rcases List.mem_append.1 hu with hu | hu
                        · exact h1 u hu
                        · exact h1v u (List.mem_of_mem_drop hu)
                    have hblk : blk (.slice (some ⟨g, 0, Option.none⟩) xs.length cap) = some g := blk_some hcap
                    have hgr := grownBy_setRow (cur.toList.take (j * t.sz + off) ++ y.cells.toList ++ cur.toList.drop (j * t.sz + off + y.cells.toList.length)).toArray hg
                    obtain ⟨σ2, hr2, _⟩ := res_updRow (H := freezeAll H rs) (id := id) (w' := w.setRow g _) (e := e) (t := t) (xs := xs.set j zel) (p := some ⟨g, 0, Option.none⟩) (cap := cap) (ver := ver) (ver' := ver) (mu := true) (ap := ap) (nz := nz)
                      (by rw [freezeAll_length]; exact hlt) hr1.hp e1 (by rw [hblk]; exact hgr) hlen2 hO hset h1n (Nat.le_refl _) (fun _ => rfl) (fun b hb => .inl hb)
                      (fun e => by
                        intro e'
                        have : xs.length = 0 := by rw [← hlen2, e']; rfl
                        omega)
                    refine ⟨σ2, Φ1, _, by rw [storeAt_run ht _ _ (by omega), Nat.zero_add]; exact hrun, ?_⟩
                    rw [hH']
                    refine (Res.trans hr1 hr2 (by rw [freezeAll_length]; exact Nat.le_refl _) fun i hi hn => List.getElem?_set_ne (Ne.symm hn)).congr fun i => ?_
                    rw [wrote_one, wrote_rows, or_comm]
                    exact or_congr (by omega) Iff.rfl
            · cases h'
          · cases h
        · cases h
      · cases h
    · cases h
  · cases h

end Go.AE

/- The operations are sound: variables that are made, structs and arrays that are built. -/
namespace Go.AE

variable {P : Program} {C : Cfg} {ρ : Type}

theorem foldl_set : ∀ (vs : List Value) (cells : Array Value) (off k : Nat), off + k + vs.length ≤ cells.size →
    ((vs.zipIdx k).foldl (fun (cs : Array Value) (p : Value × Nat) => cs.setIfInBounds (off + p.2) p.1) cells).toList = cells.toList.take (off + k) ++ (vs ++ cells.toList.drop (off + k + vs.length))
  | [], cells, off, k, _ => by simp
  | v :: vs, cells, off, k, h => by
    simp only [List.length_cons] at h
    rw [List.zipIdx_cons, List.foldl_cons, foldl_set vs _ off (k + 1) (by simp; omega)]
    have e := list_seg_step cells.toList (off + k) v vs (by simp; omega)
    simp only [Array.toList_setIfInBounds, List.append_assoc] at e ⊢
    have e1 : off + (k + 1) = off + k + 1 := by omega
    rw [e1, List.length_cons]
    simpa using e

theorem fill_step {place : Nat → Option (Nat × Nat)} {cells : Array Value} {i off size : Nat} {v : Value} {rest : List (Nat × Value)} (hp : place i = some (off, size)) (hs : v.cells.size = size) (hf : off + v.cells.size ≤ cells.size) :
    ∃ cells' : Array Value, Instr.fill place cells ((i, v) :: rest) = Instr.fill place cells' rest ∧ cells'.toList = cells.toList.take off ++ (v.cells.toList ++ cells.toList.drop (off + v.cells.size)) := by
  refine ⟨v.cells.zipIdx.foldl (fun cs (c, j) => cs.setIfInBounds (off + j) c) cells, ?_, ?_⟩
  · have hf' : ¬ (cells.size < off + v.cells.size) := by omega
    subst hs
    simp [Instr.fill, hp, hf']
  · have := foldl_set v.cells.toList cells off 0 (by simpa using hf)
    simp only [Nat.add_zero, Array.length_toList] at this
    rw [← this, ← Array.foldl_toList]
    simp [Array.toList_zipIdx]

theorem fillParts_sound (hT : TysOk P C) {σ : Sg} {Φ : Im} {w : World} {a : Act} {tm : List V} {fs : Nat → Option (Nat × Nat)} {place : Nat → Option (Nat × Nat)}
    (hpl : ∀ i off t ti, fs i = some (off, t) → C.ty t = some ti → place i = some (off, ti.size)) :
    ∀ {ps : List (Nat × Operand)} {cs cs' : List V} {cells : Array Value}, fillParts C fs tm cs ps = some cs' → Rs σ Φ w cs cells.toList → (∀ u ∈ cells.toList, u.oneCell' = true) → (∀ p ∈ ps, R σ Φ w (opd tm p.2) (a.eval p.2)) →
      ∃ cells', Instr.fill place cells (ps.map fun p => (p.1, a.eval p.2)) = some cells' ∧ Rs σ Φ w cs' cells'.toList ∧ ∀ u ∈ cells'.toList, u.oneCell' = true
  | [], cs, cs', cells, h, hr, h1, _ => by
    simp only [fillParts, Option.some.injEq] at h
    subst h
    exact ⟨cells, rfl, hr, h1⟩
  | (i, x) :: r, cs, cs', cells, h, hr, h1, hx => by
    simp only [fillParts] at h
    split at h
    · rename_i off t hfs
      split at h
      · rename_i ti vs hti hvs
        split at h
        · rename_i hc
          obtain ⟨hl, hfit⟩ := hc
          have hx0 := hx (i, x) (by simp)
          obtain ⟨hrs, h1c⟩ := hx0.cells hvs
          have hlen := hr.1
          have hlv := hrs.1
          rw [Array.length_toList] at hlen hlv
          obtain ⟨cells1, e1, e2⟩ := fill_step (rest := r.map fun p => (p.1, a.eval p.2)) (hpl i off t ti hfs hti) (hlv.trans hl) (by rw [hlen, hlv]; exact hfit)
          have hr1 : Rs σ Φ w (AE.splice cs off vs) cells1.toList := by
            rw [e2, ← Array.length_toList]
            exact hr.splice hrs hfit
          obtain ⟨cells', e3, h3, h4⟩ := fillParts_sound hT hpl h hr1 (fun u hu => by
            rw [e2] at hu
            rcases List.mem_append.1 hu with hu | hu
            · exact h1 u (List.mem_of_mem_take hu)
            · rcases List.mem_append.1 hu with hu | hu
              · exact h1c u hu
              · exact h1 u (List.mem_of_mem_drop hu)) fun p hp => hx p (List.mem_cons_of_mem _ hp)
          exact ⟨cells', by rw [List.map_cons, e1, e3], h3, h4⟩
        · cases h
      · cases h
    · cases h

theorem zero_cells {T : Nat} {ti : TI} {i : TypeInfo} {d : TypeDesc} {z : Value} (ht : TyOk P T ti i d z) (σ : Sg) (Φ : Im) (w : World) : Rs σ Φ w (ti.zero.map Z.v) z.cells.toList ∧ ∀ u ∈ z.cells.toList, u.oneCell' = true := by
  rw [ht.zs]
  exact Rs_zero ht.oth

theorem evBuild_sound (hT : TysOk P C) {T : Nat} {ps : List (Nat × Operand)} {tm : List V} {K : V → Option ρ} {r : ρ} (h : evBuild C T ps tm K = some r) :
    ∃ v, K v = some r ∧ ∀ (σ : Sg) (Φ : Im) (w : World) (a : Act), (∀ p ∈ ps, R σ Φ w (opd tm p.2) (a.eval p.2)) → ∃ u, (Instr.build T (ps.map fun p => (p.1, a.eval p.2)).toArray).run P w = .ok u w ∧ R σ Φ w v u := by
  unfold evBuild at h
  split at h
  · rename_i fs _ _ z hti
    obtain ⟨i, d, z0, ht⟩ := ty_at hT hti
    obtain ⟨fields, rfl, hfs⟩ := tdOf_struct ht.desc
    split at h
    · rename_i hall
      split at h
      · rename_i cs hcs
        refine ⟨_, h, fun σ Φ w a hx => ?_⟩
        obtain ⟨hz, hz1⟩ := zero_cells ht σ Φ w
        have hplaces : ∀ fl : List Field, (∀ f ∈ fl, (C.ty f.type).isSome = true) → ∃ places, fl.mapM (fun f => (P.info? f.type).map fun i => (f.offset, i.size)) = some places ∧ places.length = fl.length ∧
            ∀ (j : Nat) (f : Field) (ti : TI), fl[j]? = some f → C.ty f.type = some ti → places[j]? = some (f.offset, ti.size) := by
          intro fl
          induction fl with
          | nil => intro _; exact ⟨[], rfl, rfl, fun j f ti h => by simp at h⟩
          | cons f fl ih =>
            intro hf
            obtain ⟨pl, e1, e2, e3⟩ := ih fun f' hf' => hf f' (List.mem_cons_of_mem _ hf')
            have hs := hf f (by simp)
            rw [Option.isSome_iff_exists] at hs
            obtain ⟨tf, htf⟩ := hs
            obtain ⟨i', d', z', ht'⟩ := ty_at hT htf
            refine ⟨(f.offset, i'.size) :: pl, ?_, by simp [e2], fun j f' ti hj hti' => ?_⟩
            · rw [List.mapM_cons, ht'.info]
              simp only [Option.map_some, Option.bind_eq_bind, Option.bind_some, e1, Option.pure_def]
            · cases j with
              | zero =>
                simp at hj
                subst hj
                rw [htf] at hti'
                cases hti'
                simp [ht'.size]
              | succ j => simp at hj ⊢; exact e3 j f' ti hj hti'
        obtain ⟨places, hp1, hp2, hp3⟩ := hplaces fields.toList fun f hf => by
          have := List.all_eq_true.1 hall (f.offset, f.type) (by rw [hfs]; exact List.mem_map.2 ⟨f, hf, rfl⟩)
          exact this
        obtain ⟨cells', e1, e2, e3⟩ := fillParts_sound (place := (places.toArray[·]?)) hT (fun j off t ti hj htj => by
          rw [hfs, List.getElem?_map] at hj
          cases hq : fields.toList[j]? with
          | none => rw [hq] at hj; cases hj
          | some f =>
            rw [hq] at hj
            simp only [Option.map_some, Option.some.injEq, Prod.mk.injEq] at hj
            obtain ⟨rfl, rfl⟩ := hj
            simpa using hp3 j f ti hq htj) hcs hz hz1 hx
        refine ⟨.agg cells', run_build w T _ cells' ?_, ?_⟩
        · simp only [Program.built, ht.info, ht.und, ht.zero, hp1]
          exact e1
        · have := R.agg (σ := σ) (Φ := Φ) (w := w) cs cells'.toList e2.1 e2.2 e3
          simpa using this
      · cases h
    · cases h
  · rename_i n e _ _ z hti
    obtain ⟨i, d, z0, ht⟩ := ty_at hT hti
    have hd := tdOf_arr ht.desc
    subst hd
    split at h
    · rename_i ti hti2
      obtain ⟨i2, d2, z2, ht2⟩ := ty_at hT hti2
      split at h
      · rename_i cs hcs
        refine ⟨_, h, fun σ Φ w a hx => ?_⟩
        obtain ⟨hz, hz1⟩ := zero_cells ht σ Φ w
        obtain ⟨cells', e1, e2, e3⟩ := fillParts_sound (place := fun i => some (i * ti.size, ti.size)) hT (fun j off t ti' hj htj => by
          simp only [Option.some.injEq, Prod.mk.injEq] at hj
          obtain ⟨rfl, rfl⟩ := hj
          rw [hti2] at htj
          cases htj
          rfl) hcs hz hz1 hx
        refine ⟨.agg cells', run_build w T _ cells' ?_, ?_⟩
        · simp only [Program.built, ht.info, ht.und, ht.zero, ht2.info, ← ht2.size]
          exact e1
        · have := R.agg (σ := σ) (Φ := Φ) (w := w) cs cells'.toList e2.1 e2.2 e3
          simpa using this
      · cases h
    · cases h
  · cases h

theorem evBox_sound {v : V} {H : List Ob} {K : V → List Ob → Option ρ} {r : ρ} (h : evBox v H K = some r) :
    ∃ v' H', K v' H' = some r ∧ Fr H [] H' ∧ ∀ (σ : Sg) (Φ : Im) (w : World) (x : Value) (e : TypeId), Hp σ Φ w H.length → R σ Φ w v x →
      ∃ u σ' Φ' w', (Instr.box e x).run P w = .ok u w' ∧ R σ' Φ' w' v' u ∧ Res H.length H'.length H' (wrote []) σ Φ w σ' Φ' w' := by
  unfold evBox at h
  split at h
  · rename_i cs hcs
    refine ⟨_, _, h, Fr.push _ _ _, fun σ Φ w x e hp hx => ?_⟩
    obtain ⟨hr, h1⟩ := hx.cells hcs
    obtain ⟨σ', hres, hR⟩ := res_newCells (e := e) wrote_nil hp hr h1
    rw [Array.toArray_toList] at hres hR
    exact ⟨_, σ', Φ, _, by simp [Instr.box, newVar, newRow], hR, hres⟩
  · cases h

theorem alloc_sound {T : Nat} {ti : TI} {i : TypeInfo} {d : TypeDesc} {z : Value} (ht : TyOk P T ti i d z) {H : List Ob} {σ : Sg} {Φ : Im} {w : World} (hp : Hp σ Φ w H.length) :
    ∃ u σ' Φ' w', (Instr.alloc T true (.tuple #[])).run P w = .ok u w' ∧ R σ' Φ' w' (.p H.length ti.zero.length) u ∧ Res H.length (H ++ ti.zero.map fun z => Ob.c z.v).length (H ++ ti.zero.map fun z => Ob.c z.v) (wrote []) σ Φ w σ' Φ' w' := by
  obtain ⟨hr, h1⟩ := zero_cells ht σ Φ w
  obtain ⟨σ', hres, hR⟩ := res_newCells (e := T) wrote_nil hp hr h1
  rw [Array.toArray_toList] at hres hR
  have e : (ti.zero.map Z.v).map Ob.c = ti.zero.map fun z => Ob.c z.v := by simp [List.map_map, Function.comp_def]
  rw [e] at hres
  rw [List.length_map] at hR
  refine ⟨_, σ', Φ, _, ?_, hR, hres⟩
  simp [Instr.alloc, run_zero ht, newVar, newRow]

end Go.AE
