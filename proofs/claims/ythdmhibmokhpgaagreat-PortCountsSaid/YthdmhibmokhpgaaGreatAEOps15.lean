/- The operations are sound: maps that are made, entries that are laid in. -/
import Derived.Test.YthdmhibmokhpgaaGreatAEOps13
set_option linter.unusedVariables false
set_option linter.unusedSimpArgs false
namespace Go.AE

variable {P : Program} {C : Cfg} {ρ : Type}

def MapOb (ag : Bool) (es : List (Int × List V)) (ob : Ob) : Prop := ob = .map ag es ∨ ∃ t es0, ob = .tmap ag t es0 ∧ es = es0.map fun e => (e.1, cellsOf t e.2)

theorem MapOb.ok {ag : Bool} {es : List (Int × List V)} {ob : Ob} (h : MapOb ag es ob) {σ : Sg} {Φ : Im} {w : World} {id b : Nat} {ms : Array MapEntry} {cl : Nat} (h1 : σ id = .map b) (h2 : w.heap[b]? = some (.map ms cl)) (h3 : EntOk σ Φ w ag es ms.toList) : ObOk σ Φ w id ob := by
  rcases h with rfl | ⟨t, es0, rfl, rfl⟩
  · exact ⟨b, ms, cl, h1, h2, h3⟩
  · exact ⟨b, ms, cl, h1, h2, h3⟩

theorem EntOk.tr {base : Nat} {W : Nat → Prop} {σ σ' : Sg} {Φ Φ' : Im} {w w' : World} (h : Tr base W σ Φ w σ' Φ' w') (hp : Hp σ Φ w base) {ag : Bool} {es : List (Int × List V)} {ms : List MapEntry} (he : EntOk σ Φ w ag es ms) : EntOk σ' Φ' w' ag es ms :=
  ⟨he.1, fun j e m h1 h2 => let ⟨h3, us, h4, h5⟩ := he.2 j e m h1 h2; ⟨h3, us, h.values hp h4, h5⟩⟩

theorem setObj_heap_ne (w : World) (b k : Nat) (o : Obj) (h : k ≠ b) : ({ w with heap := w.heap.setIfInBounds b o } : World).heap[k]? = w.heap[k]? := by
  simp [Array.getElem?_setIfInBounds, Ne.symm h]

theorem res_updMap {H : List Ob} {id b : Nat} {σ : Sg} {Φ : Im} {w : World} {ag : Bool} {es : List (Int × List V)} {ob : Ob} {ms : Array MapEntry} {cl : Nat} (hid : id < H.length) (hp : Hp σ Φ w H.length) (hσ : σ id = .map b) (hO : MapOb ag es ob)
    (hE : EntOk σ Φ w ag es ms.toList) : Res H.length (H.set id ob).length (H.set id ob) (fun i => i = id) σ Φ w σ Φ { w with heap := w.heap.setIfInBounds b (.map ms cl) } := by
  have hb : b < w.heap.size := hp.lt id b 0 (by rw [hσ]; rfl)
  have htr : Tr H.length (fun i => i = id) σ Φ w σ Φ { w with heap := w.heap.setIfInBounds b (.map ms cl) } := {
    os := rfl, tape := rfl, output := rfl, size := by simp,
    keep := fun b' o hb' hn => same.of_heap (setObj_heap_ne w b b' _ fun e => by
      subst e
      refine hn id (.inl rfl) ?_
      rw [hσ]
      rfl) o
    imm := fun _ _ h => h
    immNew := fun _ _ h => .inl h
    later := fun i _ => Lc.later.refl _
    eqs := fun i _ _ => rfl
    cov := fun i b o hc => .inr (.inl ⟨hp.lt_of_covers hc, hc⟩) }
  refine ⟨?_, htr, fun i hi o hoo => ?_⟩
  · rw [List.length_set]
    exact ⟨hp.dom, hp.sep, hp.imm, fun i b o hc => by simpa using hp.lt i b o hc, fun b o hΦ => by simpa using hp.immlt b o hΦ⟩
  · have hi : i = id := by
      rcases hi with h2 | h2
      · exact h2
      · have := (List.getElem?_eq_some_iff.1 hoo).1
        rw [List.length_set] at this
        omega
    subst hi
    rw [List.getElem?_set_self hid] at hoo
    cases hoo
    exact hO.ok (ms := ms) (cl := cl) hσ (by simp [hb]) (EntOk.tr htr hp hE)

theorem makeMap_sound {H : List Ob} {σ : Sg} {Φ : Im} {w : World} {ag : Bool} {ob : Ob} (hp : Hp σ Φ w H.length) (hO : MapOb ag [] ob) (T : TypeId) :
    ∃ u σ' Φ' w', (Instr.makeMap T Option.none).run P w = .ok u w' ∧ R σ' Φ' w' (.m H.length) u ∧ Res H.length (H ++ [ob]).length (H ++ [ob]) (wrote []) σ Φ w σ' Φ' w' := by
  let σ' : Sg := upd σ H.length (.map w.heap.size)
  have hold : ∀ i, i < H.length → σ' i = σ i := fun i hi => by simp only [σ', upd]; rw [if_neg (by omega)]
  have hnew : σ' H.length = .map w.heap.size := by simp [σ', upd]
  have hcov : ∀ i b o, (σ' i).covers b o → (i < H.length ∧ (σ i).covers b o) ∨ (i = H.length ∧ b = w.heap.size) := fun i b o hc => by
    by_cases hi : i = H.length
    · subst hi
      rw [hnew] at hc
      exact .inr ⟨rfl, hc⟩
    · simp only [σ', upd, if_neg hi] at hc
      exact .inl ⟨hp.lt_of_covers hc, hc⟩
  have htr : Tr H.length (wrote []) σ Φ w σ' Φ (w.alloc (.map #[] 0)) := {
    os := rfl, tape := rfl, output := rfl, size := by simp,
    keep := fun b o hb _ => same.of_heap (RowKit.Below.heap_alloc w _ b hb) o
    imm := fun _ _ h => h
    immNew := fun _ _ h => .inl h
    later := fun i hi => by rw [hold i hi]; exact Lc.later.refl _
    eqs := fun i hi _ => hold i hi
    cov := fun i b o hc => by
      rcases hcov i b o hc with h2 | ⟨_, h3⟩
      · exact .inr (.inl h2)
      · exact .inl (by omega) }
  refine ⟨.map (some w.heap.size), σ', Φ, w.alloc (.map #[] 0), by simp [Instr.makeMap], .m _ _ hnew, ⟨?_, htr, fun i hi o hoo => ?_⟩⟩
  · exact {
      dom := fun i hi => by
        simp only [List.length_append, List.length_cons, List.length_nil] at hi
        simp only [σ', upd]
        rw [if_neg (by omega)]
        exact hp.dom i (by omega)
      sep := fun i j b o hi hj => by
        rcases hcov i b o hi with ⟨h2, h3⟩ | ⟨h2, h3⟩ <;> rcases hcov j b o hj with ⟨h6, h7⟩ | ⟨h6, h7⟩
        · exact hp.sep i j b o h3 h7
        · have := hp.lt i b o h3; omega
        · have := hp.lt j b o h7; omega
        · omega
      imm := fun i b o hi hΦ => by
        rcases hcov i b o hi with ⟨h2, h3⟩ | ⟨h2, h3⟩
        · exact hp.imm i b o h3 hΦ
        · have := hp.immlt b o hΦ; omega
      lt := fun i b o hi => by
        rw [World.size_alloc]
        rcases hcov i b o hi with ⟨h2, h3⟩ | ⟨h2, h3⟩
        · have := hp.lt i b o h3; omega
        · omega
      immlt := fun b o hΦ => by
        rw [World.size_alloc]
        have := hp.immlt b o hΦ
        omega }
  · rcases hi with h2 | h2
    · exact absurd h2 (wrote_nil i)
    · have hid : i = H.length := by
        have := (List.getElem?_eq_some_iff.1 hoo).1
        simp only [List.length_append, List.length_cons, List.length_nil] at this
        omega
      subst hid
      rw [List.getElem?_append_right (Nat.le_refl _), Nat.sub_self] at hoo
      cases hoo
      exact hO.ok hnew (heap_new w _) ⟨rfl, fun j e m h => by simp at h⟩

theorem run_mapUpdate_miss {T kt e : Nat} (hu : P.underlying T = some (.map kt e)) {k : IntKind} (hk : P.underlying kt = some (.int k)) {w : World} {b : Nat} {ms : Array MapEntry} {cl : Nat} (hb : w.heap[b]? = some (.map ms cl)) {n : Int}
    (hf : Instr.findNow (.int k) (.int .i64 n) ms.toList 0 = some none) (v : Value) : (Instr.mapUpdate T (.map (some b)) (.int .i64 n) v).run P w = .ok () { w with heap := w.heap.setIfInBounds b (.map (ms.push { key := .int .i64 n, val := v, born := cl }) (cl + 1)) } := by
  have hg : (getObj b).run P w = .ok (.map ms cl) w := by simp [getObj, Sem.run, hb]
  have hfk := run_findKey_of (P := P) hk hf w
  simp only [Instr.mapUpdate, Sem.run_bind, run_underlying' hu, Result.andThen_ok, hg, run_checkKey_int hk, hfk]
  simp [setObj, Sem.run, hb]

theorem run_mapUpdate_hit {T kt e : Nat} (hu : P.underlying T = some (.map kt e)) {k : IntKind} (hk : P.underlying kt = some (.int k)) {w : World} {b : Nat} {ms : Array MapEntry} {cl : Nat} (hb : w.heap[b]? = some (.map ms cl)) {n : Int} {j : Nat} {m : MapEntry}
    (hm : ms[j]? = some m) (hmk : m.key = .int .i64 n) (hf : Instr.findNow (.int k) (.int .i64 n) ms.toList 0 = some (some (j, m.val))) (v : Value) :
    (Instr.mapUpdate T (.map (some b)) (.int .i64 n) v).run P w = .ok () { w with heap := w.heap.setIfInBounds b (.map (ms.modify j fun e => { e with key := .int .i64 n, val := v }) cl) } := by
  have hg : (getObj b).run P w = .ok (.map ms cl) w := by simp [getObj, Sem.run, hb]
  have hfk := run_findKey_of (P := P) hk hf w
  have hsb : Instr.sameBits 10000 (.int .i64 n) (.int .i64 n) = true := by simp [Instr.sameBits]
  simp only [Instr.mapUpdate, Sem.run_bind, run_underlying' hu, Result.andThen_ok, hg, run_checkKey_int hk, hfk, hm, Option.map_some, Option.getD_some, hmk, Instr.keyThatStays, hsb, if_true, Sem.run_pure]
  simp [setObj, Sem.run, hb]

theorem EntOk.push {σ : Sg} {Φ : Im} {w : World} {ag : Bool} {es : List (Int × List V)} {ms : List MapEntry} (h : EntOk σ Φ w ag es ms) {n : Int} {l : List V} {us : List Value} {m : MapEntry} (hk : m.key = .int .i64 n) (hr : Rs σ Φ w l us) (h1 : ∀ u ∈ us, u.oneCell' = true)
    (ha : ag = true → m.val = .agg us.toArray) (hs : ag = false → us = [m.val]) : EntOk σ Φ w ag (es ++ [(n, l)]) (ms ++ [m]) :=
  ⟨by simp [h.1], fun j e m' he hm => by
    by_cases hj : j < es.length
    · rw [List.getElem?_append_left hj] at he
      rw [List.getElem?_append_left (by rw [h.1]; exact hj)] at hm
      exact h.2 j e m' he hm
    · rw [List.getElem?_append_right (by omega)] at he
      rw [List.getElem?_append_right (by rw [h.1]; omega), h.1] at hm
      have hj0 : j - es.length = 0 := by
        have := (List.getElem?_eq_some_iff.1 he).1
        simp at this
        omega
      rw [hj0] at he hm
      simp at he hm
      subst he; subst hm
      exact ⟨hk, us, hr, h1, ha, hs⟩⟩

theorem EntOk.put {σ : Sg} {Φ : Im} {w : World} {ag : Bool} {es : List (Int × List V)} {ms : List MapEntry} (h : EntOk σ Φ w ag es ms) {n : Int} {j : Nat} {l : List V} {us : List Value} (f : MapEntry → MapEntry) (hk : ∀ m, (f m).key = .int .i64 n) (hr : Rs σ Φ w l us) (h1 : ∀ u ∈ us, u.oneCell' = true)
    (ha : ∀ m, ag = true → (f m).val = .agg us.toArray) (hs : ∀ m, ag = false → us = [(f m).val]) : EntOk σ Φ w ag (es.set j (n, l)) (ms.modify j f) :=
  ⟨by simp [h.1], fun i e m' he hm => by
    by_cases hij : j = i
    · subst hij
      have hj : j < es.length := by
        have := (List.getElem?_eq_some_iff.1 he).1
        simpa using this
      rw [List.getElem?_set_self hj] at he
      rw [List.getElem?_modify] at hm
      cases hq : ms[j]? with
      | none => rw [hq] at hm; simp at hm
      | some m0 =>
        rw [hq] at hm
        simp at hm he
        subst he; subst hm
        exact ⟨hk m0, us, hr, h1, ha m0, hs m0⟩
    · rw [List.getElem?_set_ne hij] at he
      rw [List.getElem?_modify] at hm
      simp [hij] at hm
      exact h.2 i e m' he hm⟩

theorem agg_cells {σ : Sg} {Φ : Im} {w : World} {v : V} {u : Value} {l : List V} (h : R σ Φ w v u) (hc : cellsV v = some l) : (isAggA v = true → u = .agg u.cells.toList.toArray) ∧ (isAggA v = false → u.cells.toList = [u]) := by
  cases h with
  | agg cs us hl hr h1 => exact ⟨fun _ => by simp [Value.cells], fun e => by cases e⟩
  | u => cases hc
  | und => cases hc
  | tup => cases hc
  | _ => exact ⟨fun e => (by cases e), fun _ => rfl⟩

theorem evInsert_sound (hT : TysOk P C) {T : Nat} {m k v : V} {H : List Ob} {lg : Lg} {K : List Ob → Lg → Option ρ} {r : ρ} (h : evInsert C T m k v H lg K = some r) :
    ∃ H' l, K H' (l ++ lg) = some r ∧ Fr H l H' ∧
      ∀ (σ : Sg) (Φ : Im) (w : World) (a b c : Value), Hp σ Φ w H.length → ObsOk σ Φ w H (touched l) → R σ Φ w m a → R σ Φ w k b → R σ Φ w v c →
        ∃ σ' Φ' w', (Instr.mapUpdate T a b c).run P w = .ok () w' ∧ Res H.length H'.length H' (wrote l) σ Φ w σ' Φ' w' := by
  unfold evInsert at h
  split at h
  · rename_i kt e _ _ _ id n l hti hcv
    obtain ⟨i, d, z, ht⟩ := ty_at hT hti
    have hd := tdOf_map ht.desc
    subst hd
    split at h
    · rename_i kk _ _ _ ti ag es hkt hte hob
      obtain ⟨ik, dk, zk, htk⟩ := ty_at hT hkt
      have hdk := tdOf_int htk.desc
      subst hdk
      split at h
      · rename_i hc
        obtain ⟨hag, hav⟩ := hc
        rcases mapGet_some h with ⟨j, x, hf, h'⟩ | ⟨hf, h'⟩
        · cases h'
        · have hlt : id < H.length := (List.getElem?_eq_some_iff.1 hob).1
          refine ⟨_, [⟨true, id, 1⟩], h', ⟨by simp, fun i hi hn => List.getElem?_set_ne fun e => hn (wrote_one.2 (.inl (by omega)))⟩, fun σ Φ w a b c hp ho ha hb hcc => ?_⟩
          obtain ⟨bb, ms, cl, e1, e2, e3⟩ := ho id (touched_self _ _ _) _ hob
          obtain ⟨hrs, h1⟩ := hcc.cells hcv
          have hac := agg_cells hcc hcv
          cases ha with
          | m _ b' e4 =>
            rw [e1] at e4
            cases e4
            cases hb with
            | i =>
              refine ⟨σ, Φ, _, run_mapUpdate_miss ht.und htk.und e2 (ent_miss e3 hf kk) c, ?_⟩
              refine (res_updMap hlt hp e1 (.inl rfl) ?_).congr fun i => ?_
              · rw [Array.toList_push]
                exact e3.push rfl hrs h1 (fun e => hac.1 (by rw [← hav, e])) (fun e => hac.2 (by rw [← hav, e]))
              · rw [wrote_one]
                constructor
                · rintro rfl; exact .inl (by omega)
                · rintro (h5 | h5)
                  · omega
                  · exact absurd h5 (wrote_nil i)
      · cases h
    · rename_i kk _ _ _ ti ag t es hkt hte hob
      obtain ⟨ik, dk, zk, htk⟩ := ty_at hT hkt
      have hdk := tdOf_int htk.desc
      subst hdk
      split at h
      · rename_i hc
        obtain ⟨hag, hav, hnc⟩ := hc
        split at h
        · rename_i x hx
          let rs := l.flatMap rows1
          have hidr : id ∉ rs := fun hh => by
            have : rs.contains id = true := by rw [List.contains_iff_mem]; exact hh
            rw [this] at hnc
            cases hnc
          have hlt : id < H.length := (List.getElem?_eq_some_iff.1 hob).1
          have hH' : freezeAll (H.set id (.tmap ag t (tmapSet n x es))) rs = (freezeAll H rs).set id (.tmap ag t (tmapSet n x es)) := set_freeze rs H id _ hidr
          refine ⟨_, ⟨true, id, 1⟩ :: rs.map fun r => ⟨true, r, 1⟩, h, ⟨?_, fun i hi hn => ?_⟩, fun σ Φ w a b c hp ho ha hb hcc => ?_⟩
          · rw [hH', List.length_set, freezeAll_length]; exact Nat.le_refl _
          · rw [wrote_one, wrote_rows] at hn
            rw [hH', List.getElem?_set_ne (fun e => hn (.inl (by omega))), freezeAll_ne H rs i fun hh => hn (.inr hh)]
          · obtain ⟨hrs, h1⟩ := hcc.cells hcv
            have hac := agg_cells hcc hcv
            obtain ⟨σ1, Φ1, hr1, hf1⟩ := res_freeze (rs := rs) hp fun i hi => ho i (touched_cons.2 (.inr ((touched_rows true).2 hi)))
            have hvz := ofCells_R hx (fz0s_sound hp hr1 hf1 hrs fun i hi => hi)
            have hob1 : ObOk σ1 Φ1 w id (.tmap ag t es) := hr1.tr.ob hp hlt hidr (ho id (touched_self _ _ _) _ hob)
            have e4 := hr1.tr.eqs id hlt hidr
            obtain ⟨bb, ms, cl, e1, e2, e3⟩ := hob1
            cases ha with
            | m _ b' e5 =>
              rw [← e4, e1] at e5
              cases e5
              cases hb with
              | i =>
                have fin : ∀ (ms' : Array MapEntry) (cl' : Nat), (Instr.mapUpdate T (.map (some bb)) (.int .i64 n) c).run P w = .ok () { w with heap := w.heap.setIfInBounds bb (.map ms' cl') } → EntOk σ1 Φ1 w ag ((tmapSet n x es).map fun e => (e.1, cellsOf t e.2)) ms'.toList →
                    ∃ σ' Φ' w', (Instr.mapUpdate T (.map (some bb)) (.int .i64 n) c).run P w = .ok () w' ∧ Res H.length (freezeAll (H.set id (.tmap ag t (tmapSet n x es))) rs).length (freezeAll (H.set id (.tmap ag t (tmapSet n x es))) rs) (wrote (⟨true, id, 1⟩ :: rs.map fun r => ⟨true, r, 1⟩)) σ Φ w σ' Φ' w' := by
                  intro ms' cl' hrun hE
                  have hr2 := res_updMap (H := freezeAll H rs) (id := id) (ob := .tmap ag t (tmapSet n x es)) (cl := cl') (by rw [freezeAll_length]; exact hlt) hr1.hp e1 (.inr ⟨t, _, rfl, rfl⟩) hE
                  refine ⟨σ1, Φ1, _, hrun, ?_⟩
                  rw [hH']
                  refine (Res.trans hr1 hr2 (by rw [freezeAll_length]; exact Nat.le_refl _) fun i hi hn => List.getElem?_set_ne (Ne.symm hn)).congr fun i => ?_
                  rw [wrote_one, wrote_rows, or_comm]
                  exact or_congr (by omega) Iff.rfl
                rcases tmapGet_spec (n := n) es with ⟨j, x0, hf, _, hset⟩ | ⟨hf, _, hset⟩
                · have hf' : FirstAt n (es.map fun e => (e.1, cellsOf t e.2)) j (cellsOf t x0) := ⟨by rw [List.getElem?_map, hf.1]; rfl, fun i hi e he => by
                    rw [List.getElem?_map] at he
                    cases hq : es[i]? with
                    | none => rw [hq] at he; cases he
                    | some e' => rw [hq] at he; cases he; exact hf.2 i hi e' hq⟩
                  obtain ⟨m, us, h2, h3, h4, h5, h6, h7, h8⟩ := ent_hit e3 hf' kk
                  refine fin _ _ (run_mapUpdate_hit ht.und htk.und e2 (by simpa using h2) h3 h8 c) ?_
                  rw [hset, List.map_set, Array.toList_modify]
                  exact e3.put _ (fun _ => rfl) hvz h1 (fun _ e => hac.1 (by rw [← hav, e])) (fun _ e => hac.2 (by rw [← hav, e]))
                · have hmiss : ∀ e ∈ es.map (fun e => (e.1, cellsOf t e.2)), e.1 ≠ n := fun e he => by
                    obtain ⟨e', h1, rfl⟩ := List.mem_map.1 he
                    exact hf e' h1
                  refine fin _ _ (run_mapUpdate_miss ht.und htk.und e2 (ent_miss e3 hmiss kk) c) ?_
                  rw [hset, List.map_append, Array.toList_push]
                  exact e3.push rfl hvz h1 (fun e => hac.1 (by rw [← hav, e])) (fun e => hac.2 (by rw [← hav, e]))
        · cases h
      · cases h
    · cases h
  · cases h

end Go.AE

/- Each operation is sound. -/
namespace Go.AE

variable {P : Program} {C : Cfg} {ρ : Type}

/-- A function that can be entered. -/
def Enter (P : Program) (g : Nat) : Prop := ∃ fn, P.funcs[g]? = some fn ∧ fn.body.isNone = false ∧ fn.name ≠ "runtime.NumGoroutine"

theorem run_callFunc_enter {g : Nat} (h : Enter P g) (args : Array Value) (w : World) : (callFunc g args).run P w = .ok (.enter g args) w := by
  obtain ⟨fn, h1, h2, h3⟩ := h
  have h4 : (fn.name == "runtime.NumGoroutine") = false := by simp [h3]
  simp only [callFunc, Sem.run_bind, run_program, Result.andThen_ok, h1, h4, h2]
  rfl

/-- A call does as is told. -/
def CallSem (P : Program) (g : Nat) (args : List V) (H : List Ob) (v : V) (H' : List Ob) (l : Lg) : Prop :=
  Enter P g ∧ ∀ (σ : Sg) (Φ : Im) (w : World) (us : List Value), Hp σ Φ w H.length → ObsOk σ Φ w H (touched l) → Rs σ Φ w args us →
    Calls P g us.toArray w fun e w' => ∃ u σ' Φ', e = .returned u ∧ R σ' Φ' w' v u ∧ Res H.length H'.length H' (wrote l) σ Φ w σ' Φ' w'

def CallOk (P : Program) (call : CallK ρ) : Prop := ∀ g args H lg (K : V → List Ob → Lg → Option ρ) r, call g args H lg K = some r →
  ∃ v H' l, K v H' (l ++ lg) = some r ∧ Fr H l H' ∧ CallSem P g args H v H' l

theorem R_ofVal1 {σ : Sg} {Φ : Im} {w : World} (c : Value) : R σ Φ w (ofVal1 c) c := by
  unfold ofVal1
  split
  · exact .b _
  · split
    · exact .i _ _
    · exact .u _
  · split
    · rename_i s _
      have : s = ⟨s.data.toList.toArray⟩ := by cases s; simp
      conv => arg 5; rw [this]
      exact .s _
    · exact .u _
  · exact .pnil
  · exact .nils
  · exact .fnil
  · exact .ifnil
  · exact .mnil
  · exact .u _

theorem R_ofVal {σ : Sg} {Φ : Im} {w : World} (c : Value) : R σ Φ w (ofVal c) c := by
  unfold ofVal
  split
  · rename_i cs
    split
    · rename_i hall
      have := R.agg (σ := σ) (Φ := Φ) (w := w) (cs.toList.map ofVal1) cs.toList (by simp) (fun j v u h1 h2 => by
        rw [List.getElem?_map, h2] at h1
        simp at h1
        subst h1
        exact R_ofVal1 u) (fun u hu => List.all_eq_true.1 hall u hu)
      simpa using this
    · exact .u _
  · exact R_ofVal1 _

/-- The operands are told, if the temporaries are. -/
theorem R_opd {σ : Sg} {Φ : Im} {w : World} {tm : List V} {a : Act} {x : Operand} (h : ∀ t, x = .tmp t → R σ Φ w (tm.getD t .und) (a.tmps.getD t undef)) : R σ Φ w (opd tm x) (a.eval x) := by
  cases x with
  | tmp t =>
    simp only [opd, getR_eq]
    exact h t rfl
  | const c => exact R_ofVal c
  | global g => exact .u _
  | func f => exact .f (.func f) [] [] [] [] rfl rfl (fun _ _ _ h => by simp at h) (fun _ _ _ h => by simp at h)

theorem Rs_map {σ : Sg} {Φ : Im} {w : World} {tm : List V} {a : Act} {xs : List Operand} (h : ∀ x ∈ xs, R σ Φ w (opd tm x) (a.eval x)) : Rs σ Φ w (xs.map (opd tm)) (xs.map a.eval) :=
  ⟨by simp, fun j v u h1 h2 => by
    rw [List.getElem?_map] at h1 h2
    cases hq : xs[j]? with
    | none => rw [hq] at h1; cases h1
    | some x =>
      rw [hq] at h1 h2
      cases h1; cases h2
      exact h x (List.mem_of_getElem? hq)⟩

theorem evCallF_sound_stub : True := trivial

/-- What the tables promise of calls. -/
structure CallsOk (P : Program) (C : Cfg) (call : CallK ρ) : Prop where
  eqs : ∀ T, C.eqs.contains T = true → EqOk P T
  callF : ∀ g args H lg (K : V → List Ob → Lg → Option ρ) r, evCallF C call g args H lg K = some r → ∃ v H' l, K v H' (l ++ lg) = some r ∧ Fr H l H' ∧ CallSem P g args H v H' l

theorem run_v {s : Sem Value} {w w' : World} {u : Value} (h : s.run P w = .ok u w') : (do pure (Next.value (← s)) : Sem Next).run P w = .ok (.value u) w' := by
  simp [h]

theorem run_u {s : Sem Unit} {w w' : World} (h : s.run P w = .ok () w') : (do s; pure Next.skip : Sem Next).run P w = .ok .skip w' := by
  simp [h]

theorem sameOpd_eq {a b : Operand} (h : sameOpd a b = true) : a = b := by
  cases a <;> cases b <;> simp [sameOpd] at h
  rw [h]

theorem evOp_sound (hT : TysOk P C) {call : CallK ρ} (hC : CallsOk P C call) {o : Oper} {tm : List V} {H : List Ob} {lg : Lg} {K : V → List Ob → Lg → Option ρ} {r : ρ} (h : evOp C call o tm H lg K = some r) :
    ∃ v H' l, K v H' (l ++ lg) = some r ∧ Fr H l H' ∧ OpSem P o tm H v H' l := by
  have rd : ∀ {v : V} {l : Lg}, K v H (l ++ lg) = some r → (∀ id, ¬ wrote l id) → (∀ (σ : Sg) (Φ : Im) (w : World) (a : Act), Hp σ Φ w H.length → ObsOk σ Φ w H (touched l) → (∀ x ∈ o.op.operands.toList, R σ Φ w (opd tm x) (a.eval x)) → ∃ u, (execOp a.eval o).run P w = .ok (.value u) w ∧ R σ Φ w v u) →
      ∃ v H' l, K v H' (l ++ lg) = some r ∧ Fr H l H' ∧ OpSem P o tm H v H' l := fun h1 hl h2 => ⟨_, H, _, h1, Fr.refl _ _, OpSem.read hl h2⟩
  cases hop : o.op with
  | move x =>
    simp only [evOp, hop] at h
    exact rd (l := []) h wrote_nil fun σ Φ w a hp ho hx => ⟨_, by simp only [execOp, hop]; rfl, hx x (by simp [hop, Op.operands])⟩
  | assign x =>
    simp only [evOp, hop] at h
    exact rd (l := []) h wrote_nil fun σ Φ w a hp ho hx => ⟨_, by simp only [execOp, hop]; rfl, hx x (by simp [hop, Op.operands])⟩
  | pick c x y =>
    simp only [evOp, hop] at h
    split at h
    · rename_i b hb
      rcases brB_some h with ⟨rfl, h'⟩ | ⟨rfl, h'⟩
      · refine rd (l := []) h' wrote_nil fun σ Φ w a hp ho hx => ⟨_, ?_, hx x (by simp [hop, Op.operands])⟩
        have hc := hx c (by simp [hop, Op.operands])
        rw [hb] at hc
        generalize hq : a.eval c = q at hc
        cases hc
        simp [execOp, hop, hq, asBool]
      · refine rd (l := []) h' wrote_nil fun σ Φ w a hp ho hx => ⟨_, ?_, hx y (by simp [hop, Op.operands])⟩
        have hc := hx c (by simp [hop, Op.operands])
        rw [hb] at hc
        generalize hq : a.eval c = q at hc
        cases hc
        simp [execOp, hop, hq, asBool]
    · cases h
  | alloc e =>
    simp only [evOp, hop] at h
    split at h
    · rename_i ti hti
      obtain ⟨i, d, z, ht⟩ := ty_at hT hti
      refine ⟨_, _, [], h, Fr.push _ _ _, OpSem.run fun σ Φ w a hp ho hx => ?_⟩
      obtain ⟨u, σ', Φ', w', h1, h2, h3⟩ := alloc_sound (P := P) ht hp
      exact ⟨u, σ', Φ', w', by simp only [execOp, hop]; exact run_v h1, h2, h3⟩
    · cases h
  | box e x =>
    simp only [evOp, hop] at h
    obtain ⟨v, H', h1, h2, h3⟩ := evBox_sound (P := P) h
    refine ⟨v, H', [], h1, h2, OpSem.run fun σ Φ w a hp ho hx => ?_⟩
    obtain ⟨u, σ', Φ', w', h4, h5, h6⟩ := h3 σ Φ w (a.eval x) e hp (hx x (by simp [hop, Op.operands]))
    exact ⟨u, σ', Φ', w', by simp only [execOp, hop]; exact run_v h4, h5, h6⟩
  | build t ps =>
    simp only [evOp, hop] at h
    obtain ⟨v, h1, h2⟩ := evBuild_sound hT h
    refine rd (l := []) h1 wrote_nil fun σ Φ w a hp ho hx => ?_
    obtain ⟨u, h3, h4⟩ := h2 σ Φ w a fun p hp => hx p.2 (by simp only [hop, Op.operands, List.mem_map]; exact ⟨p, hp, rfl⟩)
    refine ⟨u, ?_, h4⟩
    simp only [execOp, hop]
    refine run_v ?_
    rw [← h3]
    congr 2
    apply Array.ext'
    simp
  | buildSlice t len ps =>
    simp only [evOp, hop] at h
    obtain ⟨v, H', l, h1, h2, h3⟩ := evBuildSlice_sound hT h
    refine ⟨v, H', l, h1, h2, OpSem.run fun σ Φ w a hp ho hx => ?_⟩
    obtain ⟨u, σ', Φ', w', h4, h5, h6⟩ := h3 σ Φ w a hp ho fun p hp => hx p.2 (by simp only [hop, Op.operands, List.mem_map]; exact ⟨p, hp, rfl⟩)
    refine ⟨u, σ', Φ', w', ?_, h5, h6⟩
    simp only [execOp, hop]
    refine run_v ?_
    rw [← h4]
    congr 2
    apply Array.ext'
    simp
  | insert t m k x =>
    simp only [evOp, hop] at h
    obtain ⟨H', l, h1, h2, h3⟩ := evInsert_sound hT h
    refine ⟨_, H', l, h1, h2, OpSem.skip fun σ Φ w a hp ho hx => ?_⟩
    obtain ⟨σ', Φ', w', h4, h5⟩ := h3 σ Φ w (a.eval m) (a.eval k) (a.eval x) hp ho (hx m (by simp [hop, Op.operands])) (hx k (by simp [hop, Op.operands])) (hx x (by simp [hop, Op.operands]))
    exact ⟨σ', Φ', w', by simp only [execOp, hop]; exact run_u h4, h5⟩
  | mapUpdate t m k x =>
    simp only [evOp, hop] at h
    obtain ⟨H', l, h1, h2, h3⟩ := evInsert_sound hT h
    refine ⟨_, H', l, h1, h2, OpSem.skip fun σ Φ w a hp ho hx => ?_⟩
    obtain ⟨σ', Φ', w', h4, h5⟩ := h3 σ Φ w (a.eval m) (a.eval k) (a.eval x) hp ho (hx m (by simp [hop, Op.operands])) (hx k (by simp [hop, Op.operands])) (hx x (by simp [hop, Op.operands]))
    exact ⟨σ', Φ', w', by simp only [execOp, hop]; exact run_u h4, h5⟩
  | makeMap t rr =>
    cases rr with
    | some x => simp [evOp, hop] at h
    | none =>
      simp only [evOp, hop] at h
      split at h
      · split at h
        · rename_i ti _
          have key : ∀ {ob : Ob}, MapOb (AE.isAgg ti.d) [] ob → K (.m H.length) (H ++ [ob]) lg = some r → ∃ v H' l, K v H' (l ++ lg) = some r ∧ Fr H l H' ∧ OpSem P o tm H v H' l := fun hO hk => by
            refine ⟨_, _, [], hk, Fr.push _ _ _, OpSem.run fun σ Φ w a hp ho hx => ?_⟩
            obtain ⟨u, σ', Φ', w', h4, h5, h6⟩ := makeMap_sound (P := P) hp hO t
            exact ⟨u, σ', Φ', w', by simp only [execOp, hop]; exact run_v h4, h5, h6⟩
          split at h
          · exact key (.inr ⟨_, [], rfl, rfl⟩) h
          · exact key (.inl rfl) h
        · cases h
      · cases h
  | makeInterface t x => simp [evOp, hop] at h
  | load t x =>
    simp only [evOp, hop] at h
    obtain ⟨v, l, h1, hl, hs⟩ := evLoad_sound hT h
    refine rd h1 hl fun σ Φ w a hp ho hx => ?_
    obtain ⟨u, h2, h3⟩ := hs σ Φ w _ ho (hx x (by simp [hop, Op.operands]))
    exact ⟨u, by simp only [execOp, hop]; exact run_v h2, h3⟩
  | store t x y =>
    simp only [evOp, hop] at h
    obtain ⟨H', l, h1, h2, h3⟩ := evStore_sound hT h
    refine ⟨_, H', l, h1, h2, OpSem.skip fun σ Φ w a hp ho hx => ?_⟩
    obtain ⟨σ', Φ', w', h4, h5⟩ := h3 σ Φ w (a.eval x) (a.eval y) hp ho (hx x (by simp [hop, Op.operands])) (hx y (by simp [hop, Op.operands]))
    exact ⟨σ', Φ', w', by simp only [execOp, hop]; exact run_u h4, h5⟩
  | nilCheck x =>
    simp only [evOp, hop] at h
    split at h
    all_goals first
      | (cases h; done)
      | (rename_i hq
         refine rd (l := []) h wrote_nil fun σ Φ w a hp ho hx => ?_
         have hc := hx x (by simp [hop, Op.operands])
         rw [hq] at hc
         refine ⟨a.eval x, ?_, hc⟩
         generalize hu : a.eval x = u at hc
         cases hc
         simp [execOp, hop, hu])
  | binOp op T x y yt =>
    simp only [evOp, hop] at h
    obtain ⟨v, h1, h2⟩ := evBin_sound hT hC.eqs h
    refine rd (l := []) h1 wrote_nil fun σ Φ w a hp ho hx => ?_
    obtain ⟨u, h3, h4⟩ := h2 σ Φ w _ _ x y (hx x (by simp [hop, Op.operands])) (hx y (by simp [hop, Op.operands]))
    exact ⟨u, by simp only [execOp, hop]; exact run_v h3, h4⟩
  | unOp op T x =>
    simp only [evOp, hop] at h
    obtain ⟨v, h1, h2⟩ := evUn_sound (P := P) h
    refine rd (l := []) h1 wrote_nil fun σ Φ w a hp ho hx => ?_
    obtain ⟨u, h3, h4⟩ := h2 σ Φ w _ (hx x (by simp [hop, Op.operands]))
    exact ⟨u, by simp only [execOp, hop]; exact run_v h3, h4⟩
  | convert s d x =>
    simp only [evOp, hop] at h
    obtain ⟨v, h1, h2⟩ := evConvert_sound hT h
    refine rd (l := []) h1 wrote_nil fun σ Φ w a hp ho hx => ?_
    obtain ⟨u, h3, h4⟩ := h2 σ Φ w _ (hx x (by simp [hop, Op.operands]))
    exact ⟨u, by simp only [execOp, hop]; exact run_v h3, h4⟩
  | makeFunc fn fs cs =>
    simp only [evOp, hop] at h
    refine rd (l := []) h wrote_nil fun σ Φ w a hp ho hx => ?_
    have h1 := Rs_map (σ := σ) (Φ := Φ) (w := w) (tm := tm) (a := a) (xs := fs.toList) fun x hx' => hx x (by simp [hop, Op.operands]; exact .inl (by simpa using hx'))
    have h2 := Rs_map (σ := σ) (Φ := Φ) (w := w) (tm := tm) (a := a) (xs := cs.toList) fun x hx' => hx x (by simp [hop, Op.operands]; exact .inr (by simpa using hx'))
    refine ⟨_, ?_, .f fn _ _ _ _ h1.1 h2.1 h1.2 h2.2⟩
    simp only [execOp, hop]
    refine run_v ?_
    simp only [Instr.makeFunc, Sem.run_pure]
    congr 2 <;> (apply Array.ext'; simp)
  | sliceToArrayPointer t x =>
    simp only [evOp, hop] at h
    split at h
    · rename_i n e _ _ _ id len esz hti hq
      obtain ⟨i, d, z, ht⟩ := ty_at hT hti
      have hd := tdOf_arr ht.desc
      subst hd
      split at h
      · rename_i hc
        obtain ⟨hn, h0, he⟩ := hc
        refine rd (l := []) h wrote_nil fun σ Φ w a hp ho hx => ?_
        have hc := hx x (by simp [hop, Op.operands])
        rw [hq] at hc
        generalize hu : a.eval x = u at hc
        cases hc with
        | cs _ _ _ p cap hcap hh =>
          have hnl : ¬ len < n := by omega
          have hrun : (execOp a.eval o).run P w = .ok (.value (.pointer p)) w := by
            simp [execOp, hop, hu, Instr.arrayAt, run_underlying ht.und, hnl]
          refine ⟨_, hrun, ?_⟩
          obtain ⟨b, off, e1, _⟩ := hh 0 (Nat.mul_pos (by omega) he)
          subst e1
          exact .p _ _ _ _ fun j hj => by
            obtain ⟨b1, off1, e2, h3⟩ := hh j hj
            cases e2
            exact h3
      · cases h
    · cases h
  | makeSlice t x y =>
    simp only [evOp, hop] at h
    split at h
    · rename_i hs
      have hs := sameOpd_eq hs
      subst hs
      obtain ⟨v, H', h1, h2, h3⟩ := evMake_sound hT h
      refine ⟨v, H', [], h1, h2, OpSem.run fun σ Φ w a hp ho hx => ?_⟩
      obtain ⟨u, σ', Φ', w', h4, h5, h6⟩ := h3 σ Φ w (a.eval x) hp (hx x (by simp [hop, Op.operands]))
      exact ⟨u, σ', Φ', w', by simp only [execOp, hop]; exact run_v h4, h5, h6⟩
    · cases h
  | slice t x lo hi mx =>
    simp only [evOp, hop] at h
    obtain ⟨v, l, h1, hl, hs⟩ := evSlice_sound hT h
    refine rd h1 hl fun σ Φ w a hp ho hx => ?_
    have opt : ∀ (y : Option Operand), (∀ z, y = some z → z ∈ o.op.operands.toList) → OptR σ Φ w (y.map (opd tm)) (y.map a.eval) := fun y hy => ⟨by cases y <;> simp, fun v u h1 h2 => by
      cases y with
      | none => cases h1
      | some z => cases h1; cases h2; exact hx z (hy z rfl)⟩
    obtain ⟨u, h2, h3⟩ := hs σ Φ w _ (lo.map a.eval) (hi.map a.eval) (mx.map a.eval) ho (hx x (by simp [hop, Op.operands])) (opt lo fun z hz => by simp [hop, Op.operands, hz]) (opt hi fun z hz => by simp [hop, Op.operands, hz]) (opt mx fun z hz => by simp [hop, Op.operands, hz])
    exact ⟨u, by simp only [execOp, hop]; exact run_v h2, h3⟩
  | fieldAddr t x fd =>
    simp only [evOp, hop] at h
    split at h
    · rename_i v hv
      refine rd (l := []) h wrote_nil fun σ Φ w a hp ho hx => ?_
      obtain ⟨u, h2, h3⟩ := evFieldAddr_sound hT hv σ Φ w _ (hx x (by simp [hop, Op.operands]))
      exact ⟨u, by simp only [execOp, hop]; exact run_v h2, h3⟩
    · cases h
  | field t x fd =>
    simp only [evOp, hop] at h
    split at h
    · rename_i v hv
      refine rd (l := []) h wrote_nil fun σ Φ w a hp ho hx => ?_
      obtain ⟨u, h2, h3⟩ := evField_sound hT hv σ Φ w _ (hx x (by simp [hop, Op.operands]))
      exact ⟨u, by simp only [execOp, hop]; exact run_v h2, h3⟩
    · cases h
  | indexAddr t x ix =>
    simp only [evOp, hop] at h
    obtain ⟨v, l, h1, hl, hs⟩ := evIndexAddr_sound hT h
    refine rd h1 hl fun σ Φ w a hp ho hx => ?_
    obtain ⟨u, h2, h3⟩ := hs σ Φ w _ _ ho (hx x (by simp [hop, Op.operands])) (hx ix (by simp [hop, Op.operands]))
    exact ⟨u, by simp only [execOp, hop]; exact run_v h2, h3⟩
  | index t x ix =>
    simp only [evOp, hop] at h
    obtain ⟨v, h1, hs⟩ := evIndex_sound hT h
    refine rd (l := []) h1 wrote_nil fun σ Φ w a hp ho hx => ?_
    obtain ⟨u, h2, h3⟩ := hs σ Φ w _ _ (hx x (by simp [hop, Op.operands])) (hx ix (by simp [hop, Op.operands]))
    exact ⟨u, by simp only [execOp, hop]; exact run_v h2, h3⟩
  | lookup t m k ok =>
    simp only [evOp, hop] at h
    obtain ⟨v, l, h1, hl, hs⟩ := evLookup_sound hT h
    refine rd h1 hl fun σ Φ w a hp ho hx => ?_
    obtain ⟨u, h2, h3⟩ := hs σ Φ w _ _ ho (hx m (by simp [hop, Op.operands])) (hx k (by simp [hop, Op.operands]))
    exact ⟨u, by simp only [execOp, hop]; exact run_v h2, h3⟩
  | extract x ix =>
    simp only [evOp, hop] at h
    split at h
    · rename_i vs hq
      split at h
      · rename_i v hv
        refine rd (l := []) h wrote_nil fun σ Φ w a hp ho hx => ?_
        have hc := hx x (by simp [hop, Op.operands])
        rw [hq] at hc
        generalize hu : a.eval x = u at hc
        cases hc with
        | tup _ us hl hr =>
          obtain ⟨y, h1, h2⟩ := Rs.get ⟨hl, hr⟩ hv
          exact ⟨y, by simp [execOp, hop, hu, Instr.extract, h1], h2⟩
      · cases h
    · cases h
  | call c =>
    simp only [evOp, hop] at h
    split at h
    · -- len
      rename_i hcal
      split at h
      · rename_i x T hargs htys
        obtain ⟨v, l, h1, hl, hs⟩ := evLen_sound hT h
        refine rd h1 hl fun σ Φ w a hp ho hx => ?_
        have ha : c.args = #[x] := by apply Array.ext'; simpa using hargs
        have ht : c.argTypes = #[T] := by apply Array.ext'; simpa using htys
        obtain ⟨u, h2, h3⟩ := hs σ Φ w _ o.type ho (hx x (by simp [hop, Op.operands, Call.operands, ha]))
        refine ⟨u, ?_, h3⟩
        simp [execOp, hop, resolve, hcal, invoke, builtin, ha, ht, h2]
      · cases h
    · -- append
      rename_i hcal
      split at h
      · rename_i s x T T' hargs htys
        split at h
        · rename_i hTT
          subst hTT
          obtain ⟨v, H', l, h1, h2, hs⟩ := evAppend_sound hT h
          refine ⟨v, H', l, h1, h2, OpSem.run fun σ Φ w a hp ho hx => ?_⟩
          have ha : c.args = #[s, x] := by apply Array.ext'; simpa using hargs
          have ht : c.argTypes = #[T, T] := by apply Array.ext'; simpa using htys
          obtain ⟨u, σ', Φ', w', h3, h4, h5⟩ := hs σ Φ w _ _ o.type hp ho (hx s (by simp [hop, Op.operands, Call.operands, ha])) (hx x (by simp [hop, Op.operands, Call.operands, ha]))
          refine ⟨u, σ', Φ', w', ?_, h4, h5⟩
          simp [execOp, hop, resolve, hcal, invoke, builtin, ha, ht, h3]
        · cases h
      · cases h
    · -- copy
      rename_i hcal
      split at h
      · rename_i s x T T' hargs htys
        split at h
        · cases h
        · rename_i hTT
          have hTT := Decidable.of_not_not hTT
          subst hTT
          obtain ⟨v, H', l, h1, h2, hs⟩ := evCopy_sound hT h
          refine ⟨v, H', l, h1, h2, OpSem.run fun σ Φ w a hp ho hx => ?_⟩
          have ha : c.args = #[s, x] := by apply Array.ext'; simpa using hargs
          have ht : c.argTypes = #[T, T] := by apply Array.ext'; simpa using htys
          obtain ⟨u, σ', Φ', w', h3, h4, h5⟩ := hs σ Φ w _ _ o.type hp ho (hx s (by simp [hop, Op.operands, Call.operands, ha])) (hx x (by simp [hop, Op.operands, Call.operands, ha]))
          refine ⟨u, σ', Φ', w', ?_, h4, h5⟩
          simp [execOp, hop, resolve, hcal, invoke, builtin, ha, ht, h3]
      · cases h
    · -- max
      rename_i hcal
      split at h
      · rename_i x y hargs
        split at h
        · rename_i k p l q hx1 hy1
          split at h
          · rename_i hk
            have hk := isKind_eq hk
            subst hk
            refine rd (l := []) h wrote_nil fun σ Φ w a hp ho hx => ?_
            have ha : c.args = #[x, y] := by apply Array.ext'; simpa using hargs
            have hc := hx x (by simp [hop, Op.operands, Call.operands, ha])
            have hd := hx y (by simp [hop, Op.operands, Call.operands, ha])
            rw [hx1] at hc
            rw [hy1] at hd
            generalize hu : a.eval x = u at hc
            generalize hv : a.eval y = v at hd
            cases hc; cases hd
            refine ⟨_, ?_, .i _ _⟩
            simp [execOp, hop, resolve, hcal, invoke, builtin, ha, hu, hv, Builtin.max_, Builtin.max2]
          · cases h
        · cases h
      · cases h
    · -- a function
      rename_i f hcal
      split at h
      · rename_i g fs cs hf
        obtain ⟨v, H', l, h1, h2, hen, hs⟩ := hC.callF _ _ _ _ _ _ h
        refine ⟨v, H', l, h1, h2, fun σ Φ w a hp ho hx next Q hn => ?_⟩
        have hfv := hx f (by simp [hop, Op.operands, Call.operands, hcal])
        rw [hf] at hfv
        generalize hu : a.eval f = u at hfv
        cases hfv with
        | f _ _ _ us1 us2 hl1 hl2 hr1 hr2 =>
          have hargs := Rs_map (σ := σ) (Φ := Φ) (w := w) (tm := tm) (a := a) (xs := c.args.toList) fun x hx' => hx x (by simp [hop, Op.operands, Call.operands, hcal]; right; simpa using hx')
          have hcall := hs σ Φ w _ hp ho (Rs.append ⟨hl1, hr1⟩ (Rs.append hargs ⟨hl2, hr2⟩))
          have hrun : (execOp a.eval o).run P w = .ok (.enter g (us1 ++ (c.args.toList.map a.eval ++ us2)).toArray) w := by
            simp only [execOp, hop, resolve, hcal, hu, Deferred.ofValue, Sem.run_bind, Sem.run_pure, Result.andThen_ok, invoke]
            rw [run_callFunc_enter hen]
            congr 2
            apply Array.ext'
            simp
          unfold Oper.wp
          rw [hrun, Oper.upon_enter]
          refine Calls.mono hcall fun e w'' he => ?_
          obtain ⟨u, σ', Φ', rfl, hR, hres⟩ := he
          exact hn u σ' Φ' w'' hR hres
      · cases h
    · cases h
  | _ => simp [evOp, hop] at h

end Go.AE
