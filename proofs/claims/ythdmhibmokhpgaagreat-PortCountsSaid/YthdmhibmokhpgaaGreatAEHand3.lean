/- core.Set$1: the last frame of a core is exchanged. -/
import Derived.Test.YthdmhibmokhpgaaGreatAEHand2
set_option linter.unusedVariables false
set_option linter.unusedSimpArgs false
namespace Go.AE

variable {P : Program} {C : Cfg} {ρ : Type}

def setH0 (c : CoreD) (y : FrameD) : List Ob := (cellsOf .core c).map .c ++ (cellsOf .frame y).map .c
def setF (c : CoreD) (y : FrameD) : List FrameD := c.F.set ((w64 ((c.F.length : Int) - (1 : Int))).toNat) y
def setH1 (e : Nat) (c : CoreD) (y : FrameD) : List Ob := .c (.o 18 0) :: ((cellsOf .core c).tail.map .c ++ ((cellsOf .frame y).map .c ++ [.row e .frame (setF c y) 0 true true false]))
def setL : Lg := [⟨true, 18, 1⟩, ⟨false, 18, 1⟩, ⟨false, 7, 11⟩, ⟨false, 18, 1⟩, ⟨false, 0, 1⟩, ⟨false, 0, 1⟩, ⟨true, 0, 1⟩, ⟨false, 0, 1⟩]

/-- What the evaluator says of core.Set$1, told of cells. -/
def SetEq (C : Cfg) (g e : Nat) : Prop := ∀ (c : CoreD) (y : FrameD) (K : V → List Ob → Lg → Option (V × List Ob × Lg)), evCall C 300 g [.p 0 7, .p 7 11] (setH0 c y) [] K =
  bif decide (c.F.length ≤ most) then
    bif (decide ((0 : Int) ≤ (w64 ((c.F.length : Int) - (1 : Int))))) && (decide ((w64 ((c.F.length : Int) - (1 : Int))) < (c.F.length : Int))) then
      (c.F[((w64 ((c.F.length : Int) - (1 : Int))).toNat)]?).bind fun _ => K (.tup []) (setH1 e c y) setL
    else none
  else none

theorem set_sem (hC : CfgOk P C) {g e : Nat} (he : SetEq C g e) {c : CoreD} {y : FrameD} (h0 : c.F.isEmpty = false) (h1 : c.F.length ≤ most) :
    setF c y = c.F.set (c.F.length - 1) y ∧ CallSem P g [.p 0 7, .p 7 11] (setH0 c y) (.tup []) (setH1 e c y) setL := by
  have hl : 0 < c.F.length := by
    cases hc : c.F with
    | nil => rw [hc] at h0; cases h0
    | cons a l => simp
  have hm := h1
  simp only [most] at hm
  have hw : w64 ((c.F.length : Int) - 1) = ((c.F.length - 1 : Nat) : Int) := by
    unfold w64
    rw [IntKind.wrap_i64]
    omega
  refine ⟨by simp [setF, hw], ?_⟩
  have hev := he c y fun v H l => some (v, H, l)
  rw [hw] at hev
  have e1 : decide (c.F.length ≤ most) = true := by simpa using h1
  have e2 : (decide ((0 : Int) ≤ ((c.F.length - 1 : Nat) : Int)) && decide (((c.F.length - 1 : Nat) : Int) < (c.F.length : Int))) = true := by
    simp only [Bool.and_eq_true, decide_eq_true_eq]
    omega
  have e3 : c.F[((c.F.length - 1 : Nat) : Int).toNat]? = some (c.F[c.F.length - 1]'(by omega)) := by
    rw [Int.toNat_natCast]
    exact List.getElem?_eq_getElem _
  rw [e1, e2, e3] at hev
  simp only [cond_true, Option.bind_some] at hev
  obtain ⟨v, H', l, h2, _, hs⟩ := (ev_sound hC 300).2.2 g _ _ [] _ _ hev
  simp only [List.append_nil, Option.some.injEq, Prod.mk.injEq] at h2
  obtain ⟨rfl, rfl, rfl⟩ := h2
  exact hs

/-- The same memory, told by the cells of an element and of a frame. -/
def cellSg (g0 o0 bq oq : Nat) : Sg := fun i => if i < 7 then .cell g0 (o0 + i) else if i < 18 then .cell bq (oq + (i - 7)) else .none

theorem cellSg_covers {g0 o0 bq oq i b o : Nat} (h : (cellSg g0 o0 bq oq i).covers b o) : (i < 7 ∧ b = g0 ∧ o = o0 + i) ∨ (7 ≤ i ∧ i < 18 ∧ b = bq ∧ o = oq + (i - 7)) := by
  unfold cellSg at h
  split at h
  · exact .inl ⟨by assumption, h.1, h.2⟩
  · split at h
    · exact .inr ⟨by omega, by assumption, h.1, h.2⟩
    · exact h.elim

theorem setH0_get {c : CoreD} {y : FrameD} {i : Nat} {o : Ob} (h : (setH0 c y)[i]? = some o) : (i < 7 ∧ ∃ v, (cellsOf .core c)[i]? = some v ∧ o = .c v) ∨ (7 ≤ i ∧ i < 18 ∧ ∃ v, (cellsOf .frame y)[i - 7]? = some v ∧ o = .c v) := by
  have hl : ((cellsOf .core c).map Ob.c).length = 7 := by rw [List.length_map]; exact cellsOf_length .core c
  have hl2 : ((cellsOf .frame y).map Ob.c).length = 11 := by rw [List.length_map]; exact cellsOf_length .frame y
  unfold setH0 at h
  by_cases hi : i < 7
  · rw [List.getElem?_append_left (by omega), List.getElem?_map] at h
    cases hq : (cellsOf STy.core c)[i]? with
    | none => rw [hq] at h; cases h
    | some v => rw [hq] at h; cases h; exact .inl ⟨hi, v, rfl, rfl⟩
  · rw [List.getElem?_append_right (by omega), hl] at h
    have h18 : i - 7 < 11 := by rw [← hl2]; exact (List.getElem?_eq_some_iff.1 h).1
    rw [List.getElem?_map] at h
    cases hq : (cellsOf STy.frame y)[i - 7]? with
    | none => rw [hq] at h; cases h
    | some v => rw [hq] at h; cases h; exact .inr ⟨by omega, by omega, v, rfl, rfl⟩

/-- A row of cores in which the last frame of one was exchanged. -/
theorem set_main {H : List Ob} {id q ec e ver ix : Nat} {xs : List CoreD} {ap nz : Bool} {c : CoreD} {y : FrameD} {σ1 : Sg} {Φ1 : Im} {w w' : World} {g0 cap bq oq : Nat} {cur : Array Value} {vals usf : List Value} {σx : Sg} {Φx : Im}
    (hlt : id < H.length) (hp : Hp σ1 Φ1 w H.length) (e1 : σ1 id = .row (.slice (some ⟨g0, 0, Option.none⟩) xs.length cap) 7 ver true) (hvl : vals.length = xs.length * 7) (hcap : 0 < cap) (hg : w.heap[g0]? = some (.cells cur ec (0, 0))) (hle : xs.length ≤ cap) (hm : cap ≤ maxLen)
    (hs : cur.size = cap * 7) (htk : cur.toList.take (xs.length * 7) = vals) (hrv : Rs σ1 Φ1 w (flat .core xs) vals) (h1v : ∀ u ∈ vals, u.oneCell' = true) (hnz : nz = true → xs ≠ []) (hc : xs[ix]? = some c)
    (hres : Res 18 19 (setH1 e c y) (wrote setL) (cellSg g0 (ix * 7) bq oq) Φ1 w σx Φx w') (hq : ∀ b o, (∃ j, j < 11 ∧ b = bq ∧ o = oq + j) → b ≠ g0) (hne : setF c y ≠ []) :
    ∃ Φ', Res H.length (H.set id (.row ec .core (xs.set ix { c with F := setF c y }) ver true ap nz)).length (H.set id (.row ec .core (xs.set ix { c with F := setF c y }) ver true ap nz)) (fun i => i = id) σ1 Φ1 w σ1 Φ' w' := by
  have hj : ix < xs.length := (List.getElem?_eq_some_iff.1 hc).1
  have hjm : ix * 7 + 7 ≤ xs.length * 7 := by omega
  have hcm : xs.length * 7 ≤ cap * 7 := Nat.mul_le_mul_right _ hle
  -- the cell of the frames
  obtain ⟨b, off, u0, s0, k0, f0, o0, r0⟩ := hres.ob 0 (.inl ⟨⟨true, 0, 1⟩, by simp [setL], rfl, Nat.le_refl _, Nat.lt_succ_self _⟩) (.c (.o 18 0)) rfl
  have hs0 : σx 0 = .cell g0 (ix * 7) := by
    have := hres.tr.later 0 (by omega)
    have e0 : cellSg g0 (ix * 7) bq oq 0 = .cell g0 (ix * 7 + 0) := rfl
    rw [e0, s0] at this
    rcases this with h | h
    · rw [s0, h]; rfl
    · cases h
  rw [hs0] at s0
  injection s0 with s1 s2
  subst s1; subst s2
  -- the new frames
  obtain ⟨v2, own2, t1, _, t3, t4, _⟩ := hres.ob 18 (.inr (Nat.le_refl _)) (.row e .frame (setF c y) 0 true true false) rfl
  have t3 := t3 rfl
  subst t3
  obtain ⟨vals2, hO2, hR2, h12⟩ := t4 rfl
  have hu0 : v2 = u0 := by
    cases r0 with
    | o _ _ p n cp hh =>
      obtain ⟨v', sz, ver', own', q1, q2, q3⟩ := hh
      rw [t1] at q1
      injection q1 with q4 q5 q6 q7
      subst q4
      exact q3 q6.symm
  subst hu0
  obtain ⟨hl2, hO2'⟩ := hO2
  have hlen2 : (setF c y).length ≠ 0 := fun h => hne (List.eq_nil_of_length_eq_zero h)
  rcases hO2' with ⟨p, hv2, hn0⟩ | ⟨g2, cap2, cur2, hv2, hcap2, hg2, hle2, hm2, hsz2, htk2⟩
  · exact absurd hn0 hlen2
  have hcov2 : ∀ o, (σx 18).covers g2 o := fun o => by
    rw [t1, hv2]
    exact blk_some hcap2
  have hnew : w.heap.size ≤ g2 := by
    rcases hres.tr.cov 18 g2 0 (hcov2 0) with h | ⟨h, _⟩ | ⟨_, id0, h, h2⟩
    · exact h
    · omega
    · rcases cellSg_covers h2 with h3 | h3 <;> omega
  have hcovg : ∀ o, (σ1 id).covers g0 o := fun o => by rw [e1]; exact blk_some hcap
  let Φ' : Im := fun b o => Φx b o ∨ b = g2
  have hsame : ∀ b o, b < w.heap.size → ¬ (b = g0 ∧ o = ix * 7) → same w w' b o := fun b o hb hn => hres.tr.keep b o hb fun i hi hcv => by
    rcases cellSg_covers hcv with ⟨h1, h2, h3⟩ | ⟨h1, h2, h3, h4⟩
    · rcases hi with hi | hi
      · obtain ⟨ac, ha, hw, h5, h6⟩ := hi
        simp only [setL, List.mem_cons, List.not_mem_nil, or_false] at ha
        rcases ha with rfl | rfl | rfl | rfl | rfl | rfl | rfl | rfl <;> dsimp only at hw h5 h6 <;> first | (cases hw; done) | omega
      · omega
    · rcases hi with hi | hi
      · obtain ⟨ac, ha, hw, h5, h6⟩ := hi
        simp only [setL, List.mem_cons, List.not_mem_nil, or_false] at ha
        rcases ha with rfl | rfl | rfl | rfl | rfl | rfl | rfl | rfl <;> dsimp only at hw h5 h6 <;> first | (cases hw; done) | omega
      · omega
  have hΦnew : ∀ b o, Φx b o → Φ1 b o ∨ w.heap.size ≤ b := fun b o h => by
    rcases hres.tr.immNew b o h with h2 | h2 | ⟨i, hi, hcv⟩
    · exact .inl h2
    · exact .inr h2
    · rcases cellSg_covers hcv with ⟨h1, h2, h3⟩ | ⟨h1, h2, h3, h4⟩
      · have hi0 : i = 0 := by
          rcases hi with hi | hi
          · obtain ⟨ac, ha, hw, h5, h6⟩ := hi
            simp only [setL, List.mem_cons, List.not_mem_nil, or_false] at ha
            rcases ha with rfl | rfl | rfl | rfl | rfl | rfl | rfl | rfl <;> dsimp only at hw h5 h6 <;> first | (cases hw; done) | omega
          · omega
        subst hi0
        have : (σx 0).covers b o := by
          rw [hs0]
          exact ⟨h2, by omega⟩
        exact absurd h (hres.hp.imm 0 b o this)
      · rcases hi with hi | hi
        · obtain ⟨ac, ha, hw, h5, h6⟩ := hi
          simp only [setL, List.mem_cons, List.not_mem_nil, or_false] at ha
          rcases ha with rfl | rfl | rfl | rfl | rfl | rfl | rfl | rfl <;> dsimp only at hw h5 h6 <;> first | (cases hw; done) | omega
        · omega
  have htr : Tr H.length (fun i => i = id) σ1 Φ1 w σ1 Φ' w' := {
    os := hres.tr.os, tape := hres.tr.tape, output := hres.tr.output, size := hres.tr.size
    keep := fun b o hb hn => hsame b o hb fun ⟨h1, h2⟩ => hn id (.inl rfl) (by rw [h1]; exact hcovg o)
    imm := fun b o h => .inl (hres.tr.imm b o h)
    immNew := fun b o h => by
      rcases h with h | rfl
      · rcases hΦnew b o h with h2 | h2
        · exact .inl h2
        · exact .inr (.inl h2)
      · exact .inr (.inl hnew)
    later := fun i _ => Lc.later.refl _
    eqs := fun i _ _ => rfl
    cov := fun i b o hcv => .inr (.inl ⟨hp.lt_of_covers hcv, hcv⟩) }
  refine ⟨Φ', ⟨?_, htr, fun i hi ob hob => ?_⟩⟩
  · rw [List.length_set]
    exact {
      dom := hp.dom, sep := hp.sep
      imm := fun i b o hcv h => by
        have hb := hp.lt i b o hcv
        rcases h with h | h
        · rcases hΦnew b o h with h2 | h2
          · exact hp.imm i b o hcv h2
          · omega
        · omega
      lt := fun i b o hcv => Nat.lt_of_lt_of_le (hp.lt i b o hcv) hres.tr.size
      immlt := fun b o h => by
        rcases h with h | rfl
        · exact hres.hp.immlt b o h
        · exact hres.hp.lt 18 b 0 (hcov2 0) }
  · have hid : i = id := by
      rcases hi with h | h
      · exact h
      · have := (List.getElem?_eq_some_iff.1 hob).1
        rw [List.length_set] at this
        omega
    subst hid
    rw [List.getElem?_set_self hlt] at hob
    cases hob
    have hg0 : g0 < w.heap.size := hp.lt i g0 0 (hcovg 0)
    obtain ⟨cur', hb1, hb2, hb3⟩ := hsame g0 (ix * 7 + 1) hg0 (by omega) _ hg
    have hall : ∀ o, o ≠ ix * 7 → cur'[o]? = cur[o]? := fun o ho => by
      obtain ⟨c2, hb4, _, hb6⟩ := hsame g0 o hg0 (by omega) _ hg
      rw [hb1] at hb4
      cases hb4
      exact hb6
    have hcell : cur'[ix * 7]? = some v2 := by
      have := k0
      unfold World.cell? at this
      dsimp only at this
      rw [hb1] at this
      simpa using this
    let vals' := vals.set (ix * 7) v2
    have htk' : cur'.toList.take (xs.length * 7) = vals' := by
      apply List.ext_getElem?
      intro j
      simp only [vals', List.getElem?_take, List.getElem?_set, Array.getElem?_toList]
      by_cases hj2 : j < xs.length * 7
      · rw [if_pos hj2]
        by_cases hj3 : ix * 7 = j
        · subst hj3
          rw [if_pos rfl, if_pos (by omega)]
          exact hcell
        · rw [if_neg hj3, hall j (fun e => hj3 e.symm), ← htk, List.getElem?_take, if_pos hj2, Array.getElem?_toList]
      · rw [if_neg hj2, if_neg (by omega)]
        exact (List.getElem?_eq_none (by omega)).symm
    have hR2' : Rs σ1 Φ' w' (flat .frame (setF c y)) vals2 := hR2.imp fun v u hv hr => (hr.pl (σ' := σ1) (isPl_flat hv)).mono (fun _ => Lc.later.refl _) (fun _ _ h => .inl h) (fun _ _ _ _ h => h)
    have hsl : R σ1 Φ' w' (.sl .frame (setF c y) false) v2 := own_sl ⟨hl2, .inr ⟨g2, cap2, cur2, hv2, hcap2, hg2, hle2, hm2, hsz2, htk2⟩⟩ hR2' h12 fun b o hb => .inr (by
      rw [hv2, blk_some hcap2] at hb
      cases hb
      rfl)
    have hrv' := htr.values hp hrv
    have hel := el_cells hrv' hc
    have hz : Rs σ1 Φ' w' (cellsOf .core { c with F := setF c y }) (v2 :: ((vals.drop (ix * 7)).take 7).tail) := by
      have hsplit := hel.split
      obtain ⟨u1, us1, h3, _, h5⟩ := hsplit
      have h3 : (vals.drop (ix * 7)).take 7 = u1 :: us1 := h3
      rw [h3]
      exact Rs.cons hsl h5
    have hset := hrv'.set_el hz hj
    have hvs : vals.take (ix * 7) ++ (v2 :: ((vals.drop (ix * 7)).take 7).tail ++ vals.drop (ix * 7 + 7)) = vals' := by
      simp only [vals']
      rw [List.set_eq_take_append_cons_drop, if_pos (by omega)]
      congr 1
      rw [List.cons_append]
      congr 1
      have h4 : ((vals.drop (ix * 7)).take 7).tail = (vals.drop (ix * 7 + 1)).take 6 := by
        rw [← List.drop_one, List.drop_take, List.drop_drop]
      rw [h4, show ix * 7 + 7 = ix * 7 + 1 + 6 by omega, ← List.drop_drop (i := 6), List.take_append_drop]
    have hx : ∀ z : CoreD, (xs.set ix z).length = xs.length := fun z => List.length_set
    have hx := hx { c with F := setF c y }
    refine ⟨_, true, e1, fun h e' => ?_, fun _ => rfl, fun _ => ⟨vals', ⟨?_, .inr ⟨g0, cap, cur', ?_, hcap, hb1, ?_, hm, ?_, ?_⟩⟩, ?_, fun u hu => ?_⟩, fun h => by cases h⟩
    · have : (xs.set ix { c with F := setF c y }).length = 0 := congrArg List.length e'
      omega
    · have h5 : vals'.length = vals.length := List.length_set
      exact (h5.trans hvl).trans (congrArg (fun n => n * 7) hx.symm)
    · exact congrArg (fun n => Value.slice (some ⟨g0, 0, Option.none⟩) n cap) hx.symm
    · exact Nat.le_trans (Nat.le_of_eq hx) hle
    · exact hb2.trans hs
    · exact (congrArg (fun n => cur'.toList.take (n * 7)) hx).trans htk'
    · rw [← hvs]; exact hset
    · simp only [vals'] at hu
      rcases List.mem_or_eq_of_mem_set hu with hu | rfl
      · exact h1v u hu
      · exact o0

theorem set_ok (hC : CfgOk P C) {g e : Nat} (he : SetEq C g e) : SetOk P g := by
  intro ρ args H lg K r h
  unfold evSet at h
  split at h
  · rename_i id ver ix q k
    split at h
    · cases h
    · rename_i hk
      split at h
      · rename_i ec xs ver' ap nz l hob hld
        split at h
        · rename_i hcond
          obtain ⟨rfl, hnc⟩ := hcond
          split at h
          · rename_i y hy
            obtain ⟨c, hc, h2⟩ := brO_some h
            clear h
            rcases brB_some h2 with ⟨hb, h⟩ | ⟨_, h⟩
            · simp only [Bool.and_eq_true, Bool.not_eq_true', decide_eq_true_eq] at hb
              obtain ⟨hF, hsem⟩ := set_sem hC he (y := y) hb.1 hb.2
              let rs := l.flatMap rows1
              have hidr : id ∉ rs := fun hh => by
                have : rs.contains id = true := by rw [List.contains_iff_mem]; exact hh
                rw [this] at hnc
                cases hnc
              have hlt : id < H.length := (List.getElem?_eq_some_iff.1 hob).1
              have hH' : freezeAll (H.set id (.row ec .core (xs.set ix { c with F := c.F.set (c.F.length - 1) y }) ver true ap nz)) rs = (freezeAll H rs).set id (.row ec .core (xs.set ix { c with F := c.F.set (c.F.length - 1) y }) ver true ap nz) := set_freeze rs H id _ hidr
              refine ⟨_, _, ⟨true, id, 1⟩ :: ⟨false, q, 11⟩ :: rs.map fun r => ⟨true, r, 1⟩, h, ⟨?_, fun i hi hn => ?_⟩, hsem.1, fun σ Φ w us hp ho hr => ?_⟩
              · rw [hH', List.length_set, freezeAll_length]; exact Nat.le_refl _
              · have hn' : ¬ i = id ∧ i ∉ rs := by
                  rw [wrote_one, not_or] at hn
                  refine ⟨fun e => hn.1 (by omega), fun hh => hn.2 ?_⟩
                  exact wrote_cons.2 (.inr (wrote_rows.2 hh))
                rw [hH', List.getElem?_set_ne (fun e => hn'.1 e.symm), freezeAll_ne H rs i hn'.2]
              · obtain ⟨u1, us1, rfl, hp1, hr⟩ := hr.split
                obtain ⟨u2, us2, rfl, hp2, hr⟩ := hr.split
                obtain rfl := hr.nil_inv
                cases hp1 with
                | pr _ _ _ _ ad hh =>
                  cases hp2 with
                  | p _ _ bq oq hq =>
                    obtain ⟨usf, hrf, hlf, h1f, hqf, hcf⟩ := loadC_sound hld (fun i hi => ho i (touched_cons.2 (.inr (touched_cons.2 (.inl hi))))) fun j hj => hq j (by omega)
                    obtain ⟨σ1, Φ1, hr1, hf1⟩ := res_freeze (rs := rs) hp fun i hi => ho i (touched_cons.2 (.inr (touched_cons.2 (.inr ((touched_rows true).2 hi)))))
                    have hob1 : ObOk σ1 Φ1 w id (.row ec .core xs ver true ap nz) := hr1.tr.ob hp hlt hidr (ho id (touched_self _ _ _) _ hob)
                    obtain ⟨v, vals, e1, hov, hrv, h1v, hnz⟩ := row_own hob1 rfl
                    obtain ⟨v', sz, ver2, own', e2, _, e3⟩ := hh
                    have e4 := hr1.tr.eqs id hlt hidr
                    rw [← e4, e1] at e2
                    injection e2 with e5 e6 e7 e8
                    subst e5; subst e6; subst e7
                    obtain ⟨a0, n, cap', e9, hix, rfl⟩ := e3 rfl
                    have hj : ix < xs.length := (List.getElem?_eq_some_iff.1 hc).1
                    obtain ⟨hvl, hov⟩ := hov
                    rcases hov with ⟨p, rfl, hn0⟩ | ⟨g0, cap, cur, rfl, hcap, hg, hle, hm, hs, htk⟩
                    · omega
                    · injection e9 with e10 e11 e12
                      cases e10
                      have hvl : vals.length = xs.length * 7 := hvl
                      have hs : cur.size = cap * 7 := hs
                      have htk : cur.toList.take (xs.length * 7) = vals := htk
                      have e1 : σ1 id = .row (.slice (some ⟨g0, 0, Option.none⟩) xs.length cap) 7 ver true := e1
                      have hvz := fz0s_sound hp hr1 hf1 hrf fun i hi => hi
                      have hyR := ofCells_R hy hvz
                      have hqr : ∀ j, j < 11 → q + j ∉ rs := fun j hj hm' => by
                        obtain ⟨v0, hv0, hm2⟩ := List.mem_flatMap.1 hm'
                        obtain ⟨i0, hi0⟩ := List.getElem?_of_mem hv0
                        obtain ⟨u0, _, hru⟩ := hrf.get hi0
                        obtain ⟨x0, sz0, ver0, own0, e0⟩ := rows1_row hru hm2
                        rw [hqf j hj] at e0
                        cases e0
                      have hq1 : ∀ j, j < 11 → σ1 (q + j) = .cell bq (oq + j) := fun j hj => by
                        rw [hr1.tr.eqs (q + j) (hp.lt_of_ne (by rw [hqf j hj]; simp)) (hqr j hj)]
                        exact hqf j hj
                      have hp1 := hr1.hp
                      rw [freezeAll_length] at hp1
                      have hcovg : ∀ o, (σ1 id).covers g0 o := fun o => by rw [e1]; exact blk_some hcap
                      have hgq : ∀ j, j < 11 → bq ≠ g0 := fun j hj hb => by
                        have := hp1.sep id (q + j) g0 (oq + j) (hcovg _) (by rw [hq1 j hj, hb]; exact ⟨rfl, rfl⟩)
                        have h5 := hq1 j hj
                        rw [← this, e1] at h5
                        cases h5
                      have hel := el_cells hrv hc
                      have hjm : ix * 7 + 7 ≤ xs.length * 7 := by omega
                      have hcm : xs.length * 7 ≤ cap * 7 := Nat.mul_le_mul_right _ hle
                      have hpx : Hp (cellSg g0 (ix * 7) bq oq) Φ1 w (setH0 c y).length := by
                        have hl18 : (setH0 c y).length = 18 := by
                          unfold setH0
                          rw [List.length_append, List.length_map, List.length_map]
                          have h3 : (cellsOf .core c).length = 7 := cellsOf_length .core c
                          have h4 : (cellsOf .frame y).length = 11 := cellsOf_length .frame y
                          omega
                        rw [hl18]
                        exact {
                          dom := fun i hi => by unfold cellSg; rw [if_neg (by omega), if_neg (by omega)]
                          sep := fun i j b o hi hj => by
                            rcases cellSg_covers hi with ⟨h3, h4, h5⟩ | ⟨h3, h4, h5, h6⟩ <;> rcases cellSg_covers hj with ⟨k3, k4, k5⟩ | ⟨k3, k4, k5, k6⟩
                            · omega
                            · exact absurd (k5.symm.trans h4) (hgq 0 (by omega))
                            · exact absurd (h5.symm.trans k4) (hgq 0 (by omega))
                            · omega
                          imm := fun i b o hi => by
                            rcases cellSg_covers hi with ⟨h3, h4, h5⟩ | ⟨h3, h4, h5, h6⟩
                            · rw [h4]; exact hp1.imm id g0 o (hcovg o)
                            · exact hp1.imm (q + (i - 7)) b o (by rw [hq1 _ (by omega)]; exact ⟨h5, h6⟩)
                          lt := fun i b o hi => by
                            rcases cellSg_covers hi with ⟨h3, h4, h5⟩ | ⟨h3, h4, h5, h6⟩
                            · rw [h4]; exact hp1.lt id g0 o (hcovg o)
                            · exact hp1.lt (q + (i - 7)) b o (by rw [hq1 _ (by omega)]; exact ⟨h5, h6⟩)
                          immlt := hp1.immlt }
                      have hox : ∀ i, ∀ o, (setH0 c y)[i]? = some o → ObOk (cellSg g0 (ix * 7) bq oq) Φ1 w i o := fun i o hio => by
                        rcases setH0_get hio with ⟨hi, v0, hv0, rfl⟩ | ⟨hi, hi2, v0, hv0, rfl⟩
                        · obtain ⟨u0, hu0, hru⟩ := hel.get hv0
                          have hu0' : vals[ix * 7 + i]? = some u0 := by
                            rw [List.getElem?_take] at hu0
                            split at hu0
                            · rw [List.getElem?_drop] at hu0; exact hu0
                            · cases hu0
                          have hcl : cur[ix * 7 + i]? = some u0 := by
                            rw [← htk, List.getElem?_take] at hu0'
                            split at hu0'
                            · rwa [Array.getElem?_toList] at hu0'
                            · cases hu0'
                          refine ⟨g0, ix * 7 + i, u0, by unfold cellSg; rw [if_pos hi], ?_, ?_, h1v u0 (List.mem_of_getElem? hu0'), hru.pl (isPl_mem (t := .core) (List.mem_of_getElem? hv0))⟩
                          · unfold World.cell?
                            dsimp only
                            rw [hg]
                            simpa using hcl
                          · unfold World.frozen?
                            dsimp only
                            rw [hg]
                            simp
                        · obtain ⟨u0, hu0, hru⟩ := hyR.get hv0
                          obtain ⟨h3, h4⟩ := hcf (i - 7) u0 hu0
                          exact ⟨bq, oq + (i - 7), u0, by unfold cellSg; rw [if_neg (by omega), if_pos hi2], h3, h4, h1f u0 (List.mem_of_getElem? hu0), hru.pl (isPl_mem (t := .frame) (List.mem_of_getElem? hv0))⟩
                      have hargs : Rs (cellSg g0 (ix * 7) bq oq) Φ1 w [.p 0 7, .p 7 11] [.pointer (some ⟨g0, 0 + (ix * 7 + 0), Option.none⟩), .pointer (some ⟨bq, oq, Option.none⟩)] := by
                        refine Rs.cons ?_ (Rs.cons (.p 7 11 bq oq fun j hj => .inl ?_) Rs.nil)
                        · rw [show 0 + (ix * 7 + 0) = ix * 7 by omega]
                          refine .p 0 7 g0 (ix * 7) fun j hj => .inl ?_
                          unfold cellSg
                          rw [if_pos (by omega), Nat.zero_add]
                        · unfold cellSg
                          rw [if_neg (by omega), if_pos (by omega)]
                          congr 2
                          omega
                      refine Calls.mono (hsem.2 (cellSg g0 (ix * 7) bq oq) Φ1 w _ hpx (fun i _ o hio => hox i o hio) hargs) fun e' w' he' => ?_
                      obtain ⟨u, σx, Φx, rfl, hR, hres⟩ := he'
                      have hl18 : (setH0 c y).length = 18 := by
                        unfold setH0
                        rw [List.length_append, List.length_map, List.length_map]
                        have h3 : (cellsOf .core c).length = 7 := cellsOf_length .core c
                        have h4 : (cellsOf .frame y).length = 11 := cellsOf_length .frame y
                        omega
                      have hl19 : (setH1 e c y).length = 19 := by
                        unfold setH1
                        rw [List.length_cons, List.length_append, List.length_append, List.length_map, List.length_map, List.length_tail]
                        have h3 : (cellsOf .core c).length = 7 := cellsOf_length .core c
                        have h4 : (cellsOf .frame y).length = 11 := cellsOf_length .frame y
                        simp only [List.length_singleton]
                        omega
                      rw [hl18, hl19] at hres
                      have hne : setF c y ≠ [] := fun h => by
                        have h5 : (setF c y).length = 0 := by rw [h]; rfl
                        rw [hF] at h5
                        have h6 : (c.F.set (c.F.length - 1) y).length = c.F.length := List.length_set
                        have : c.F = [] := List.eq_nil_of_length_eq_zero (h6.symm.trans h5)
                        rw [this] at hb
                        cases hb.1
                      obtain ⟨Φ', hr2⟩ := set_main (H := freezeAll H rs) (q := q) (usf := usf) (ap := ap) (nz := nz) (by rw [freezeAll_length]; exact hlt) hr1.hp e1 hvl hcap hg hle hm hs htk hrv h1v hnz hc hres (fun b o ⟨j, h3, h4, _⟩ => by rw [h4]; exact hgq j h3) hne
                      rw [hF] at hr2
                      refine ⟨u, σ1, Φ', rfl, ?_, ?_⟩
                      · cases hR with
                        | tup _ ws hl hrs =>
                          have : ws = [] := List.eq_nil_of_length_eq_zero hl
                          subst this
                          exact .tup [] [] rfl (fun _ _ _ h => by simp at h)
                      · rw [hH']
                        refine (Res.trans hr1 hr2 (by rw [freezeAll_length]; exact Nat.le_refl _) fun i hi hn => List.getElem?_set_ne (Ne.symm hn)).congr fun i => ?_
                        rw [wrote_one]
                        have h6 : wrote (⟨false, q, 11⟩ :: rs.map fun r => (⟨true, r, 1⟩ : Acc)) i ↔ i ∈ rs := by
                          rw [wrote_cons, wrote_rows]
                          simp
                        rw [h6, or_comm]
                        exact or_congr (by omega) Iff.rfl
            · cases h
          · cases h
        · cases h
      · cases h
  · cases h

end Go.AE
