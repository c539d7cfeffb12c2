/- Regions whose order is open: whole regions. -/
import Derived.Test.YthdmhibmokhpgaaGreatAEDraw3
set_option linter.unusedVariables false
set_option linter.unusedSimpArgs false
namespace Go.AE

variable {P : Program} {C : Cfg} {ρ : Type}

theorem mem_tmpsOf : ∀ {l : List Operand} {t : Nat}, Operand.tmp t ∈ l → t ∈ tmpsOf l
  | [], _, h => by cases h
  | y :: ys, t, h => by
    rcases List.mem_cons.1 h with h | h
    · subst h; simp [tmpsOf]
    · have := mem_tmpsOf h
      cases y <;> simp [tmpsOf, this]

theorem wpAny_inv {ops : Array Oper} {tmf : Nat → List V} {Hf : Nat → List Ob} {lf : Nat → Lg} {T : Nat → Prop} {base : Nat} {σ0 : Sg} {Φ0 : Im} {w0 : World}
    (hst : ∀ j o, ops[j]? = some o → OpStep P ops o (tmf j) (tmf (j + 1)) (Hf j) (Hf (j + 1)) (lf j)) (hbase : base ≤ (Hf 0).length) (hT : ∀ i, i < ops.size → ∀ id, touched (lf i) id → T id)
    (hap : ∀ i k x o, i < k → ops[i]? = some x → ops[k]? = some o → ((preds [] ops.toList).getD k 0).testBit i = true ∨ (clash (made (Hf i).length (Hf (i + 1)).length (lf i)) (made (Hf k).length (Hf (k + 1)).length (lf k)) = false ∧ tmpApart ops x o = true))
    (hed : ∀ k o, ops[k]? = some o → ∀ e ∈ o.after.toList, isData e = true → e.on < k)
    {Q : Exit → Act → World → Prop} (hQ : ∀ σ Φ a w, Inv ops tmf Hf lf T base σ0 Φ0 w0 (fun i => i < ops.size) σ Φ a w → Q .normal a w) :
    ∀ (fuel : Nat) (listed : Array Bool) (U : List Nat) (σ : Sg) (Φ : Im) (a : Act) (w : World), listed.size = ops.size → U.length = fuel → (∀ i, i < ops.size → listed.getD i false = true ∨ i ∈ U) →
      (∀ j, listed.getD j false = true → ∀ i, ((preds [] ops.toList).getD j 0).testBit i = true → listed.getD i false = true) →
      Inv ops tmf Hf lf T base σ0 Φ0 w0 (fun i => listed.getD i false = true) σ Φ a w → wpAny P .any ops Q fuel listed a w := by
  -- when all are done
  have all : ∀ (listed : Array Bool) (σ : Sg) (Φ : Im) (a : Act) (w : World), listed.size = ops.size → (∀ i, i < ops.size → listed.getD i false = true) → Inv ops tmf Hf lf T base σ0 Φ0 w0 (fun i => listed.getD i false = true) σ Φ a w → Q .normal a w := by
    intro listed σ Φ a w hsz hall hI
    have : (fun i => listed.getD i false = true) = fun i => i < ops.size := funext fun i => propext ⟨fun h => by
      rcases Nat.lt_or_ge i ops.size with h1 | h1
      · exact h1
      · rw [Array.getD_eq_getD_getElem?, Array.getElem?_eq_none (by omega)] at h
        exact absurd h (by simp), fun h => hall i h⟩
    rw [this] at hI
    exact hQ σ Φ a w hI
  have ready_iff : ∀ (listed : Array Bool) (i : Nat), listed.size = ops.size → (i ∈ Region.ready .any ops listed ↔ ∃ o, ops[i]? = some o ∧ listed.getD i false = false ∧ ∀ e ∈ o.after.toList, isData e = true → listed.getD e.on false = true) := by
    intro listed i hsz
    simp only [Region.ready, List.mem_filter, List.mem_range, Bool.and_eq_true, Bool.not_eq_true']
    constructor
    · rintro ⟨h1, h2, h3⟩
      have ho : ops[i]? = some ops[i] := by simp [h1]
      rw [ho] at h3
      simp only [Option.map_some, Option.getD_some] at h3
      refine ⟨_, ho, ?_, fun e he hd => ?_⟩
      · rw [Array.getD_eq_getD_getElem?] at h2 ⊢
        have : listed[i]? = some (listed[i]'(by omega)) := by simp [hsz, h1]
        rw [this] at h2 ⊢
        exact h2
      · rw [Array.all_eq_true'] at h3
        have := h3 e (by simpa using he)
        simp only [Bool.or_eq_true, Bool.not_eq_true'] at this
        rcases this with h | h
        · simp only [isData] at hd; rw [hd] at h; cases h
        · exact h
    · rintro ⟨o, ho, h2, h3⟩
      have h1 := (Array.getElem?_eq_some_iff.1 ho).1
      refine ⟨h1, ?_, ?_⟩
      · rw [Array.getD_eq_getD_getElem?] at h2 ⊢
        have : listed[i]? = some (listed[i]'(by omega)) := by simp [hsz, h1]
        rw [this] at h2 ⊢
        exact h2
      · rw [ho]
        simp only [Option.map_some, Option.getD_some]
        rw [Array.all_eq_true']
        intro e he
        simp only [Bool.or_eq_true, Bool.not_eq_true']
        cases hd : Region.binds .any e with
        | false => exact .inl rfl
        | true => exact .inr (h3 e (by simpa using he) hd)
  have done : ∀ (listed : Array Bool), listed.size = ops.size → Region.ready .any ops listed = [] → ∀ i, i < ops.size → listed.getD i false = true := by
    intro listed hsz hr i
    induction i using Nat.strongRecOn with
    | _ i ih =>
      intro hi
      cases hq : listed.getD i false with
      | true => rfl
      | false =>
        have : i ∈ Region.ready .any ops listed := (ready_iff listed i hsz).2 ⟨ops[i], by simp [hi], hq, fun e he hd => ih e.on (hed i _ (by simp [hi]) e he hd) (Nat.lt_trans (hed i _ (by simp [hi]) e he hd) hi)⟩
        rw [hr] at this
        cases this
  intro fuel
  induction fuel with
  | zero =>
    intro listed U σ Φ a w hsz hU hcov hcl hI
    have hU0 : U = [] := List.eq_nil_of_length_eq_zero hU
    have hall : ∀ i, i < ops.size → listed.getD i false = true := fun i hi => by
      rcases hcov i hi with h | h
      · exact h
      · rw [hU0] at h; cases h
    refine ⟨?_, all listed σ Φ a w hsz hall hI⟩
    cases hr : Region.ready .any ops listed with
    | nil => rfl
    | cons i r =>
      have : i ∈ Region.ready .any ops listed := by rw [hr]; simp
      obtain ⟨o, ho, h1, _⟩ := (ready_iff listed i hsz).1 this
      rw [hall i (Array.getElem?_eq_some_iff.1 ho).1] at h1
      cases h1
  | succ fuel ih =>
    intro listed U σ Φ a w hsz hU hcov hcl hI
    refine ⟨fun hr => all listed σ Φ a w hsz (done listed hsz hr) hI, fun k hk => ?_⟩
    obtain ⟨o, ho, hSk, hrd⟩ := (ready_iff listed k hsz).1 hk
    have hkn : k < ops.size := (Array.getElem?_eq_some_iff.1 ho).1
    have hnS : ¬ listed.getD k false = true := by rw [hSk]; simp
    have hset : ∀ i, (listed.setIfInBounds k true).getD i false = true ↔ (listed.getD i false = true ∨ i = k) := fun i => by
      rw [Array.getD_eq_getD_getElem?, Array.getD_eq_getD_getElem?, Array.getElem?_setIfInBounds]
      by_cases h : k = i
      · subst h; simp [hsz, hkn]
      · rw [if_neg h]
        constructor
        · exact .inl
        · rintro (h1 | h1)
          · exact h1
          · exact absurd h1.symm h
    have hrdy : ∀ i, ((preds [] ops.toList).getD k 0).testBit i = true → listed.getD i false = true := fun i hb => by
      obtain ⟨e, he, hd, h1⟩ := (preds_at ho).1 hb
      have h2 := hrd e he hd
      rcases h1 with rfl | ⟨_, h1⟩
      · exact h2
      · exact hcl e.on h2 i h1
    -- the operation itself
    have hwrap : ∀ (σ2 : Sg) (Φ2 : Im) (a2 : Act) (w2 : World), Inv ops tmf Hf lf T base σ0 Φ0 w0 (fun i => listed.getD i false = true ∨ i = k) σ2 Φ2 a2 w2 → wpAny P .any ops Q fuel (listed.setIfInBounds k true) a2 w2 := by
      intro σ2 Φ2 a2 w2 hI2
      refine ih _ (U.erase k) σ2 Φ2 a2 w2 (by simp [hsz]) ?_ (fun i hi => ?_) (fun j hj i hb => ?_) ?_
      · have hkU : k ∈ U := (hcov k hkn).resolve_left hnS
        rw [List.length_erase_of_mem hkU, hU]
        rfl
      · by_cases hik : i = k
        · exact .inl ((hset i).2 (.inr hik))
        · rcases hcov i hi with h | h
          · exact .inl ((hset i).2 (.inl h))
          · exact .inr ((List.mem_erase_of_ne hik).2 h)
      · rcases (hset j).1 hj with h | h
        · exact (hset i).2 (.inl (hcl j h i hb))
        · subst h; exact (hset i).2 (.inl (hrdy i hb))
      · have : (fun i => (listed.setIfInBounds k true).getD i false = true) = fun i => listed.getD i false = true ∨ i = k := funext fun i => propext (hset i)
        rw [this]
        exact hI2
    obtain ⟨b, v, hw, htm, hf, hsem, hskip⟩ := hst k o ho
    have hreads : ∀ t ∈ readsOf ops o, R (σ.cut (Hf k).length) Φ w ((tmf k).getD t .und) (a.tmps.getD t undef) := fun t ht => by
      have hlen : (tmf k).length = a.tmps.size := by rw [tm_len hst (by omega), hI.sz]
      by_cases htl : t < (tmf k).length
      · have e1 : (tmf k)[t]? = some ((tmf k)[t]) := by simp [htl]
        have e2 : a.tmps[t]? = some (a.tmps[t]'(by omega)) := by simp [← hlen, htl]
        have := hI.tmv k (by omega) t _ _ (fun i x hi hx hxd => ?_) (fun i x hi hx hxd hS => ?_) e1 e2
        · simpa [List.getD, e1, Array.getD_eq_getD_getElem?, e2] using this
        · rcases hap i k x o hi hx ho with h5 | ⟨_, h5⟩
          · exact hrdy i h5
          · exact absurd ht ((tmpApart_spec h5).1 t hxd).1
        · rcases Nat.eq_or_lt_of_le hi with h6 | h6
          · subst h6; exact hnS hS
          · rcases hap k i o x h6 ho hx with h5 | ⟨_, h5⟩
            · exact hnS (hcl i hS k h5)
            · exact (tmpApart_spec h5).2 t hxd ht
      · have e1 : (tmf k).getD t .und = .und := by simp [List.getD, List.getElem?_eq_none (Nat.le_of_not_lt htl)]
        have e2 : a.tmps.getD t undef = undef := by
          have : a.tmps[t]? = none := Array.getElem?_eq_none (by omega)
          simp [Array.getD_eq_getD_getElem?, this]
        rw [e1, e2]
        exact .und
    have hwant := hw (σ.cut (Hf k).length) Φ w a hreads
    unfold wpOp
    simp only [ho]
    cases b with
    | true =>
      simp only [hwant, if_true]
      refine .inl (hsem rfl (σ.cut (Hf k).length) Φ w a (hI.hp.cut _) (fun id hid ob hob => ?_) (fun x hx => ?_) _ _ fun u σ' Φ' w' hv hres => ?_)
      · refine hI.obv k (by omega) id (hT k hkn id hid) (fun i hi hwi => ?_) (fun i hi hin hwi hS => ?_) ob hob
        · have hin : i < ops.size := by omega
          rcases hap i k ops[i] o hi (by simp) ho with h5 | ⟨h5, _⟩
          · exact hrdy i h5
          · exact absurd (.inl ⟨hwi, made_touched hid⟩) (clash_spec h5)
        · rcases Nat.eq_or_lt_of_le hi with h6 | h6
          · subst h6; exact hnS hS
          · rcases hap k i o ops[i] h6 ho (by simp) with h5 | ⟨h5, _⟩
            · exact hnS (hcl i hS k h5)
            · exact absurd (.inr ⟨made_touched hid, hwi⟩) (clash_spec h5)
      · refine R_opd fun t ht => hreads t ?_
        subst ht
        refine List.mem_append_left _ ?_
        exact mem_tmpsOf hx
      · obtain ⟨σ2, hI2⟩ := inv_next hst hbase hap hcl hI ho hnS hrdy hv hres htm hf
        exact hwrap σ2 Φ' _ w' hI2
    | false =>
      obtain ⟨hv0, hH0, hl0⟩ := hskip rfl
      simp only [hwant]
      have hres : Res (Hf k).length (Hf (k + 1)).length (Hf (k + 1)) (wrote (lf k)) (σ.cut (Hf k).length) Φ w (σ.cut (Hf k).length) Φ w := by
        rw [hH0, hl0]
        exact Res.same wrote_nil (hI.hp.cut _)
      obtain ⟨σ2, hI2⟩ := inv_next (u := undef) hst hbase hap hcl hI ho hnS hrdy (by rw [hv0]; exact .und) hres htm hf
      exact hwrap σ2 Φ _ w hI2

theorem Tr.drew {base : Nat} {W : Nat → Prop} {σ : Sg} {Φ : Im} {w : World} : Tr base W σ Φ w σ Φ w.drew where
  os := rfl
  tape := rfl
  output := rfl
  size := Nat.le_refl _
  keep := fun b o _ _ => same.of_heap rfl o
  imm := fun _ _ h => h
  immNew := fun _ _ h => .inl h
  later := fun id _ => Lc.later.refl _
  eqs := fun id _ _ => rfl
  cov := fun id b o h => by
    by_cases hid : id < base
    · exact .inr (.inl ⟨hid, h⟩)
    · exact .inr (.inr ⟨by omega, id, by omega, h⟩)

theorem Rel.drew {T : Nat → Prop} {σ : Sg} {Φ : Im} {st : St} {a : Act} {w : World} (h : Rel T σ Φ st a w) : Rel T σ Φ st a w.drew where
  hp := ⟨h.hp.dom, h.hp.sep, h.hp.imm, h.hp.lt, h.hp.immlt⟩
  ob := fun id hid o ho => (Tr.drew (base := st.H.length) (W := fun _ => False)).ob h.hp (List.getElem?_eq_some_iff.1 ho).1 (fun h => h) (h.ob id hid o ho)
  tm := h.tm.imp fun _ _ _ hr => hr.mono (w := w) (w' := w.drew) (fun _ => Lc.later.refl _) (fun _ _ h => h) (fun _ _ _ _ h => h)
  df := h.df

theorem evDraw_sound (hP : P.follows .mixedOrders = true) (hT : TysOk P C) {call : CallK ρ} (hC : CallsOk P C call) {ops : Array Oper} {base : Nat} {st : St} {K : St → Option ρ} {r : ρ} (hb : base ≤ st.H.length) (h : evDraw C call ops st K = some r) (rid : Nat) :
    ∃ st' lg, K st' = some r ∧ Abs base st st' lg ∧ CodeSem P base (.region rid ops true) st .normal st' lg := by
  unfold evDraw at h
  obtain ⟨tmf, Hf, lf, lgs, L, e1, e2, e3, e4, e5, e6, e7, e8⟩ := evOpsD_sound hT hC h
  rw [List.nil_append] at e4
  split at e4
  · rename_i hok
    rw [Bool.and_eq_true] at hok
    obtain ⟨hok1, hok2⟩ := hok
    have hst : ∀ j o, ops[j]? = some o → OpStep P ops o (tmf j) (tmf (j + 1)) (Hf j) (Hf (j + 1)) (lf j) := fun j o ho => e3 j o (by rw [Array.getElem?_toList]; exact ho)
    have hlen : ops.toList.length = ops.size := Array.length_toList
    rw [hlen] at e4 e7 e8
    have hap : ∀ i k x o, i < k → ops[i]? = some x → ops[k]? = some o → ((preds [] ops.toList).getD k 0).testBit i = true ∨ (clash (made (Hf i).length (Hf (i + 1)).length (lf i)) (made (Hf k).length (Hf (k + 1)).length (lf k)) = false ∧ tmpApart ops x o = true) := fun i k x o hik hx ho => by
      have := drawOk_spec (had := []) hok2 k o _ (e6 k o (by rw [Array.getElem?_toList]; exact ho)) i x _ (by simpa using hik) (by rw [List.nil_append]; exact e6 i x (by rw [Array.getElem?_toList]; exact hx))
      simpa using this
    have hed : ∀ k o, ops[k]? = some o → ∀ e ∈ o.after.toList, isData e = true → e.on < k := fun k o ho e he hd => by
      have := edgesOk_spec hok1 k o (by rw [Array.getElem?_toList]; exact ho) e he hd
      omega
    have hb0 : base ≤ (Hf 0).length := by rw [e2]; exact hb
    refine ⟨_, lgs, e4, ⟨rfl, Nat.le_trans hb0 (heap_mono hst (Nat.zero_le _) (Nat.le_refl _)), fun id hid hn => ?_⟩, fun T σ Φ a w hT1 hT2 hr Q hQ => ?_⟩
    · rw [← e2]
      refine heap_chain hst (by omega) (Nat.zero_le _) (Nat.le_refl _) fun i _ hi hw => ?_
      rcases (made_wrote (heap_mono hst (by omega) (by omega))).1 hw with h1 | h1
      · have := heap_mono hst (i := 0) (j := i) (by omega) (by omega)
        omega
      · exact hn ((e8 id).2 ⟨i, hi, h1⟩)
    · refine wp_region_any hP ?_
      have hr1 := hr.drew
      refine wpAny_inv (T := T) (base := base) (σ0 := σ) (Φ0 := Φ) (w0 := w) hst hb0 (fun i hi id ht => hT1 id ((e7 id).2 ⟨i, hi, ht⟩)) hap hed (fun σ2 Φ2 a2 w2 hI => ?_) ops.size _ (List.range ops.size) σ Φ a _ (by simp) (by simp) (fun i hi => .inr (by simpa using hi)) (fun j hj => ?_) ?_
      · -- the end
        refine hQ σ2 Φ2 a2 w2 ⟨hI.hp, fun id hid o ho => ?_, ⟨?_, fun t v u h1 h2 => ?_⟩, hI.df⟩ (hI.tr.weaken (Nat.le_refl _) fun id _ hw => (e8 id).2 hw)
        · have := hI.obv ops.size (Nat.le_refl _) id hid (fun i hi _ => hi) (fun i h1 h2 => by omega) o ho
          refine ob_ext ?_ (fun i => ?_) this
          · rw [cut_lt (List.getElem?_eq_some_iff.1 ho).1]
          · by_cases h3 : i < (Hf ops.size).length
            · rw [cut_lt h3]; exact Lc.later.refl _
            · rw [cut_ge (by omega)]; trivial
        · rw [Array.length_toList, hI.sz]
          exact (tm_len hst (Nat.le_refl _)).symm
        · rw [Array.getElem?_toList] at h2
          have := hI.tmv ops.size (Nat.le_refl _) t v u (fun i _ hi _ _ => hi) (fun i x h3 hx => by have := (Array.getElem?_eq_some_iff.1 hx).1; omega) h1 h2
          refine this.mono (fun i => ?_) (fun _ _ h => h) (fun _ _ _ _ h => h)
          by_cases h3 : i < (Hf ops.size).length
          · rw [cut_lt h3]; exact Lc.later.refl _
          · rw [cut_ge (by omega)]; trivial
      · have hj0 : (Array.replicate ops.size false).getD j false = false := by
          rw [Array.getD_eq_getD_getElem?]
          by_cases h1 : j < ops.size
          · simp [h1]
          · rw [Array.getElem?_eq_none (by simp; omega)]; rfl
        rw [hj0] at hj
        cases hj
      · -- the start
        have hS0 : ∀ i, ¬ (Array.replicate ops.size false).getD i false = true := fun i => by
          rw [Array.getD_eq_getD_getElem?]
          by_cases h1 : i < ops.size
          · simp [h1]
          · rw [Array.getElem?_eq_none (by simp; omega)]; simp
        have hσ : ∀ id, (Hf 0).length ≤ id → σ id = .none := fun id hid => hr.hp.dom id (by rw [← e2]; exact hid)
        have hsz := hr.tm.1
        rw [Array.length_toList] at hsz
        refine { hp := ?_, crt := ?_, tmv := ?_, obv := ?_, df := hr.df, sz := by rw [e1]; exact hsz, tr := Tr.drew }
        · exact { dom := fun id hid => hσ id (Nat.le_trans (heap_mono hst (Nat.zero_le _) (Nat.le_refl _)) hid), sep := hr1.hp.sep, imm := hr1.hp.imm, lt := hr1.hp.lt, immlt := hr1.hp.immlt }
        · intro id k hk h1 _ _
          exact hσ id (Nat.le_trans (heap_mono hst (Nat.zero_le _) (by omega)) h1)
        · intro j hj t v u h1 _ h3 h4
          have hno : ∀ i x, 0 ≤ i → i < j → ops[i]? = some x → x.dst ≠ some t := fun i x _ hi hx hd => hS0 i (h1 i x hi hx hd)
          rw [tm_chain hst (Nat.zero_le _) hj hno, e1] at h3
          have := hr1.tm.2 t v u h3 (by rw [Array.getElem?_toList]; exact h4)
          refine this.mono (fun i => ?_) (fun _ _ h => h) (fun _ _ _ _ h => h)
          by_cases h5 : i < (Hf 0).length
          · rw [cut_lt (Nat.lt_of_lt_of_le h5 (heap_mono hst (Nat.zero_le _) hj))]; exact Lc.later.refl _
          · rw [hσ i (by omega)]; trivial
        · intro j hj id hTid h1 _ o ho
          have hidj : id < (Hf j).length := (List.getElem?_eq_some_iff.1 ho).1
          have hno : ∀ i, 0 ≤ i → i < j → ¬ wr Hf lf i id := fun i _ hi hw => hS0 i (h1 i hi hw)
          have hid0 : id < (Hf 0).length := by
            rcases Nat.lt_or_ge id (Hf 0).length with h5 | h5
            · exact h5
            · obtain ⟨i, h6, h7, h8, h9⟩ := wr_new hst (p := 0) (q := j) (Nat.zero_le _) hj h5 hidj
              exact absurd ((made_wrote (heap_mono hst (by omega) (by omega))).2 (.inl ⟨h8, h9⟩)) (hno i h6 h7)
          rw [heap_chain hst hid0 (Nat.zero_le _) hj hno, e2] at ho
          refine ob_ext (by rw [cut_lt hidj]) (fun i => ?_) (hr1.ob id hTid o ho)
          by_cases h5 : i < (Hf 0).length
          · rw [cut_lt (Nat.lt_of_lt_of_le h5 (heap_mono hst (Nat.zero_le _) hj))]; exact Lc.later.refl _
          · rw [hσ i (by omega)]; trivial
  · cases e4

end Go.AE
