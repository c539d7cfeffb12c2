/- The operations are sound: what new objects and writes make of the relation. -/
import Derived.Test.YthdmhibmokhpgaaGreatAEOps5
set_option linter.unusedVariables false
set_option linter.unusedSimpArgs false
namespace Go.AE

variable {P : Program} {C : Cfg} {ρ : Type}

def upd (σ : Sg) (id : Nat) (l : Lc) : Sg := fun i => if i = id then l else σ i

theorem Res.congr {n n' : Nat} {H' : List Ob} {W W' : Nat → Prop} {σ σ' : Sg} {Φ Φ' : Im} {w w' : World} (h : Res n n' H' W σ Φ w σ' Φ' w') (hW : ∀ id, W id ↔ W' id) : Res n n' H' W' σ Φ w σ' Φ' w' := by
  have : W = W' := funext fun id => propext (hW id)
  subst this
  exact h

theorem Res.trans {n : Nat} {H1 H2 : List Ob} {W1 W2 : Nat → Prop} {σ1 σ2 σ3 : Sg} {Φ1 Φ2 Φ3 : Im} {w1 w2 w3 : World} (h : Res n H1.length H1 W1 σ1 Φ1 w1 σ2 Φ2 w2)
    (k : Res H1.length H2.length H2 W2 σ2 Φ2 w2 σ3 Φ3 w3) (hn : n ≤ H1.length) (hf : ∀ id, id < H1.length → ¬ W2 id → H2[id]? = H1[id]?) : Res n H2.length H2 (fun id => W1 id ∨ W2 id) σ1 Φ1 w1 σ3 Φ3 w3 where
  hp := k.hp
  tr := h.tr.trans (k.tr.weaken hn fun id _ hw => hw) (fun _ hw => .inl hw) (fun _ hw => .inr hw)
  ob := fun id hid o ho => by
    by_cases h1 : id < H1.length
    · by_cases h2 : W2 id
      · exact k.ob id (.inl h2) o ho
      · rw [hf id h1 h2] at ho
        refine k.tr.ob h.hp h1 h2 (h.ob id ?_ o ho)
        rcases hid with (h3 | h3) | h3
        · exact .inl h3
        · exact absurd h3 h2
        · exact .inr h3
    · exact k.ob id (.inr (by omega)) o ho

theorem Hp.lt_of_ne {σ : Sg} {Φ : Im} {w : World} {n id : Nat} (hp : Hp σ Φ w n) (h : σ id ≠ .none) : id < n := by
  rcases Nat.lt_or_ge id n with h1 | h1
  · exact h1
  · exact absurd (hp.dom id h1) h

theorem Hp.lt_of_covers {σ : Sg} {Φ : Im} {w : World} {n id b o : Nat} (hp : Hp σ Φ w n) (h : (σ id).covers b o) : id < n :=
  hp.lt_of_ne fun e => by rw [e] at h; exact h

/-- New cells. -/
theorem res_newCells {H : List Ob} {cs : List V} {us : List Value} {σ : Sg} {Φ : Im} {w : World} {e : TypeId} {W : Nat → Prop} (hW : ∀ id, ¬ W id) (hp : Hp σ Φ w H.length) (hr : Rs σ Φ w cs us) (h1 : ∀ u ∈ us, u.oneCell' = true) :
    ∃ σ', Res H.length (H ++ cs.map Ob.c).length (H ++ cs.map Ob.c) W σ Φ w σ' Φ (w.alloc (.cells us.toArray e)) ∧
      R σ' Φ (w.alloc (.cells us.toArray e)) (.p H.length cs.length) (.pointer (some ⟨w.heap.size, 0, Option.none⟩)) := by
  let σ' : Sg := fun i => if H.length ≤ i ∧ i < H.length + cs.length then .cell w.heap.size (i - H.length) else σ i
  have hlen : (H ++ cs.map Ob.c).length = H.length + cs.length := by simp
  have hold : ∀ i, i < H.length → σ' i = σ i := fun i hi => by simp only [σ']; rw [if_neg (by omega)]
  have hnew : ∀ j, j < cs.length → σ' (H.length + j) = .cell w.heap.size j := fun j hj => by
    simp only [σ']
    rw [if_pos ⟨by omega, by omega⟩]
    congr 1
    omega
  have hcov : ∀ i b o, (σ' i).covers b o → (i < H.length ∧ (σ i).covers b o) ∨ (∃ j, i = H.length + j ∧ j < cs.length ∧ b = w.heap.size ∧ o = j) := fun i b o hc => by
    by_cases hi : H.length ≤ i ∧ i < H.length + cs.length
    · simp only [σ', if_pos hi] at hc
      exact .inr ⟨i - H.length, by omega, by omega, hc.1, hc.2⟩
    · simp only [σ', if_neg hi] at hc
      exact .inl ⟨hp.lt_of_covers hc, hc⟩
  have htr : Tr H.length W σ Φ w σ' Φ (w.alloc (.cells us.toArray e)) := {
    os := rfl, tape := rfl, output := rfl, size := by simp,
    keep := fun b o hb _ => same.of_heap (RowKit.Below.heap_alloc w _ b hb) o
    imm := fun _ _ h => h
    immNew := fun _ _ h => .inl h
    later := fun i hi => by rw [hold i hi]; exact Lc.later.refl _
    eqs := fun i hi _ => hold i hi
    cov := fun i b o hc => by
      rcases hcov i b o hc with h2 | ⟨j, _, _, h3, _⟩
      · exact .inr (.inl h2)
      · exact .inl (by omega) }
  refine ⟨σ', ⟨?_, htr, ?_⟩, ?_⟩
  · exact {
      dom := fun i hi => by
        simp only [σ']
        rw [if_neg (by omega)]
        exact hp.dom i (by omega)
      sep := fun i j b o hi hj => by
        rcases hcov i b o hi with ⟨h2, h3⟩ | ⟨q, h2, h3, h4, h5⟩ <;> rcases hcov j b o hj with ⟨h6, h7⟩ | ⟨q', h6, h7, h8, h9⟩
        · exact hp.sep i j b o h3 h7
        · have := hp.lt i b o h3; omega
        · have := hp.lt j b o h7; omega
        · omega
      imm := fun i b o hi hΦ => by
        rcases hcov i b o hi with ⟨h2, h3⟩ | ⟨q, h2, h3, h4, h5⟩
        · exact hp.imm i b o h3 hΦ
        · have := hp.immlt b o hΦ; omega
      lt := fun i b o hi => by
        rw [World.size_alloc]
        rcases hcov i b o hi with ⟨h2, h3⟩ | ⟨q, h2, h3, h4, h5⟩
        · have := hp.lt i b o h3; omega
        · omega
      immlt := fun b o hΦ => by
        rw [World.size_alloc]
        have := hp.immlt b o hΦ
        omega }
  · intro id hid o ho
    rcases hid with h2 | h2
    · exact absurd h2 (hW id)
    · rw [List.getElem?_append_right h2, List.getElem?_map] at ho
      cases hq : cs[id - H.length]? with
      | none => rw [hq] at ho; cases ho
      | some v =>
        rw [hq] at ho
        cases ho
        have hj : id - H.length < cs.length := (List.getElem?_eq_some_iff.1 hq).1
        obtain ⟨u, hu, hru⟩ := hr.get hq
        refine ⟨w.heap.size, id - H.length, u, ?_, ?_, ?_, h1 u (List.mem_of_getElem? hu), htr.value hp hru⟩
        · have := hnew (id - H.length) hj
          rwa [Nat.add_sub_cancel' h2] at this
        · rw [World.cell?_alloc_new]
          simpa using hu
        · exact World.frozen?_alloc_new w _ _ _
  · exact .p _ _ _ _ fun j hj => .inl (by rw [hnew j hj, Nat.zero_add])

/-- A block that grew, or a new one. -/
theorem grown_same {w w' : World} {row : Option Nat} (hg : w.grownBy w' row) {b : Nat} (hb : b < w.heap.size) (hr : some b ≠ row) (o : Nat) : same w w' b o := same.of_heap (hg.block b hb hr) o

/-- A new row of one's own. -/
theorem res_newRow {H : List Ob} {σ : Sg} {Φ : Im} {w w' : World} {e : TypeId} {t : STy} {xs : List (El t)} {p : Option Addr} {cap : Nat} {vals : List Value} {mu ap nz : Bool} {W : Nat → Prop} (hW : ∀ id, ¬ W id) (hp : Hp σ Φ w H.length)
    (hg : w.grownBy w' Option.none) {n : Nat} (hn : xs.length = n) (ho : OwnV w' e t.sz (.slice p n cap) n vals) (hr : Rs σ Φ w (flat t xs) vals) (h1 : ∀ u ∈ vals, u.oneCell' = true)
    (hb : ∀ b, blk (.slice p n cap) = some b → w.heap.size ≤ b ∧ b < w'.heap.size) (hnz : nz = true → xs ≠ []) :
    ∃ σ', Res H.length (H ++ [Ob.row e t xs 0 mu ap nz]).length (H ++ [Ob.row e t xs 0 mu ap nz]) W σ Φ w σ' Φ w' ∧ R σ' Φ w' (.o H.length 0) (.slice p n cap) := by
  subst hn
  have hlen : (H ++ [Ob.row e t xs 0 mu ap nz]).length = H.length + 1 := by simp
  let σ' : Sg := upd σ H.length (.row (.slice p xs.length cap) t.sz 0 true)
  have hold : ∀ i, i < H.length → σ' i = σ i := fun i hi => by simp only [σ', upd]; rw [if_neg (by omega)]
  have hnew : σ' H.length = .row (.slice p xs.length cap) t.sz 0 true := by simp [σ', upd]
  have hcov : ∀ i b o, (σ' i).covers b o → (i < H.length ∧ (σ i).covers b o) ∨ (i = H.length ∧ w.heap.size ≤ b ∧ b < w'.heap.size) := fun i b o hc => by
    by_cases hi : i = H.length
    · subst hi
      rw [hnew] at hc
      exact .inr ⟨rfl, hb b hc⟩
    · simp only [σ', upd, if_neg hi] at hc
      exact .inl ⟨hp.lt_of_covers hc, hc⟩
  have htr : Tr H.length W σ Φ w σ' Φ w' := {
    os := hg.os, tape := hg.tape, output := hg.output, size := hg.size,
    keep := fun b o hb _ => grown_same hg hb (by simp) o
    imm := fun _ _ h => h
    immNew := fun _ _ h => .inl h
    later := fun i hi => by rw [hold i hi]; exact Lc.later.refl _
    eqs := fun i hi _ => hold i hi
    cov := fun i b o hc => by
      rcases hcov i b o hc with h2 | ⟨_, h3, _⟩
      · exact .inr (.inl h2)
      · exact .inl h3 }
  refine ⟨σ', ⟨?_, htr, ?_⟩, ?_⟩
  · exact {
      dom := fun i hi => by
        simp only [σ', upd]
        rw [if_neg (by omega)]
        exact hp.dom i (by omega)
      sep := fun i j b o hi hj => by
        rcases hcov i b o hi with ⟨h2, h3⟩ | ⟨h2, h3, _⟩ <;> rcases hcov j b o hj with ⟨h6, h7⟩ | ⟨h6, h7, _⟩
        · exact hp.sep i j b o h3 h7
        · have := hp.lt i b o h3; omega
        · have := hp.lt j b o h7; omega
        · omega
      imm := fun i b o hi hΦ => by
        rcases hcov i b o hi with ⟨h2, h3⟩ | ⟨h2, h3, _⟩
        · exact hp.imm i b o h3 hΦ
        · have := hp.immlt b o hΦ; omega
      lt := fun i b o hi => by
        rcases hcov i b o hi with ⟨h2, h3⟩ | ⟨h2, h3, h4⟩
        · exact Nat.lt_of_lt_of_le (hp.lt i b o h3) hg.size
        · exact h4
      immlt := fun b o hΦ => Nat.lt_of_lt_of_le (hp.immlt b o hΦ) hg.size }
  · intro id hid o hoo
    rcases hid with h2 | h2
    · exact absurd h2 (hW id)
    · have hid : id = H.length := by
        have := (List.getElem?_eq_some_iff.1 hoo).1
        omega
      subst hid
      rw [List.getElem?_append_right (Nat.le_refl _), Nat.sub_self] at hoo
      cases hoo
      exact ⟨_, true, hnew, hnz, fun _ => rfl, fun _ => ⟨vals, ho, htr.values hp hr, h1⟩, fun e => by cases e⟩
  · exact .o _ _ _ _ _ ⟨_, _, _, _, hnew, Nat.le_refl _, fun _ => rfl⟩

/-- A row of one's own that is written. -/
theorem res_updRow {H : List Ob} {id : Nat} {σ : Sg} {Φ : Im} {w w' : World} {e : TypeId} {t : STy} {xs : List (El t)} {v : Value} {p : Option Addr} {cap ver ver' : Nat} {vals : List Value} {mu ap nz : Bool} (hid : id < H.length)
    (hp : Hp σ Φ w H.length) (hσ : σ id = .row v t.sz ver true) (hg : w.grownBy w' (blk v)) {n : Nat} (hn : xs.length = n) (ho : OwnV w' e t.sz (.slice p n cap) n vals) (hr : Rs σ Φ w (flat t xs) vals) (h1 : ∀ u ∈ vals, u.oneCell' = true)
    (hv : ver ≤ ver') (hvv : ver' = ver → .slice p n cap = v) (hb : ∀ b, blk (.slice p n cap) = some b → blk v = some b ∨ (w.heap.size ≤ b ∧ b < w'.heap.size)) (hnz : nz = true → xs ≠ []) :
    ∃ σ', Res H.length (H.set id (Ob.row e t xs ver' mu ap nz)).length (H.set id (Ob.row e t xs ver' mu ap nz)) (fun i => i = id) σ Φ w σ' Φ w' ∧ σ' id = .row (.slice p n cap) t.sz ver' true := by
  subst hn
  let σ' : Sg := upd σ id (.row (.slice p xs.length cap) t.sz ver' true)
  have hold : ∀ i, i ≠ id → σ' i = σ i := fun i hi => by simp only [σ', upd]; rw [if_neg hi]
  have hnew : σ' id = .row (.slice p xs.length cap) t.sz ver' true := by simp [σ', upd]
  have hcov : ∀ i b o, (σ' i).covers b o → (σ i).covers b o ∨ (i = id ∧ w.heap.size ≤ b ∧ b < w'.heap.size) := fun i b o hc => by
    by_cases hi : i = id
    · subst hi
      rw [hnew] at hc
      rcases hb b hc with h2 | h2
      · refine .inl ?_
        rw [hσ]
        exact h2
      · exact .inr ⟨rfl, h2⟩
    · rw [hold i hi] at hc
      exact .inl hc
  have htr : Tr H.length (fun i => i = id) σ Φ w σ' Φ w' := {
    os := hg.os, tape := hg.tape, output := hg.output, size := hg.size,
    keep := fun b o hb hn => grown_same hg hb (fun e => by
      refine hn id (.inl rfl) ?_
      rw [hσ]
      exact e.symm) o
    imm := fun _ _ h => h
    immNew := fun _ _ h => .inl h
    later := fun i hi => by
      by_cases hi : i = id
      · subst hi
        rw [hnew, hσ]
        exact ⟨_, _, _, rfl, hv, hvv⟩
      · rw [hold i hi]; exact Lc.later.refl _
    eqs := fun i _ hn => hold i hn
    cov := fun i b o hc => by
      rcases hcov i b o hc with h2 | ⟨_, h3, _⟩
      · exact .inr (.inl ⟨hp.lt_of_covers h2, h2⟩)
      · exact .inl h3 }
  refine ⟨σ', ⟨?_, htr, ?_⟩, hnew⟩
  · exact {
      dom := fun i hi => by
        rw [List.length_set] at hi
        rw [hold i (by omega)]
        exact hp.dom i hi
      sep := fun i j b o hi hj => by
        rcases hcov i b o hi with h3 | ⟨h2, h3, _⟩ <;> rcases hcov j b o hj with h7 | ⟨h6, h7, _⟩
        · exact hp.sep i j b o h3 h7
        · have := hp.lt i b o h3; omega
        · have := hp.lt j b o h7; omega
        · omega
      imm := fun i b o hi hΦ => by
        rcases hcov i b o hi with h3 | ⟨h2, h3, _⟩
        · exact hp.imm i b o h3 hΦ
        · have := hp.immlt b o hΦ; omega
      lt := fun i b o hi => by
        rcases hcov i b o hi with h3 | ⟨h2, h3, h4⟩
        · exact Nat.lt_of_lt_of_le (hp.lt i b o h3) hg.size
        · exact h4
      immlt := fun b o hΦ => Nat.lt_of_lt_of_le (hp.immlt b o hΦ) hg.size }
  · intro i hi o hoo
    have hi : i = id := by
      rcases hi with h2 | h2
      · exact h2
      · have := (List.getElem?_eq_some_iff.1 hoo).1
        rw [List.length_set] at this
        omega
    subst hi
    rw [List.getElem?_set_self hid] at hoo
    cases hoo
    exact ⟨_, true, hnew, hnz, fun _ => rfl, fun _ => ⟨vals, ho, htr.values hp hr, h1⟩, fun e => by cases e⟩

theorem freezeAt_length : ∀ (H : List Ob) (id : Nat), (freezeAt H id).length = H.length
  | [], _ => rfl
  | .row .. :: _, 0 => rfl
  | .c _ :: _, 0 => rfl
  | .map .. :: _, 0 => rfl
  | .tmap .. :: _, 0 => rfl
  | .dead :: _, 0 => rfl
  | o :: H, n + 1 => by
    have : freezeAt (o :: H) (n + 1) = o :: freezeAt H n := by cases o <;> rfl
    rw [this, List.length_cons, List.length_cons, freezeAt_length H n]

theorem freezeAt_ne : ∀ (H : List Ob) (id i : Nat), i ≠ id → (freezeAt H id)[i]? = H[i]?
  | [], _, _, _ => rfl
  | .row .. :: _, 0, i, h => by cases i with | zero => exact absurd rfl h | succ i => rfl
  | .c _ :: _, 0, _, _ => rfl
  | .map .. :: _, 0, _, _ => rfl
  | .tmap .. :: _, 0, _, _ => rfl
  | .dead :: _, 0, _, _ => rfl
  | o :: H, n + 1, i, h => by
    have e : freezeAt (o :: H) (n + 1) = o :: freezeAt H n := by cases o <;> rfl
    rw [e]
    cases i with
    | zero => rfl
    | succ i => simp only [List.getElem?_cons_succ]; exact freezeAt_ne H n i (by omega)

theorem freezeAt_eq : ∀ (H : List Ob) (id : Nat), (freezeAt H id)[id]? = (H[id]?).map fun o => match o with | .row e t xs ver _ _ nz => .row e t xs ver false false nz | o => o
  | [], _ => rfl
  | .row .. :: _, 0 => rfl
  | .c _ :: _, 0 => rfl
  | .map .. :: _, 0 => rfl
  | .tmap .. :: _, 0 => rfl
  | .dead :: _, 0 => rfl
  | o :: H, n + 1 => by
    have e : freezeAt (o :: H) (n + 1) = o :: freezeAt H n := by cases o <;> rfl
    rw [e]
    simp only [List.getElem?_cons_succ]
    exact freezeAt_eq H n

theorem freezeAll_length : ∀ (H : List Ob) (rs : List Nat), (freezeAll H rs).length = H.length
  | _, [] => rfl
  | H, id :: r => by rw [freezeAll, freezeAll_length, freezeAt_length]

theorem freezeAll_ne : ∀ (H : List Ob) (rs : List Nat) (i : Nat), i ∉ rs → (freezeAll H rs)[i]? = H[i]?
  | _, [], _, _ => rfl
  | H, id :: r, i, h => by
    simp only [List.mem_cons, not_or] at h
    rw [freezeAll, freezeAll_ne _ r i h.2, freezeAt_ne H id i h.1]

/-- Nothing is done. -/
theorem res_noop {H : List Ob} {W : Nat → Prop} {σ : Sg} {Φ : Im} {w : World} (hp : Hp σ Φ w H.length) (ho : ∀ id, W id → ∀ o, H[id]? = some o → ObOk σ Φ w id o) : Res H.length H.length H W σ Φ w σ Φ w where
  hp := hp
  tr := Tr.refl _ _ _ _ _
  ob := fun id hid o hoo => by
    rcases hid with h | h
    · exact ho id h o hoo
    · have := (List.getElem?_eq_some_iff.1 hoo).1
      omega

/-- A row of one's own, as a slice that nobody writes. -/
theorem own_sl {σ : Sg} {Φ : Im} {w : World} {e : TypeId} {t : STy} {xs : List (El t)} {v : Value} {vals : List Value} (ho : OwnV w e t.sz v xs.length vals) (hr : Rs σ Φ w (flat t xs) vals) (h1 : ∀ u ∈ vals, u.oneCell' = true)
    (hΦ : ∀ b o, blk v = some b → Φ b o) : R σ Φ w (.sl t xs false) v := by
  obtain ⟨hl, ho⟩ := ho
  rcases ho with ⟨p, rfl, hn⟩ | ⟨g, cap, cur, rfl, hc, hg, hle, hm, hs, ht⟩
  · have hx : xs = [] := List.eq_nil_of_length_eq_zero hn
    subst hx
    exact R.sl t [] false p 0 [] rfl (fun j v u h => by simp [AE.flat] at h) (Nat.le_refl _) (fun e => by cases e) (fun j u h => by simp at h)
  · refine R.sl t xs false _ cap vals hr.1 hr.2 hle (fun e => by cases e) fun j u hj => ⟨_, rfl, rfl, hΦ g _ ?_, ?_, h1 u (List.mem_of_getElem? hj)⟩
    · cases cap with
      | zero => omega
      | succ c => rfl
    · have hjl : j < xs.length * t.sz := by rw [← hl]; exact (List.getElem?_eq_some_iff.1 hj).1
      rw [← ht, List.getElem?_take, if_pos hjl] at hj
      simp only [World.cell?, hg, Nat.zero_add]
      simpa using hj

/-- What is frozen. -/
theorem res_freeze1 {H : List Ob} {id : Nat} {σ : Sg} {Φ : Im} {w : World} (hp : Hp σ Φ w H.length) (ho : ∀ o, H[id]? = some o → ObOk σ Φ w id o) :
    ∃ σ' Φ', Res H.length (freezeAt H id).length (freezeAt H id) (fun i => i = id) σ Φ w σ' Φ' w ∧
      (∀ e t xs ver mu ap nz, H[id]? = some (.row e t xs ver mu ap nz) → ∃ v own, σ id = .row v t.sz ver own ∧ σ' id = .row v t.sz ver false ∧ R σ' Φ' w (.sl t xs false) v) := by
  rw [freezeAt_length]
  have hnot : (∀ e t xs ver mu ap nz, H[id]? ≠ some (.row e t xs ver mu ap nz)) → ∃ σ' Φ', Res H.length H.length (freezeAt H id) (fun i => i = id) σ Φ w σ' Φ' w ∧
      (∀ e t xs ver mu ap nz, H[id]? = some (.row e t xs ver mu ap nz) → ∃ v own, σ id = .row v t.sz ver own ∧ σ' id = .row v t.sz ver false ∧ R σ' Φ' w (.sl t xs false) v) := by
    intro hn
    refine ⟨σ, Φ, ⟨hp, Tr.refl _ _ _ _ _, fun i hi o hoo => ?_⟩, fun e t xs ver mu ap nz h => absurd h (hn e t xs ver mu ap nz)⟩
    have hi : i = id := by
      rcases hi with h2 | h2
      · exact h2
      · have := (List.getElem?_eq_some_iff.1 hoo).1
        rw [freezeAt_length] at this
        omega
    subst hi
    rw [freezeAt_eq] at hoo
    cases hq : H[i]? with
    | none => rw [hq] at hoo; cases hoo
    | some ob =>
      rw [hq] at hoo
      cases ob with
      | row e t xs ver mu ap nz => exact absurd hq (hn e t xs ver mu ap nz)
      | _ => simp only [Option.map_some, Option.some.injEq] at hoo; subst hoo; exact ho _ hq
  cases hq : H[id]? with
  | none => rw [hq] at hnot; exact hnot (by simp)
  | some ob =>
    cases ob with
    | row e t xs ver mu ap nz =>
      obtain ⟨v, own, h1, h2, h3, h4, h5⟩ := ho _ hq
      have hlt : id < H.length := (List.getElem?_eq_some_iff.1 hq).1
      have hob : ∀ i, (i = id ∨ H.length ≤ i) → ∀ o, (freezeAt H id)[i]? = some o → i = id ∧ o = .row e t xs ver false false nz := fun i hi o hoo => by
        have hi : i = id := by
          rcases hi with h2 | h2
          · exact h2
          · have := (List.getElem?_eq_some_iff.1 hoo).1
            rw [freezeAt_length] at this
            omega
        subst hi
        rw [freezeAt_eq, hq] at hoo
        cases hoo
        exact ⟨rfl, rfl⟩
      cases own with
      | false =>
        refine ⟨σ, Φ, ⟨hp, Tr.refl _ _ _ _ _, fun i hi o hoo => ?_⟩, fun e' t' xs' ver' mu' ap' nz' h => ?_⟩
        · obtain ⟨rfl, rfl⟩ := hob i hi o hoo
          exact ⟨v, false, h1, h2, fun e => (by cases e), fun e => (by cases e), fun _ => h5 rfl⟩
        · cases h
          exact ⟨v, false, h1, h1, h5 rfl⟩
      | true =>
        obtain ⟨vals, hov, hr, h1c⟩ := h4 rfl
        let σ' : Sg := upd σ id (.row v t.sz ver false)
        let Φ' : Im := fun b o => Φ b o ∨ blk v = some b
        have hold : ∀ i, i ≠ id → σ' i = σ i := fun i hi => by simp only [σ', upd]; rw [if_neg hi]
        have hnew : σ' id = .row v t.sz ver false := by simp [σ', upd]
        have hcid : ∀ b o, blk v = some b → (σ id).covers b o := fun b o h => by rw [h1]; exact h
        have hcov : ∀ i b o, (σ' i).covers b o → i ≠ id ∧ (σ i).covers b o := fun i b o hc => by
          by_cases hi : i = id
          · subst hi; rw [hnew] at hc; exact hc.elim
          · rw [hold i hi] at hc; exact ⟨hi, hc⟩
        have htr : Tr H.length (fun i => i = id) σ Φ w σ' Φ' w := {
          os := rfl, tape := rfl, output := rfl, size := Nat.le_refl _,
          keep := fun b o _ _ => same.refl w b o
          imm := fun _ _ h => .inl h
          immNew := fun b o h => by
            rcases h with h | h
            · exact .inl h
            · exact .inr (.inr ⟨id, .inl rfl, hcid b o h⟩)
          later := fun i hi => by
            by_cases hi : i = id
            · subst hi
              rw [hnew, h1]
              exact ⟨_, _, _, rfl, Nat.le_refl _, fun _ => rfl⟩
            · rw [hold i hi]; exact Lc.later.refl _
          eqs := fun i _ hn => hold i hn
          cov := fun i b o hc => .inr (.inl ⟨hp.lt_of_covers (hcov i b o hc).2, (hcov i b o hc).2⟩) }
        have hsl : R σ' Φ' w (.sl t xs false) v := own_sl hov (htr.values hp hr) h1c fun b o h => .inr h
        refine ⟨σ', Φ', ⟨?_, htr, fun i hi o hoo => ?_⟩, fun e' t' xs' ver' mu' ap' nz' h => ?_⟩
        · exact {
            dom := fun i hi => by
              rw [hold i (by omega)]
              exact hp.dom i hi
            sep := fun i j b o hi hj => hp.sep i j b o (hcov i b o hi).2 (hcov j b o hj).2
            imm := fun i b o hi hΦ => by
              rcases hΦ with hΦ | hΦ
              · exact hp.imm i b o (hcov i b o hi).2 hΦ
              · exact (hcov i b o hi).1 (hp.sep i id b o (hcov i b o hi).2 (hcid b o hΦ))
            lt := fun i b o hi => hp.lt i b o (hcov i b o hi).2
            immlt := fun b o hΦ => by
              rcases hΦ with hΦ | hΦ
              · exact hp.immlt b o hΦ
              · exact hp.lt id b o (hcid b o hΦ) }
        · obtain ⟨rfl, rfl⟩ := hob i hi o hoo
          exact ⟨v, false, hnew, h2, fun e => (by cases e), fun e => (by cases e), fun _ => hsl⟩
        · cases h
          exact ⟨v, true, h1, hnew, hsl⟩
    | _ => rw [hq] at hnot; exact hnot (by simp)

theorem res_freeze : ∀ {rs : List Nat} {H : List Ob} {σ : Sg} {Φ : Im} {w : World}, Hp σ Φ w H.length → ObsOk σ Φ w H (· ∈ rs) →
    ∃ σ' Φ', Res H.length (freezeAll H rs).length (freezeAll H rs) (· ∈ rs) σ Φ w σ' Φ' w ∧
      (∀ id ∈ rs, ∀ e t xs ver mu ap nz, H[id]? = some (.row e t xs ver mu ap nz) → ∃ v own, σ id = .row v t.sz ver own ∧ σ' id = .row v t.sz ver false ∧ R σ' Φ' w (.sl t xs false) v)
  | [], H, σ, Φ, w, hp, _ => ⟨σ, Φ, (res_noop hp fun id h => by cases h).congr fun id => Iff.rfl, fun id h => by cases h⟩
  | id :: r, H, σ, Φ, w, hp, ho => by
    obtain ⟨σ1, Φ1, hr1, hf1⟩ := res_freeze1 hp (ho id (by simp))
    have ho1 : ObsOk σ1 Φ1 w (freezeAt H id) (· ∈ r) := fun i hi o hoo => by
      by_cases h1 : i = id
      · exact hr1.ob i (.inl h1) o hoo
      · have hlt := (List.getElem?_eq_some_iff.1 hoo).1
        rw [freezeAt_length] at hlt
        rw [freezeAt_ne H id i h1] at hoo
        exact hr1.tr.ob hp hlt h1 (ho i (List.mem_cons_of_mem _ hi) o hoo)
    obtain ⟨σ2, Φ2, hr2, hf2⟩ := res_freeze hr1.hp ho1
    refine ⟨σ2, Φ2, (Res.trans hr1 hr2 (by rw [freezeAt_length]; exact Nat.le_refl _) fun i hi hn => freezeAll_ne _ r i hn).congr fun i => by simp, fun i hi e t xs ver mu ap nz hq => ?_⟩
    by_cases h1 : i = id
    · subst h1
      obtain ⟨v, own, e1, e2, e3⟩ := hf1 e t xs ver mu ap nz hq
      by_cases h2 : i ∈ r
      · obtain ⟨v', own', e4, e5, e6⟩ := hf2 i h2 e t xs ver false false nz (by rw [freezeAt_eq, hq]; rfl)
        rw [e2] at e4
        cases e4
        exact ⟨v, own, e1, e5, e6⟩
      · have hlt := (List.getElem?_eq_some_iff.1 hq).1
        have e7 := hr2.tr.eqs i (by rw [freezeAt_length]; exact hlt) h2
        exact ⟨v, own, e1, e7.trans e2, hr2.tr.value hr1.hp e3⟩
    · have h2 : i ∈ r := by simpa [h1] using hi
      have hlt := (List.getElem?_eq_some_iff.1 hq).1
      obtain ⟨v', own', e4, e5, e6⟩ := hf2 i h2 e t xs ver mu ap nz (by rw [freezeAt_ne H id i h1]; exact hq)
      have e7 := hr1.tr.eqs i hlt h1
      exact ⟨v', own', e7 ▸ e4, e5, e6⟩

/-- A part of a row that is frozen. -/
theorem R.sl_part {σ : Sg} {Φ : Im} {w : World} {t : STy} {xs : List (El t)} {p' p : Option Addr} {n cap' cap off len : Nat} (hr : R σ Φ w (.sl t xs false) (.slice p' n cap')) (hle : off + len ≤ n) (hc : len ≤ cap)
    (hp : 0 < len → ∃ a, p' = some a ∧ p = some ⟨a.block, a.off + off * t.sz, Option.none⟩) : R σ Φ w (.sl t ((xs.drop off).take len) false) (.slice p len cap) := by
  cases hr with
  | sl _ _ _ _ _ vals hl hr hn he hw =>
    have hrs : Rs σ Φ w (flat t xs) vals := ⟨hl, hr⟩
    have hlen : ((xs.drop off).take len).length = len := by simp; omega
    have hrs' : Rs σ Φ w (flat t ((xs.drop off).take len)) ((vals.drop (off * t.sz)).take (len * t.sz)) := by
      rw [flat_take, flat_drop]
      exact (hrs.drop _).take _
    have := R.sl t ((xs.drop off).take len) false p cap ((vals.drop (off * t.sz)).take (len * t.sz)) hrs'.1 hrs'.2 (by rw [hlen]; exact hc) (fun e => by cases e) fun j u hj => by
      rw [List.getElem?_take] at hj
      split at hj
      · rename_i hlt
        rw [List.getElem?_drop] at hj
        have hpos : 0 < len := by
          rcases Nat.eq_zero_or_pos len with h0 | h0
          · subst h0; omega
          · exact h0
        obtain ⟨a, rfl, hsp, h1, h2, h3⟩ := hw _ u hj
        obtain ⟨a', e1, rfl⟩ := hp hpos
        cases e1
        refine ⟨_, rfl, rfl, ?_, ?_, h3⟩ <;> dsimp only <;> rw [Nat.add_assoc]
        · exact h1
        · exact h2
      · cases hj
    rwa [hlen] at this

theorem rows1_mem {id ver : Nat} : id ∈ rows1 (.o id ver) := by simp [rows1]

/-- A value, its rows frozen. -/
theorem fz0_sound {rs : List Nat} {H : List Ob} {σ σ' : Sg} {Φ Φ' : Im} {w : World} (hp : Hp σ Φ w H.length) (hr : Res H.length (freezeAll H rs).length (freezeAll H rs) (· ∈ rs) σ Φ w σ' Φ' w)
    (hf : ∀ id ∈ rs, ∀ e t xs ver mu ap nz, H[id]? = some (.row e t xs ver mu ap nz) → ∃ v own, σ id = .row v t.sz ver own ∧ σ' id = .row v t.sz ver false ∧ R σ' Φ' w (.sl t xs false) v)
    {v : V} {u : Value} (hv : R σ Φ w v u) (hrs : ∀ id ∈ rows1 v, id ∈ rs) : R σ' Φ' w (fz0 H v) u := by
  have hm := hr.tr.value hp hv
  cases hv with
  | o id ver p n cap hq =>
    show R σ' Φ' w (fz1 H (.o id ver)) _
    simp only [fz1]
    split
    · rename_i e t xs ver' mu ap nz hob
      split
      · rename_i hver
        subst hver
        obtain ⟨v, own, e1, e2, e3⟩ := hf id (hrs id (by simp [rows1])) e t xs ver mu ap nz hob
        obtain ⟨v', sz, ver2, own', e4, e5, e6⟩ := hq
        rw [e1] at e4
        cases e4
        have := e6 rfl
        subst this
        exact e3
      · exact .u _
    · exact .u _
  | ov id ver off len p cap hc hq =>
    show R σ' Φ' w (fz1 H (.ov id ver off len)) _
    simp only [fz1]
    split
    · rename_i e t xs ver' mu ap nz hob
      split
      · rename_i hver
        subst hver
        obtain ⟨v, own, e1, e2, e3⟩ := hf id (hrs id (by simp [rows1])) e t xs ver mu ap nz hob
        obtain ⟨v', sz, ver2, own', e4, e5, e6⟩ := hq
        rw [e1] at e4
        cases e4
        obtain ⟨p', n, cap', e7, hle, hpp⟩ := e6 rfl
        subst e7
        exact e3.sl_part hle hc hpp
      · exact .u _
    · exact .u _
  | _ => exact hm

theorem fz0s_sound {rs : List Nat} {H : List Ob} {σ σ' : Sg} {Φ Φ' : Im} {w : World} (hp : Hp σ Φ w H.length) (hr : Res H.length (freezeAll H rs).length (freezeAll H rs) (· ∈ rs) σ Φ w σ' Φ' w)
    (hf : ∀ id ∈ rs, ∀ e t xs ver mu ap nz, H[id]? = some (.row e t xs ver mu ap nz) → ∃ v own, σ id = .row v t.sz ver own ∧ σ' id = .row v t.sz ver false ∧ R σ' Φ' w (.sl t xs false) v)
    {vs : List V} {us : List Value} (hv : Rs σ Φ w vs us) (hrs : ∀ id ∈ vs.flatMap rows1, id ∈ rs) : Rs σ' Φ' w (vs.map (fz0 H)) us :=
  ⟨by simp [hv.1], fun j v u h1 h2 => by
    rw [List.getElem?_map] at h1
    cases hq : vs[j]? with
    | none => rw [hq] at h1; cases h1
    | some v0 =>
      rw [hq] at h1
      cases h1
      exact fz0_sound hp hr hf (hv.2 j v0 u hq h2) fun id hid => hrs id (List.mem_flatMap.2 ⟨v0, List.mem_of_getElem? hq, hid⟩)⟩

end Go.AE

/- The operations are sound: variables, structs, rows that are made, appended to, copied. -/
namespace Go.AE

variable {P : Program} {C : Cfg} {ρ : Type}

theorem asSl_R {σ : Sg} {Φ : Im} {w : World} {t : STy} {v : V} {xs : List (El t)} {u : Value} (h : asSl t v = some xs) (hr : R σ Φ w v u) : R σ Φ w (.sl t xs false) u := by
  rcases asSl_spec h with ⟨rfl, rfl⟩ | ⟨ex, rfl⟩
  · cases hr with
    | nils => exact R.nils_sl t false
  · cases hr with
    | sl _ _ _ p cap vals hl hr hn he hw => exact .sl t xs false p cap vals hl hr hn (fun e => by cases e) hw

theorem Rs.split {σ : Sg} {Φ : Im} {w : World} {v : V} {vs : List V} {us : List Value} (h : Rs σ Φ w (v :: vs) us) : ∃ u us', us = u :: us' ∧ R σ Φ w v u ∧ Rs σ Φ w vs us' := by
  match us, h with
  | [], h => have := h.1; simp at this
  | u :: us', h => exact ⟨u, us', rfl, h.2 0 v u rfl rfl, by have := h.1; simpa using this, fun j v' u' h1 h2 => h.2 (j + 1) v' u' (by simpa using h1) (by simpa using h2)⟩

theorem Rs.nil_inv {σ : Sg} {Φ : Im} {w : World} {us : List Value} (h : Rs σ Φ w [] us) : us = [] := List.eq_nil_of_length_eq_zero h.1

/-- Cells of an element: they are those that were told. -/
theorem ofCells_R {σ : Sg} {Φ : Im} {w : World} {t : STy} {cs : List V} {x : El t} {us : List Value} (h : ofCells t cs = some x) (hr : Rs σ Φ w cs us) : Rs σ Φ w (cellsOf t x) us := by
  cases t <;> dsimp only [ofCells] at h <;> split at h <;> first
    | (injection h with h; subst h; exact hr)
    | contradiction
    | (split at h
       · rename_i hs
         injection h with h
         subst h
         obtain ⟨u0, us, rfl, h0, hr⟩ := hr.split
         obtain ⟨u1, us, rfl, h1, hr⟩ := hr.split
         obtain ⟨u2, us, rfl, h2, hr⟩ := hr.split
         obtain ⟨u3, us, rfl, h3, hr⟩ := hr.split
         obtain ⟨u4, us, rfl, h4, hr⟩ := hr.split
         obtain ⟨u5, us, rfl, h5, hr⟩ := hr.split
         obtain ⟨u6, us, rfl, h6, hr⟩ := hr.split
         obtain ⟨u7, us, rfl, h7, hr⟩ := hr.split
         obtain ⟨u8, us, rfl, h8, hr⟩ := hr.split
         obtain ⟨u9, us, rfl, h9, hr⟩ := hr.split
         obtain ⟨ua, us, rfl, ha, hr⟩ := hr.split
         obtain rfl := hr.nil_inv
         exact Rs.cons h0 (Rs.cons h1 (Rs.cons h2 (Rs.cons h3 (Rs.cons h4 (Rs.cons h5 (Rs.cons h6 (Rs.cons h7 (Rs.cons h8 (Rs.cons h9 (Rs.cons (asSl_R hs ha) Rs.nil))))))))))
       · cases h)
    | (split at h
       · rename_i hs hs'
         injection h with h
         subst h
         obtain ⟨u0, us, rfl, h0, hr⟩ := hr.split
         obtain ⟨u1, us, rfl, h1, hr⟩ := hr.split
         obtain ⟨u2, us, rfl, h2, hr⟩ := hr.split
         obtain ⟨u3, us, rfl, h3, hr⟩ := hr.split
         obtain ⟨u4, us, rfl, h4, hr⟩ := hr.split
         obtain ⟨u5, us, rfl, h5, hr⟩ := hr.split
         obtain ⟨u6, us, rfl, h6, hr⟩ := hr.split
         obtain rfl := hr.nil_inv
         exact Rs.cons (asSl_R hs h0) (Rs.cons h1 (Rs.cons h2 (Rs.cons h3 (Rs.cons h4 (Rs.cons h5 (Rs.cons (asSl_R hs' h6) Rs.nil))))))
       · cases h)
    | (split at h
       · rename_i hs hs'
         injection h with h
         subst h
         obtain ⟨u0, us, rfl, h0, hr⟩ := hr.split
         obtain ⟨u1, us, rfl, h1, hr⟩ := hr.split
         obtain ⟨u2, us, rfl, h2, hr⟩ := hr.split
         obtain ⟨u3, us, rfl, h3, hr⟩ := hr.split
         obtain rfl := hr.nil_inv
         exact Rs.cons (asSl_R hs h0) (Rs.cons h1 (Rs.cons h2 (Rs.cons (asSl_R hs' h3) Rs.nil)))
       · cases h)
    | (obtain ⟨u0, us, rfl, h0, hr⟩ := hr.split
       obtain rfl := hr.nil_inv
       exact Rs.cons (asSl_R h h0) Rs.nil)
    | (rename_i hx; exfalso; rcases cs with _ | ⟨s, _ | ⟨s', r⟩⟩ <;> first | (exact hx _ rfl) | (cases h))

theorem ofCells_length {t : STy} {cs : List V} {x : El t} (h : ofCells t cs = some x) : cs.length = t.sz := by
  cases t <;> dsimp only [ofCells] at h <;> split at h <;> first | rfl | contradiction | (rename_i hx; exfalso; rcases cs with _ | ⟨s, _ | ⟨s', r⟩⟩ <;> first | (exact hx _ rfl) | (cases h))

/-- Cells, one by one. -/
structure Stored (b o : Nat) (us : List Value) (w w' : World) : Prop where
  os : w'.os = w.os
  tape : w'.tape = w.tape
  output : w'.output = w.output
  size : w'.heap.size = w.heap.size
  cell : ∀ (j : Nat) (u : Value), us[j]? = some u → w'.cell? ⟨b, o + j, Option.none⟩ = some u
  frozen : ∀ a : Addr, w'.frozen? a = w.frozen? a
  other : ∀ b' o', ¬ (b' = b ∧ o ≤ o' ∧ o' < o + us.length) → same w w' b' o'

theorem same_setCell (w : World) (b o b' o' : Nat) (v : Value) (h : ¬ (b' = b ∧ o' = o)) : same w (w.setCell ⟨b, o, Option.none⟩ v) b' o' := by
  by_cases hb : b' = b
  · subst hb
    have ho : o' ≠ o := fun e => h ⟨rfl, e⟩
    intro x hx
    have hm : (w.setCell ⟨b', o, Option.none⟩ v).heap[b']? = (w.heap[b']?).map fun
        | .cells c elem frozen => .cells (c.setIfInBounds o v) elem frozen
        | o => o := by
      simp only [World.setCell, Array.getElem?_modify, if_true]
      cases w.heap[b']? with
      | none => rfl
      | some x => cases x <;> rfl
    rw [hm, hx]
    cases x with
    | cells c e fr => exact ⟨_, rfl, by simp, by simp [Ne.symm ho]⟩
    | _ => rfl
  · exact same.of_heap (RowKit.Below.heap_setCell _ _ _ _ (by simpa using hb)) o'

theorem run_storeCells_any (b : Nat) : ∀ (us : List Value) (off i : Nat) (w : World), (∀ j, j < us.length → (∃ old, w.cell? ⟨b, off + i + j, Option.none⟩ = some old) ∧ w.frozen? ⟨b, off + i + j, Option.none⟩ = false) → (∀ u ∈ us, u.oneCell' = true) →
    ∃ w', (storeCells ⟨b, off, Option.none⟩ us i).run P w = .ok () w' ∧ Stored b (off + i) us w w'
  | [], off, i, w, _, _ => ⟨w, rfl, rfl, rfl, rfl, rfl, fun j u h => by simp at h, fun _ => rfl, fun b' o' _ => same.refl w b' o'⟩
  | v :: rest, off, i, w, hc, h1 => by
    obtain ⟨⟨old, hold⟩, hfr⟩ := hc 0 (by simp)
    rw [Nat.add_zero] at hold hfr
    have hs1 := same_setCell w b (off + i)
    have hst : (store ((⟨b, off, Option.none⟩ : Addr).add i) v).run P w = .ok () (w.setCell ⟨b, off + i, Option.none⟩ v) := by
      rw [add_mk, run_store P w _ v _ (h1 v (by simp)), hold]
      simp [hfr]
    obtain ⟨w', hrun, hS⟩ := run_storeCells_any b rest off (i + 1) (w.setCell ⟨b, off + i, Option.none⟩ v) (fun j hj => by
      obtain ⟨⟨old, ho⟩, hf⟩ := hc (j + 1) (by simpa using hj)
      have e : off + i + (j + 1) = off + (i + 1) + j := by omega
      rw [e] at ho hf
      refine ⟨⟨old, ?_⟩, by rw [World.frozen?_setCell]; exact hf⟩
      rw [World.cell?_setCell_other _ _ _ _ (by intro e; injection e; omega)]
      exact ho) fun u hu => h1 u (by simp [hu])
    refine ⟨w', by simp only [storeCells, Sem.run_bind, hst, Result.andThen_ok, hrun], hS.os, hS.tape, hS.output, hS.size.trans (World.size_setCell w _ _), fun j u hj => ?_, fun a => (hS.frozen a).trans (World.frozen?_setCell _ _ _ _), fun b' o' hn => ?_⟩
    · cases j with
      | zero =>
        simp at hj
        subst hj
        have hcell : (w.setCell ⟨b, off + i, Option.none⟩ v).cell? ⟨b, off + i, Option.none⟩ = some v := World.cell?_setCell_same _ _ _ hold
        exact (hS.other b (off + i) (by omega)).cell hcell
      | succ j =>
        simp at hj
        have := hS.cell j u hj
        rw [← this]
        congr 2
        omega
    · simp only [List.length_cons] at hn
      exact (hs1 b' o' v (by omega)).trans (hS.other b' o' (by omega))

theorem storeH_spec : ∀ {H : List Ob} {vs : List V} {H' : List Ob}, storeC.storeH H vs = some H' → H'.length = H.length ∧ (∀ (j : Nat) (v : V), vs[j]? = some v → (∃ v0, H[j]? = some (.c v0)) ∧ H'[j]? = some (.c v)) ∧ ∀ i, vs.length ≤ i → H'[i]? = H[i]?
  | H, [], H', h => by
    simp only [storeC.storeH, Option.some.injEq] at h
    subst h
    exact ⟨rfl, fun j v hj => by simp at hj, fun i _ => rfl⟩
  | .c v0 :: H, v :: vs, H', h => by
    simp only [storeC.storeH] at h
    split at h
    · rename_i H1 hH
      injection h with h
      subst h
      obtain ⟨h1, h2, h3⟩ := storeH_spec hH
      refine ⟨by simp [h1], fun j v' hj => ?_, fun i hi => ?_⟩
      · cases j with
        | zero => simp at hj; subst hj; exact ⟨⟨v0, rfl⟩, rfl⟩
        | succ j => simp at hj; simpa using h2 j v' hj
      · cases i with
        | zero => simp at hi
        | succ i => simp at hi ⊢; exact h3 i hi
    · cases h
  | [], _ :: _, _, h => by simp [storeC.storeH] at h
  | .row .. :: _, _ :: _, _, h => by simp [storeC.storeH] at h
  | .map .. :: _, _ :: _, _, h => by simp [storeC.storeH] at h
  | .tmap .. :: _, _ :: _, _, h => by simp [storeC.storeH] at h
  | .dead :: _, _ :: _, _, h => by simp [storeC.storeH] at h

theorem storeC_spec : ∀ {H : List Ob} {id : Nat} {vs : List V} {H' : List Ob}, storeC H id vs = some H' → H'.length = H.length ∧ (∀ (j : Nat) (v : V), vs[j]? = some v → (∃ v0, H[id + j]? = some (.c v0)) ∧ H'[id + j]? = some (.c v)) ∧
    ∀ i, ¬ (id ≤ i ∧ i < id + vs.length) → H'[i]? = H[i]?
  | H, 0, vs, H', h => by
    have h : storeC.storeH H vs = some H' := by cases H <;> exact h
    obtain ⟨h1, h2, h3⟩ := storeH_spec h
    exact ⟨h1, fun j v hj => by rw [Nat.zero_add]; exact h2 j v hj, fun i hi => h3 i (by omega)⟩
  | [], id + 1, vs, H', h => by simp [storeC] at h
  | o :: H, id + 1, vs, H', h => by
    simp only [storeC] at h
    split at h
    · rename_i H1 hH
      injection h with h
      subst h
      obtain ⟨h1, h2, h3⟩ := storeC_spec hH
      refine ⟨by simp [h1], fun j v hj => ?_, fun i hi => ?_⟩
      · have e : id + 1 + j = (id + j) + 1 := by omega
        rw [e]
        simpa using h2 j v hj
      · cases i with
        | zero => rfl
        | succ i => simp; exact h3 i (by omega)
    · cases h

/-- Cells of a variable that are written. -/
theorem res_storeC {H H' : List Ob} {id b off : Nat} {vs : List V} {us : List Value} {σ : Sg} {Φ : Im} {w w' : World} (h : storeC H id vs = some H') (hp : Hp σ Φ w H.length) (hr : Rs σ Φ w vs us) (h1 : ∀ u ∈ us, u.oneCell' = true)
    (hσ : ∀ j, j < vs.length → σ (id + j) = .cell b (off + j)) (hfr : ∀ j, j < vs.length → w.frozen? ⟨b, off + j, Option.none⟩ = false) (hS : Stored b off us w w') :
    Res H.length H'.length H' (fun i => id ≤ i ∧ i < id + vs.length) σ Φ w σ Φ w' := by
  obtain ⟨hl, hin, hout⟩ := storeC_spec h
  have htr : Tr H.length (fun i => id ≤ i ∧ i < id + vs.length) σ Φ w σ Φ w' := {
    os := hS.os, tape := hS.tape, output := hS.output, size := Nat.le_of_eq hS.size.symm,
    keep := fun b' o' hb hn => hS.other b' o' fun ⟨e1, e2, e3⟩ => by
      subst e1
      rw [hr.1] at e3
      refine hn (id + (o' - off)) (.inl ⟨by omega, by omega⟩) ?_
      rw [hσ (o' - off) (by omega)]
      exact ⟨rfl, by omega⟩
    imm := fun _ _ h => h
    immNew := fun _ _ h => .inl h
    later := fun i _ => Lc.later.refl _
    eqs := fun i _ _ => rfl
    cov := fun i b o hc => .inr (.inl ⟨hp.lt_of_covers hc, hc⟩) }
  refine ⟨?_, htr, fun i hi o hoo => ?_⟩
  · rw [hl]
    exact ⟨hp.dom, hp.sep, hp.imm, fun i b o hc => by rw [hS.size]; exact hp.lt i b o hc, fun b o hΦ => by rw [hS.size]; exact hp.immlt b o hΦ⟩
  · have hi' : id ≤ i ∧ i < id + vs.length := by
      rcases hi with h2 | h2
      · exact h2
      · have := (List.getElem?_eq_some_iff.1 hoo).1
        omega
    have hv : vs[i - id]? = some (vs[i - id]'(by omega)) := by simp
    obtain ⟨_, h3⟩ := hin (i - id) _ hv
    rw [Nat.add_sub_cancel' hi'.1] at h3
    rw [h3] at hoo
    cases hoo
    obtain ⟨u, hu, hru⟩ := hr.get hv
    have e := hσ (i - id) (by omega)
    rw [Nat.add_sub_cancel' hi'.1] at e
    exact ⟨b, off + (i - id), u, e, hS.cell _ u hu, by rw [hS.frozen]; exact hfr _ (by omega), h1 u (List.mem_of_getElem? hu), htr.value hp hru⟩

/-- Cells that are put over others. -/
theorem splice_spec : ∀ (cs : List V) (n : Nat) (vs : List V), n + vs.length ≤ cs.length → splice cs n vs = cs.take n ++ (vs ++ cs.drop (n + vs.length))
  | cs, 0, vs, _ => by
    have : splice cs 0 vs = vs ++ cs.drop vs.length := by cases cs <;> rfl
    simp [this]
  | [], n + 1, vs, h => by simp at h
  | c :: cs, n + 1, vs, h => by
    simp only [List.length_cons] at h
    have e : n + 1 + vs.length = (n + vs.length) + 1 := by omega
    rw [splice, splice_spec cs n vs (by omega), e]
    simp

theorem Rs.splice {σ : Sg} {Φ : Im} {w : World} {cs vs : List V} {us ws : List Value} {n : Nat} (h : Rs σ Φ w cs us) (k : Rs σ Φ w vs ws) (hn : n + vs.length ≤ cs.length) : Rs σ Φ w (AE.splice cs n vs) (us.take n ++ (ws ++ us.drop (n + ws.length))) := by
  rw [splice_spec cs n vs hn, k.1]
  exact (h.take n).append (k.append (h.drop _))

/-- One element of a row, exchanged. -/
theorem Rs.set_el {σ : Sg} {Φ : Im} {w : World} {t : STy} {xs : List (El t)} {vals us : List Value} {j : Nat} {z : El t} (h : Rs σ Φ w (flat t xs) vals) (hz : Rs σ Φ w (cellsOf t z) us) (hj : j < xs.length) :
    Rs σ Φ w (flat t (xs.set j z)) (vals.take (j * t.sz) ++ (us ++ vals.drop (j * t.sz + t.sz))) := by
  have e : flat t (xs.set j z) = (flat t xs).take (j * t.sz) ++ (cellsOf t z ++ (flat t xs).drop (j * t.sz + t.sz)) := by
    rw [List.set_eq_take_append_cons_drop, if_pos hj, flat_append, flat_take]
    have : flat t (z :: xs.drop (j + 1)) = cellsOf t z ++ flat t (xs.drop (j + 1)) := rfl
    rw [this, flat_drop, Nat.add_mul, Nat.one_mul]
  rw [e]
  exact (h.take _).append (hz.append (h.drop _))

end Go.AE
