/- The operations are sound: slices, lengths, what is appended or copied. -/
import Derived.Test.YthdmhibmokhpgaaGreatAEOps3
import Derived.Laws.Small
import Derived.Laws.Strings
set_option linter.unusedVariables false
set_option linter.unusedSimpArgs false
namespace Go.AE

variable {P : Program} {C : Cfg} {ρ : Type}

theorem flat_take (t : STy) : ∀ (xs : List (El t)) (n : Nat), flat t (xs.take n) = (flat t xs).take (n * t.sz)
  | [], n => by simp [AE.flat]
  | x :: xs, 0 => by simp [AE.flat]
  | x :: xs, n + 1 => by
    have e : flat t (x :: xs) = cellsOf t x ++ flat t xs := rfl
    have e' : flat t (x :: xs.take n) = cellsOf t x ++ flat t (xs.take n) := rfl
    have hl : (n + 1) * t.sz = (cellsOf t x).length + n * t.sz := by rw [cellsOf_length, Nat.succ_mul]; omega
    rw [List.take_succ_cons, e', flat_take t xs n, e, hl, List.take_length_add_append]

theorem flat_drop (t : STy) : ∀ (xs : List (El t)) (n : Nat), flat t (xs.drop n) = (flat t xs).drop (n * t.sz)
  | [], n => by simp [AE.flat]
  | x :: xs, 0 => by simp
  | x :: xs, n + 1 => by
    have e : flat t (x :: xs) = cellsOf t x ++ flat t xs := rfl
    have hl : (n + 1) * t.sz = (cellsOf t x).length + n * t.sz := by rw [cellsOf_length, Nat.succ_mul]; omega
    rw [List.drop_succ_cons, flat_drop t xs n, e, hl, List.drop_length_add_append]

theorem flat_append (t : STy) (xs ys : List (El t)) : flat t (xs ++ ys) = flat t xs ++ flat t ys := by simp [AE.flat]

/-- A slice's end, as it is told. -/
def EndR (d : Int) (x : Option Value) (n : Int) : Prop := (x = Option.none ∧ n = d) ∨ ∃ k, x = some (.int k n)

theorem endI_sound {σ : Sg} {Φ : Im} {w : World} {d n : Int} {x : Option V} {y : Option Value} (h : endI d x = some n) (hn : x = Option.none ↔ y = Option.none) (hr : ∀ v u, x = some v → y = some u → R σ Φ w v u) : EndR d y n := by
  unfold endI at h
  split at h
  · injection h with h
    exact .inl ⟨hn.1 rfl, h.symm⟩
  · injection h with h
    subst h
    cases y with
    | none => exact absurd (hn.2 rfl) (by simp)
    | some u =>
      have := hr _ u rfl rfl
      cases this
      exact .inr ⟨_, rfl⟩
  · cases h

theorem run_sliceBound (k : IntKind) (n : Int) (y : Nat) (code : BoundsCode) (h0 : 0 ≤ n) (h1 : n ≤ y) (w : World) : (Instr.sliceBound (.int k n) y code).run P w = .ok n.toNat w := by
  simp [Instr.sliceBound, run_asIntOf, h0, h1]

theorem run_sliceBounds (isSlice : Bool) (len cap : Nat) {low high : Option Value} {l h : Int} (hl : EndR 0 low l) (hh : EndR len high h) (h0 : 0 ≤ l) (h1 : l ≤ h) (h2 : h ≤ cap) (w : World) :
    (Instr.sliceBounds isSlice len cap low high Option.none).run P w = .ok (l.toNat, h.toNat, cap) w := by
  have h3 : 0 ≤ h := by omega
  have h4 : l ≤ (h.toNat : Int) := by omega
  rcases hl with ⟨rfl, rfl⟩ | ⟨k, rfl⟩ <;> rcases hh with ⟨rfl, rfl⟩ | ⟨k', rfl⟩
  · simp [Instr.sliceBounds]
  · simp [Instr.sliceBounds, run_sliceBound _ _ _ _ h3 h2]
  · simp [Instr.sliceBounds, run_sliceBound _ _ len _ h0 h1]
  · simp [Instr.sliceBounds, run_sliceBound _ _ _ _ h3 h2, run_sliceBound _ _ h.toNat _ h0 h4]

theorem run_sliceBounds3 (isSlice : Bool) (len cap : Nat) {low high : Option Value} {l h m : Int} {k : IntKind} (hl : EndR 0 low l) (hh : EndR len high h) (hs : high ≠ Option.none) (h0 : 0 ≤ l) (h1 : l ≤ h) (h2 : h ≤ m) (h3 : m ≤ cap) (w : World) :
    (Instr.sliceBounds isSlice len cap low high (some (.int k m))).run P w = .ok (l.toNat, h.toNat, m.toNat) w := by
  have h4 : 0 ≤ h := by omega
  have h5 : l ≤ (h.toNat : Int) := by omega
  have h6 : 0 ≤ m := by omega
  have h7 : h ≤ (m.toNat : Int) := by omega
  rcases hl with ⟨rfl, rfl⟩ | ⟨k1, rfl⟩ <;> rcases hh with ⟨rfl, rfl⟩ | ⟨k', rfl⟩
  · exact absurd rfl hs
  · simp [Instr.sliceBounds, run_sliceBound _ _ cap _ h6 h3, run_sliceBound _ _ m.toNat _ h4 h7]
  · exact absurd rfl hs
  · simp [Instr.sliceBounds, run_sliceBound _ _ cap _ h6 h3, run_sliceBound _ _ m.toNat _ h4 h7, run_sliceBound _ _ h.toNat _ h0 h5]

theorem run_sliceAt_slice {T e : Nat} (hu : P.underlying T = some (.slice e)) {sz : Nat} (hs : ∀ w, (sizeOf e).run P w = .ok sz w) (p : Option Addr) (len cap : Nat) (low high max : Option Value) {l h m : Nat} {w : World}
    (hb : (Instr.sliceBounds true len cap low high max).run P w = .ok (l, h, m) w) :
    (Instr.sliceAt T (.slice p len cap) low high max).run P w = .ok (.slice (if m = l then p else p.map (·.add (l * sz))) (h - l) (m - l)) w := by
  simp [Instr.sliceAt, Instr.slice, run_underlying hu, hb, hs]

theorem run_sliceAt_arr {T n e : Nat} (hu : P.underlying T = some (.array n e)) {sz : Nat} (hs : ∀ w, (sizeOf e).run P w = .ok sz w) (a : Addr) (low high : Option Value) {l h m : Nat} {w : World}
    (hb : (Instr.sliceBounds false n n low high Option.none).run P w = .ok (l, h, m) w) :
    (Instr.sliceAt T (.pointer (some a)) low high Option.none).run P w = .ok (.slice (some (if m = l then a else a.add (l * sz))) (h - l) (m - l)) w := by
  simp [Instr.sliceAt, run_underlying hu, Instr.sureAddr, hb, hs]

theorem run_sliceAt_str {T : Nat} (hu : P.underlying T = some .string) (s : ByteArray) (low high : Option Value) {l h m : Nat} {w : World}
    (hb : (Instr.sliceBounds false s.size s.size low high Option.none).run P w = .ok (l, h, m) w) :
    (Instr.sliceAt T (.string s) low high Option.none).run P w = .ok (.string (s.extract l h)) w := by
  simp [Instr.sliceAt, Instr.slice, run_underlying hu, hb]

theorem extract_list (b : List UInt8) (l h : Nat) : (⟨b.toArray⟩ : ByteArray).extract l h = ⟨((b.take h).drop l).toArray⟩ := by
  apply ByteArray.ext
  rw [ByteArray.data_extract]
  apply Array.ext'
  simp [List.extract_eq_take_drop, List.drop_take]

/-- An optional operand, told. -/
def OptR (σ : Sg) (Φ : Im) (w : World) (x : Option V) (y : Option Value) : Prop := (x = Option.none ↔ y = Option.none) ∧ ∀ v u, x = some v → y = some u → R σ Φ w v u

theorem sub_len {l h : Int} {n : Nat} (h0 : 0 ≤ l) (h1 : l ≤ h) (h2 : h ≤ n) : l.toNat ≤ h.toNat ∧ h.toNat ≤ n ∧ 0 ≤ h := by omega

/-- A part of a slice that nobody writes. -/
theorem R.part {σ : Sg} {Φ : Im} {w : World} {t : STy} {xs : List (El t)} {ex ex' : Bool} {p : Option Addr} {cap : Nat} (hr : R σ Φ w (.sl t xs ex) (.slice p xs.length cap)) {l h m : Nat} (h1 : l ≤ h) (h2 : h ≤ xs.length)
    (h3 : h ≤ m) (h4 : m ≤ cap) (he : ex' = true → m = h) : R σ Φ w (.sl t ((xs.take h).drop l) ex') (.slice (if m = l then p else p.map (·.add (l * t.sz))) (h - l) (m - l)) := by
  generalize hq : Value.slice p xs.length cap = q at hr
  cases hr with
  | sl _ _ _ p' cap' vals hl hr hn he' hw =>
    injection hq with e1 e2 e3
    subst e1; subst e3
    have hlen : ((xs.take h).drop l).length = h - l := by simp; omega
    have hrs : Rs σ Φ w (flat t xs) vals := ⟨hl, hr⟩
    have hrs' : Rs σ Φ w (flat t ((xs.take h).drop l)) ((vals.take (h * t.sz)).drop (l * t.sz)) := by
      rw [flat_drop, flat_take]
      exact (hrs.take _).drop _
    rw [← hlen]
    refine R.sl t _ ex' _ (m - l) ((vals.take (h * t.sz)).drop (l * t.sz)) hrs'.1 hrs'.2 (by omega) (fun e => by rw [he e]; omega) fun j u hj => ?_
    rw [List.getElem?_drop, List.getElem?_take] at hj
    split at hj
    · rename_i hlt
      obtain ⟨a, rfl, hsp, h5, h6, h7⟩ := hw _ u hj
      have hml : m ≠ l := by
        rintro rfl
        have : h = m := by omega
        subst this
        omega
      rw [if_neg hml]
      refine ⟨a.add (l * t.sz), rfl, ?_, ?_, ?_, h7⟩ <;> rw [add_spot hsp]
      · rw [Nat.add_assoc]; exact h5
      · rw [Nat.add_assoc]; exact h6
    · cases hj

theorem R.nils_sl {σ : Sg} {Φ : Im} {w : World} (t : STy) (ex : Bool) : R σ Φ w (.sl t [] ex) (.slice Option.none 0 0) :=
  R.sl t [] ex Option.none 0 [] rfl (fun j v u h => by simp [AE.flat] at h) (Nat.le_refl _) (fun _ => rfl) (fun j u h => by simp at h)

theorem evSlice_sound (hT : TysOk P C) {T : Nat} {x : V} {lo hi mx : Option V} {H : List Ob} {lg : Lg} {K : V → Lg → Option ρ} {r : ρ} (h : evSlice C T x lo hi mx H lg K = some r) :
    ∃ v l, K v (l ++ lg) = some r ∧ (∀ id, ¬ wrote l id) ∧
      ∀ (σ : Sg) (Φ : Im) (w : World) (a : Value) (b c d : Option Value), ObsOk σ Φ w H (touched l) → R σ Φ w x a → OptR σ Φ w lo b → OptR σ Φ w hi c → OptR σ Φ w mx d →
        ∃ u, (Instr.sliceAt T a b c d).run P w = .ok u w ∧ R σ Φ w v u := by
  unfold evSlice at h
  split at h
  · rename_i id k
    split at h
    · rename_i n e _ _ _ hti
      obtain ⟨ii, d, z, ht⟩ := ty_at hT hti
      have hd := tdOf_arr ht.desc
      subst hd
      split at h
      · rename_i ti l hh hti2 hl hhi
        obtain ⟨i2, d2, z2, ht2⟩ := ty_at hT hti2
        split at h
        · cases h
        · rename_i hk
          rcases brB_some h with ⟨hb, h'⟩ | ⟨_, h'⟩
          · simp only [Bool.and_eq_true, decide_eq_true_eq] at hb
            obtain ⟨⟨h0, h1⟩, h2⟩ := hb
            obtain ⟨h3, h4, h5⟩ := sub_len h0 h1 h2
            refine ⟨_, [], h', fun i => by simp [wrote], fun σ Φ w a b c d _ ha hb hc hd => ?_⟩
            have hd' : d = Option.none := hd.1.1 rfl
            subst hd'
            cases ha with
            | p _ _ b0 off hh0 =>
              have hrun := run_sliceBounds (P := P) false n n (endI_sound hl hb.1 hb.2) (endI_sound hhi hc.1 hc.2) h0 h1 h2 w
              refine ⟨_, run_sliceAt_arr ht.und (run_size ht2) _ _ _ hrun, ?_⟩
              refine R.cs _ _ _ _ _ (by omega) fun j hj => ?_
              have hne : n ≠ l.toNat := by
                rintro rfl
                have : hh.toNat - l.toNat = 0 := by omega
                rw [this] at hj
                omega
              rw [if_neg hne, add_mk]
              refine ⟨b0, off + l.toNat * ti.size, rfl, ?_⟩
              have hmul : l.toNat * ti.size + (hh.toNat - l.toNat) * ti.size ≤ n * ti.size := by
                rw [← Nat.add_mul]
                exact Nat.mul_le_mul_right _ (by omega)
              have := hh0 (l.toNat * ti.size + j) (by omega)
              rwa [← Nat.add_assoc, ← Nat.add_assoc] at this
          · cases h'
      · cases h
    · cases h
  · rename_i t xs ex
    split at h
    · cases h
    · rename_i hsz
      have hsz : elSz C T = some t.sz := Decidable.of_not_not hsz
      obtain ⟨e, hu, ti, i2, d2, z2, ht2, hs⟩ := elSz_some hT hsz
      have hs' : ∀ w, (sizeOf e).run P w = .ok t.sz w := fun w => by rw [run_size ht2, hs]
      split at h
      · rename_i l hh hl hhi
        rcases brB_some h with ⟨hb, h'⟩ | ⟨_, h'⟩
        · simp only [Bool.and_eq_true, decide_eq_true_eq] at hb
          obtain ⟨⟨h0, h1⟩, h2⟩ := hb
          obtain ⟨h3, h4, h5⟩ := sub_len h0 h1 h2
          refine ⟨_, [], h', fun i => by simp [wrote], fun σ Φ w a b c d _ ha hb hc hd => ?_⟩
          have hd' : d = Option.none := hd.1.1 rfl
          subst hd'
          have ha' := ha
          cases ha with
          | sl _ _ _ p cap vals hl' hr hn he hw =>
            have hrun := run_sliceBounds (P := P) true xs.length cap (endI_sound hl hb.1 hb.2) (endI_sound hhi hc.1 hc.2) h0 h1 (by omega) w
            refine ⟨_, run_sliceAt_slice hu hs' _ _ _ _ _ _ hrun, ha'.part h3 h4 (by omega) (Nat.le_refl _) fun hex => ?_⟩
            split at hex
            · have e2 := he hex
              unfold endI at hhi
              injection hhi with hhi
              omega
            · cases hex
        · cases h'
      · rename_i l hh m hl hhi
        split at h
        · cases h
        · rename_i hsome
          rcases brB_some h with ⟨hb, h'⟩ | ⟨_, h'⟩
          · simp only [Bool.and_eq_true, decide_eq_true_eq] at hb
            obtain ⟨⟨⟨h0, h1⟩, h2⟩, h6⟩ := hb
            subst h6
            obtain ⟨h3, h4, h5⟩ := sub_len h0 h1 h2
            refine ⟨_, [], h', fun i => by simp [wrote], fun σ Φ w a b c d _ ha hb hc hd => ?_⟩
            obtain ⟨d0, rfl⟩ : ∃ d0, d = some d0 := by
              cases d with
              | none => exact absurd (hd.1.2 rfl) (by simp)
              | some d0 => exact ⟨d0, rfl⟩
            have hd0 := hd.2 _ _ rfl rfl
            cases hd0 with
            | i _ _ =>
              have ha' := ha
              cases ha with
              | sl _ _ _ p cap vals hl' hr hn he hw =>
                have hcs : c ≠ Option.none := fun e => by
                  have := hc.1.2 e
                  rw [this] at hsome
                  exact hsome rfl
                have hrun := run_sliceBounds3 (P := P) true xs.length cap (k := .i64) (endI_sound hl hb.1 hb.2) (endI_sound hhi hc.1 hc.2) hcs h0 h1 (Int.le_refl _) (by omega) w
                exact ⟨_, run_sliceAt_slice hu hs' _ _ _ _ _ _ hrun, ha'.part h3 h4 (Nat.le_refl _) (by omega) fun _ => rfl⟩
          · cases h'
      · cases h
  · split at h
    · cases h
    · rename_i hsz
      rw [not_or] at hsz
      obtain ⟨_, hsz⟩ := hsz
      obtain ⟨n, hn⟩ : ∃ n, elSz C T = some n := by
        cases hq : elSz C T with
        | none => rw [hq] at hsz; exact absurd rfl hsz
        | some n => exact ⟨n, rfl⟩
      obtain ⟨e, hu, ti, i2, d2, z2, ht2, hs⟩ := elSz_some hT hn
      split at h
      · rename_i l hh m hl hhi hm
        split at h
        · cases h
        · rename_i hcond
          rcases brB_some h with ⟨hb, h'⟩ | ⟨_, h'⟩
          · simp only [Bool.and_eq_true, decide_eq_true_eq] at hb
            obtain ⟨⟨rfl, rfl⟩, rfl⟩ := hb
            refine ⟨_, [], h', fun i => by simp [wrote], fun σ Φ w a b c d _ ha hb hc hd => ?_⟩
            cases ha with
            | nils =>
              have hL := endI_sound hl hb.1 hb.2
              have hHi := endI_sound hhi hc.1 hc.2
              have hM := endI_sound hm hd.1 hd.2
              rcases hM with ⟨rfl, _⟩ | ⟨k, rfl⟩
              · have hrun := run_sliceBounds (P := P) true 0 0 hL hHi (Int.le_refl _) (Int.le_refl _) (Int.le_refl _) w
                refine ⟨_, run_sliceAt_slice hu (run_size ht2) _ _ _ _ _ _ hrun, ?_⟩
                simpa using R.nils
              · have hcs : c ≠ Option.none := fun e => by
                  have e1 := hc.1.2 e
                  have e2 : mx ≠ Option.none := fun e => by have := hd.1.1 e; cases this
                  cases mx with
                  | none => exact e2 rfl
                  | some _ => rw [e1] at hcond; exact hcond rfl
                have hrun := run_sliceBounds3 (P := P) true 0 0 (k := k) hL hHi hcs (Int.le_refl _) (Int.le_refl _) (Int.le_refl _) (Int.le_refl _) w
                refine ⟨_, run_sliceAt_slice hu (run_size ht2) _ _ _ _ _ _ hrun, ?_⟩
                simpa using R.nils
          · cases h'
      · cases h
  · rename_i id ver
    split at h
    · rename_i e t xs v mu ap nz hob
      split at h
      · rename_i hc
        obtain ⟨rfl, hsz⟩ := hc
        obtain ⟨e, hu, ti, i2, d2, z2, ht2, hs⟩ := elSz_some hT hsz
        have hs' : ∀ w, (sizeOf e).run P w = .ok t.sz w := fun w => by rw [run_size ht2, hs]
        split at h
        · rename_i l hh hl hhi
          rcases brB_some h with ⟨hb, h'⟩ | ⟨_, h'⟩
          · simp only [Bool.and_eq_true, decide_eq_true_eq] at hb
            obtain ⟨⟨h0, h1⟩, h2⟩ := hb
            obtain ⟨h3, h4, h5⟩ := sub_len h0 h1 h2
            refine ⟨_, [⟨false, id, 1⟩], h', fun i => by simp [wrote], fun σ Φ w a b c d ho ha hb hc hd => ?_⟩
            have hd' : d = Option.none := hd.1.1 rfl
            subst hd'
            obtain ⟨p, cap, own, vals, e1, e2, hrs, h1c, _, hcell⟩ := row_cells (ho id (touched_self _ _ _) _ hob)
            cases ha with
            | o _ _ p' n' cap' hq =>
              obtain ⟨v', sz, ver', own', e4, _, e5⟩ := hq
              rw [e1] at e4
              injection e4 with e6 e7 e8 e9
              subst e6; subst e7; subst e8
              have e10 := e5 rfl
              injection e10 with e11 e12 e13
              subst e11; subst e12; subst e13
              have hrun := run_sliceBounds (P := P) true xs.length cap (endI_sound hl hb.1 hb.2) (endI_sound hhi hc.1 hc.2) h0 h1 (by omega) w
              refine ⟨_, run_sliceAt_slice hu hs' _ _ _ _ _ _ hrun, .ov _ _ _ _ _ _ (by omega) ⟨_, _, _, _, e1, Nat.le_refl _, fun _ => ⟨_, _, _, rfl, by omega, fun hpos => ?_⟩⟩⟩
              have hvl := hrs.1
              rw [flat_length] at hvl
              have hv0 : 0 < vals.length := by rw [hvl]; exact Nat.mul_pos (by omega) (sz_pos t)
              obtain ⟨ad, rfl, hsp, _⟩ := hcell 0 (vals[0]) (by simp [hv0])
              refine ⟨ad, rfl, ?_⟩
              rw [if_neg (by omega)]
              simp [add_spot hsp]
          · cases h'
        · cases h
      · cases h
    · cases h
  · rename_i bs
    split at h
    · cases h
    · rename_i hstr
      have hstr : isStr C T = true := by
        cases hq : isStr C T with
        | true => rfl
        | false => exact absurd hq hstr
      have hu := isStr_true hT hstr
      split at h
      · rename_i l hh hl hhi
        rcases brB_some h with ⟨hb, h'⟩ | ⟨_, h'⟩
        · simp only [Bool.and_eq_true, decide_eq_true_eq] at hb
          obtain ⟨⟨h0, h1⟩, h2⟩ := hb
          refine ⟨_, [], h', fun i => by simp [wrote], fun σ Φ w a b c d _ ha hb hc hd => ?_⟩
          have hd' : d = Option.none := hd.1.1 rfl
          subst hd'
          cases ha with
          | s _ =>
            have hsz : (⟨bs.toArray⟩ : ByteArray).size = bs.length := rfl
            have hrun := run_sliceBounds (P := P) false (⟨bs.toArray⟩ : ByteArray).size (⟨bs.toArray⟩ : ByteArray).size (endI_sound hl hb.1 hb.2) (by rw [hsz]; exact endI_sound hhi hc.1 hc.2) h0 h1 (by rw [hsz]; exact h2) w
            refine ⟨_, run_sliceAt_str hu _ _ _ hrun, ?_⟩
            rw [extract_list]
            exact .s _
        · cases h'
      · cases h
  · cases h

theorem evLen_sound (hT : TysOk P C) {T : Nat} {x : V} {H : List Ob} {lg : Lg} {K : V → Lg → Option ρ} {r : ρ} (h : evLen C T x H lg K = some r) :
    ∃ v l, K v (l ++ lg) = some r ∧ (∀ id, ¬ wrote l id) ∧
      ∀ (σ : Sg) (Φ : Im) (w : World) (a : Value) (ty : TypeId), ObsOk σ Φ w H (touched l) → R σ Φ w x a → ∃ u, (Builtin.len_ #[T] ty #[a]).run P w = .ok u w ∧ R σ Φ w v u := by
  have hrun : ∀ {e : Nat}, P.underlying T = some (.slice e) → ∀ (p : Option Addr) (n cap : Nat) (ty : TypeId) (w : World), (Builtin.len_ #[T] ty #[.slice p n cap]).run P w = .ok (goInt n) w := fun hu p n cap ty w => by
    simp [Builtin.len_, run_underlying hu]
  unfold evLen at h
  split at h
  · split at h
    · rename_i hsl
      obtain ⟨e, hu⟩ := isSl_true hT hsl
      exact ⟨_, [], h, fun i => by simp [wrote], fun σ Φ w a ty _ ha => by cases ha with | nils => exact ⟨_, hrun hu _ _ _ _ _, .i .i64 0⟩⟩
    · cases h
  · split at h
    · rename_i hsl
      obtain ⟨e, hu⟩ := isSl_true hT hsl
      exact ⟨_, [], h, fun i => by simp [wrote], fun σ Φ w a ty _ ha => by cases ha with | sl => exact ⟨_, hrun hu _ _ _ _ _, .i .i64 _⟩⟩
    · cases h
  · rename_i id ver
    split at h
    · rename_i e t xs v mu ap nz hob
      split at h
      · rename_i hc
        obtain ⟨rfl, hsl⟩ := hc
        obtain ⟨e, hu⟩ := isSl_true hT hsl
        refine ⟨_, [⟨false, id, 1⟩], h, fun i => by simp [wrote], fun σ Φ w a ty ho ha => ?_⟩
        obtain ⟨p, cap, own, vals, e1, _⟩ := row_cells (ho id (touched_self _ _ _) _ hob)
        cases ha with
        | o _ _ p' n' cap' hq =>
          obtain ⟨v', sz, ver', own', e4, _, e5⟩ := hq
          rw [e1] at e4
          injection e4 with e6 e7 e8 e9
          subst e6; subst e7; subst e8
          have e10 := e5 rfl
          injection e10 with e11 e12 e13
          subst e12
          exact ⟨_, hrun hu _ _ _ _ _, .i .i64 _⟩
      · cases h
    · cases h
  · split at h
    · rename_i hsl
      obtain ⟨e, hu⟩ := isSl_true hT hsl
      exact ⟨_, [], h, fun i => by simp [wrote], fun σ Φ w a ty _ ha => by cases ha with | ov => exact ⟨_, hrun hu _ _ _ _ _, .i .i64 _⟩⟩
    · cases h
  · split at h
    · rename_i hsl
      obtain ⟨e, hu⟩ := isSl_true hT hsl
      exact ⟨_, [], h, fun i => by simp [wrote], fun σ Φ w a ty _ ha => by cases ha with | cs => exact ⟨_, hrun hu _ _ _ _ _, .i .i64 _⟩⟩
    · cases h
  · rename_i b
    split at h
    · rename_i hst
      have hu := isStr_true hT hst
      refine ⟨_, [], h, fun i => by simp [wrote], fun σ Φ w a ty _ ha => ?_⟩
      cases ha with
      | s =>
        refine ⟨goInt (b.length : Nat), ?_, .i .i64 _⟩
        have : (⟨b.toArray⟩ : ByteArray).size = b.length := rfl
        simp [Builtin.len_, run_underlying hu, this]
    · cases h
  · cases h

end Go.AE

/- The operations are sound: what is appended or copied, operators, conversions. -/
namespace Go.AE

variable {P : Program} {C : Cfg} {ρ : Type}

theorem asSl_spec {t : STy} {v : V} {ys : List (El t)} (h : asSl t v = some ys) : (v = .nils ∧ ys = []) ∨ ∃ ex, v = .sl t ys ex := by
  cases v with
  | nils => simp only [asSl, Option.some.injEq] at h; exact .inl ⟨rfl, h.symm⟩
  | sl u xs ex =>
    refine .inr ⟨ex, ?_⟩
    cases t <;> cases u <;> first | (simp only [asSl, Option.some.injEq] at h; subst h; rfl) | (simp [asSl] at h)
  | _ => simp [asSl] at h

theorem asSl_row {t u : STy} {xs : List (El u)} {ex : Bool} {ys : List (El t)} (h : asSl t (.sl u xs ex) = some ys) : u = t ∧ HEq xs ys := by
  rcases asSl_spec h with ⟨h1, _⟩ | ⟨ex', h1⟩
  · cases h1
  · injection h1 with e1 e2 e3
    exact ⟨e1, e2⟩

theorem srcOf_sound {H : List Ob} {t : STy} {x : V} {ys : List (El t)} {nz : Bool} {lx : Lg} (h : srcOf H t x = some (ys, nz, lx)) :
    (∀ id, ¬ wrote lx id) ∧ ∀ (σ : Sg) (Φ : Im) (w : World) (a : Value), ObsOk σ Φ w H (touched lx) → R σ Φ w x a →
      ∃ p cap vals, a = .slice p ys.length cap ∧ Rs σ Φ w (flat t ys) vals ∧ (∀ u ∈ vals, u.oneCell' = true) ∧ (nz = true → ys ≠ []) ∧
        ∀ (j : Nat) (u : Value), vals[j]? = some u → ∃ a, p = some a ∧ a.spot = Option.none ∧ w.cell? ⟨a.block, a.off + j, Option.none⟩ = some u := by
  unfold srcOf at h
  split at h
  · rename_i id ver
    split at h
    · rename_i e u xs v mu ap nz' hob
      split at h
      · rename_i hver
        subst hver
        split at h
        · rename_i ys' hys
          injection h with h
          injection h with h1 h2
          injection h2 with h2 h3
          subst h1; subst h2; subst h3
          obtain ⟨rfl, hh⟩ := asSl_row hys
          cases hh
          refine ⟨fun i => by simp [wrote], fun σ Φ w a ho ha => ?_⟩
          obtain ⟨p, cap, own, vals, e1, _, hrs, h1c, hnz, hcell⟩ := row_cells (ho id (touched_self _ _ _) _ hob)
          cases ha with
          | o _ _ p' n' cap' hq =>
            obtain ⟨v', sz, ver', own', e4, _, e5⟩ := hq
            rw [e1] at e4
            injection e4 with e6 e7 e8 e9
            subst e6; subst e7; subst e8
            have e10 := e5 rfl
            injection e10 with e11 e12 e13
            subst e11; subst e12; subst e13
            exact ⟨p, cap, vals, rfl, hrs, h1c, hnz, hcell⟩
        · cases h
      · cases h
    · cases h
  · rename_i id ver off len
    split at h
    · rename_i e u xs v mu ap nz' hob
      split at h
      · rename_i hver
        subst hver
        split at h
        · rename_i ys' hys
          injection h with h
          injection h with h1 h2
          injection h2 with h2 h3
          subst h1; subst h2; subst h3
          obtain ⟨rfl, hh⟩ := asSl_row hys
          cases hh
          refine ⟨fun i => by simp [wrote], fun σ Φ w a ho ha => ?_⟩
          obtain ⟨p, cap, own, vals, e1, _, hrs, h1c, hnz, hcell⟩ := row_cells (ho id (touched_self _ _ _) _ hob)
          cases ha with
          | ov _ _ _ _ p' cap' _ hq =>
            obtain ⟨v', sz, ver', own', e4, _, e5⟩ := hq
            rw [e1] at e4
            injection e4 with e6 e7 e8 e9
            subst e6; subst e7; subst e8
            obtain ⟨p2, n2, cap2, e10, hle, hpp⟩ := e5 rfl
            injection e10 with e11 e12 e13
            subst e11; subst e12; subst e13
            have hlen : ((xs.drop off).take len).length = len := by simp; omega
            refine ⟨p', cap', (vals.drop (off * u.sz)).take (len * u.sz), by rw [hlen], ?_, fun x hx => h1c x (List.mem_of_mem_drop (List.mem_of_mem_take hx)), fun e => (by cases e), fun j x hj => ?_⟩
            · rw [flat_take, flat_drop]
              exact (hrs.drop _).take _
            · rw [List.getElem?_take] at hj
              split at hj
              · rename_i hlt
                rw [List.getElem?_drop] at hj
                obtain ⟨ad, rfl, hsp, hc⟩ := hcell _ x hj
                have hpos : 0 < len := by
                  rcases Nat.eq_zero_or_pos len with h0 | h0
                  · subst h0; omega
                  · exact h0
                obtain ⟨ad', e14, e15⟩ := hpp hpos
                cases e14
                subst e15
                refine ⟨_, rfl, rfl, ?_⟩
                dsimp only
                rw [Nat.add_assoc]
                exact hc
              · cases hj
        · cases h
      · cases h
    · cases h
  · split at h
    · rename_i ys' hys
      injection h with h
      injection h with h1 h2
      injection h2 with h2 h3
      subst h1; subst h2; subst h3
      refine ⟨fun i => by simp [wrote], fun σ Φ w a ho ha => ?_⟩
      rcases asSl_spec hys with ⟨rfl, rfl⟩ | ⟨ex, rfl⟩
      · cases ha with
        | nils => exact ⟨Option.none, 0, [], rfl, Rs.nil, fun _ h => (by cases h), fun e => (by cases e), fun j u h => (by simp at h)⟩
      · cases ha with
        | sl _ _ _ p cap vals hl hr hn he hw =>
          refine ⟨p, cap, vals, rfl, ⟨hl, hr⟩, fun u hu => ?_, fun e => (by cases e), fun j u hj => ?_⟩
          · obtain ⟨j, hj⟩ := List.getElem?_of_mem hu
            obtain ⟨_, _, _, _, _, h⟩ := hw j u hj
            exact h
          · obtain ⟨ad, h0, h1, _, h3, _⟩ := hw j u hj
            exact ⟨ad, h0, h1, h3⟩
    · cases h

/-- Structs whose comparison is told cell by cell. -/
def EqOk (P : Program) (T : Nat) : Prop := ∀ ti, tiOf P T = some ti → ∀ (σ : Sg) (Φ : Im) (w : World) (a b : List V) (c : Bool) (us vs : List Value), fitZ a ti.zero = true → fitZ b ti.zero = true → eqCells a b = some c → Rs σ Φ w a us → Rs σ Φ w b vs →
  ∀ x y : Operand, (do eqGuard .eql T x y (.agg us.toArray) (.agg vs.toArray); binOp .eql T (.agg us.toArray) (.agg vs.toArray)).run P w = .ok (.bool c) w ∧
    (do eqGuard .neq T x y (.agg us.toArray) (.agg vs.toArray); binOp .neq T (.agg us.toArray) (.agg vs.toArray)).run P w = .ok (.bool (!c)) w

theorem run_equalIn_nilFunc {T a b c : _} (h : P.underlying T = some (.func a b c)) (d : Nat) (w : World) : (Op.equalIn (d + 1) T .nilFunc .nilFunc).run P w = .ok true w := by
  simp only [Op.equalIn, Sem.run_bind, run_underlying h, Result.andThen_ok]
  rfl

theorem run_equalIn_func {T a b c : _} (h : P.underlying T = some (.func a b c)) (d : Nat) (fn : Fn) (x y : Array Value) (w : World) : (Op.equalIn (d + 1) T (.func fn x y) .nilFunc).run P w = .ok false w := by
  simp only [Op.equalIn, Sem.run_bind, run_underlying h, Result.andThen_ok]
  rfl

theorem run_equal_nilFunc {T a b c : _} (h : P.underlying T = some (.func a b c)) (w : World) : (Op.equal T .nilFunc .nilFunc).run P w = .ok true w := run_equalIn_nilFunc h 9999 w

theorem run_equal_func {T a b c : _} (h : P.underlying T = some (.func a b c)) (fn : Fn) (x y : Array Value) (w : World) : (Op.equal T (.func fn x y) .nilFunc).run P w = .ok false w := run_equalIn_func h 9999 fn x y w

theorem byteArray_toList (b : List UInt8) : (⟨b.toArray⟩ : ByteArray).toList = b := by
  rw [ByteArray.toList_eq]

theorem evBin_sound (hT : TysOk P C) (hE : ∀ T, C.eqs.contains T = true → EqOk P T) {op : BinOp} {T : Nat} {x y : V} {K : V → Option ρ} {r : ρ} (h : evBin C op T x y K = some r) :
    ∃ v, K v = some r ∧ ∀ (σ : Sg) (Φ : Im) (w : World) (a b : Value) (ox oy : Operand), R σ Φ w x a → R σ Φ w y b →
      ∃ u, (do eqGuard op T ox oy a b; binOp op T a b).run P w = .ok u w ∧ R σ Φ w v u := by
  have hg : ∀ (op : BinOp) (k l : IntKind) (a b : Int) (ox oy : Operand) (w : World), (eqGuard op T ox oy (.int k a) (.int l b)).run P w = .ok () w := fun op k l a b ox oy w => by
    cases op <;> rfl
  have hi : ∀ (op : BinOp) (k l : IntKind) (a b : Int) (v : Value) (w : World), (binOp op T (.int k a) (.int l b)).run P w = .ok v w →
      ∀ ox oy, (do eqGuard op T ox oy (.int k a) (.int l b); binOp op T (.int k a) (.int l b)).run P w = .ok v w := fun op k l a b v w h ox oy => by
    rw [Sem.run_bind, hg, Result.andThen_ok, h]
  unfold evBin at h
  split at h
  · rename_i k a l b
    split at h
    · rcases brB_some h with ⟨hb, h'⟩ | ⟨_, h'⟩
      · have hb := of_decide_eq_true hb
        refine ⟨_, h', fun σ Φ w a' b' ox oy ha hb' => ?_⟩
        cases ha; cases hb'
        have hn : ¬ b < 0 := by omega
        exact ⟨_, hi _ _ _ _ _ _ _ (by simp [binOp, Op.shift, hn]; rfl) ox oy, .i _ _⟩
      · cases h'
    · rcases brB_some h with ⟨hb, h'⟩ | ⟨_, h'⟩
      · have hb := of_decide_eq_true hb
        refine ⟨_, h', fun σ Φ w a' b' ox oy ha hb' => ?_⟩
        cases ha; cases hb'
        have hn : ¬ b < 0 := by omega
        exact ⟨_, hi _ _ _ _ _ _ _ (by simp [binOp, Op.shift, hn]; rfl) ox oy, .i _ _⟩
      · cases h'
    · rename_i hsl hsr
      split at h
      · rename_i hk
        have hk := isKind_eq hk
        subst hk
        have hbin : ∀ {s : Sem Value} {v : Value} {w : World}, (∀ w, s.run P w = .ok v w) → s.run P w = .ok v w := fun h => h _
        split at h <;> first
          | (refine ⟨_, h, fun σ Φ w a' b' ox oy ha hb' => ?_⟩
             cases ha; cases hb'
             first
               | exact ⟨_, hi _ _ _ _ _ _ _ (by simp only [binOp, ne_eq, not_true_eq_false, if_false]; rfl) ox oy, .i _ _⟩
               | exact ⟨_, hi _ _ _ _ _ _ _ (by simp only [binOp, ne_eq, not_true_eq_false, if_false]; rfl) ox oy, .b _⟩)
          | (rcases brB_some h with ⟨_, h'⟩ | ⟨hb, h'⟩
             · cases h'
             · have hb := of_decide_eq_false hb
               refine ⟨_, h', fun σ Φ w a' b' ox oy ha hb' => ?_⟩
               cases ha; cases hb'
               exact ⟨_, hi _ _ _ _ _ _ _ (by simp [binOp, Op.intDiv, hb]; try rfl) ox oy, .i _ _⟩)
          | cases h
      · cases h
  · rename_i a b
    split at h
    · refine ⟨_, h, fun σ Φ w a' b' ox oy ha hb' => ?_⟩
      cases ha; cases hb'
      exact ⟨_, by simp [eqGuard, binOp, Op.stringOp, byteArray_toList] <;> rfl, .b _⟩
    · refine ⟨_, h, fun σ Φ w a' b' ox oy ha hb' => ?_⟩
      cases ha; cases hb'
      exact ⟨_, by simp [eqGuard, binOp, Op.stringOp, byteArray_toList] <;> rfl, .b _⟩
    · cases h
  · rename_i a b
    split at h
    · rename_i _ _ _ hti
      obtain ⟨i, d, z, ht⟩ := ty_at hT hti
      have hd := tdOf_bool ht.desc
      subst hd
      split at h
      · refine ⟨_, h, fun σ Φ w a' b' ox oy ha hb' => ?_⟩
        cases ha; cases hb'
        exact ⟨_, by simp [eqGuard, run_eql_bool w T _ _ ht.und] <;> rfl, .b _⟩
      · refine ⟨_, h, fun σ Φ w a' b' ox oy ha hb' => ?_⟩
        cases ha; cases hb'
        exact ⟨_, by simp [eqGuard, run_neq_bool w T _ _ ht.und] <;> rfl, .b _⟩
      · cases h
    · cases h
  · rename_i a b
    split at h
    · rename_i hc
      split at h
      · rename_i ti hti
        split at h
        · rename_i hfit
          simp only [Bool.and_eq_true] at hfit
          split at h
          · rename_i c hcells
            split at h
            · refine ⟨_, h, fun σ Φ w a' b' ox oy ha hb' => ?_⟩
              cases ha with
              | agg _ us hl hr h1 =>
                cases hb' with
                | agg _ vs hl' hr' h1' => exact ⟨_, (hE T hc ti (hT T ti hti) σ Φ w a b c us vs hfit.1 hfit.2 hcells ⟨hl, hr⟩ ⟨hl', hr'⟩ ox oy).1, .b _⟩
            · refine ⟨_, h, fun σ Φ w a' b' ox oy ha hb' => ?_⟩
              cases ha with
              | agg _ us hl hr h1 =>
                cases hb' with
                | agg _ vs hl' hr' h1' => exact ⟨_, (hE T hc ti (hT T ti hti) σ Φ w a b c us vs hfit.1 hfit.2 hcells ⟨hl, hr⟩ ⟨hl', hr'⟩ ox oy).2, .b _⟩
            · cases h
          · cases h
        · cases h
      · cases h
    · cases h
  · split at h
    · rename_i _ _ _ hti
      obtain ⟨i, d, z, ht⟩ := ty_at hT hti
      obtain ⟨p, q, v, hd⟩ := tdOf_func ht.desc
      subst hd
      have heq : ∀ w : World, (Op.equal T .nilFunc .nilFunc).run P w = .ok true w := run_equal_nilFunc ht.und
      split at h
      · refine ⟨_, h, fun σ Φ w a' b' ox oy ha hb' => ?_⟩
        cases ha; cases hb'
        exact ⟨_, by simp [eqGuard, binOp, heq] <;> rfl, .b _⟩
      · refine ⟨_, h, fun σ Φ w a' b' ox oy ha hb' => ?_⟩
        cases ha; cases hb'
        exact ⟨_, by simp [eqGuard, binOp, heq] <;> rfl, .b _⟩
      · cases h
    · cases h
  · split at h
    · rename_i _ _ _ hti
      obtain ⟨i, d, z, ht⟩ := ty_at hT hti
      obtain ⟨p, q, v, hd⟩ := tdOf_func ht.desc
      subst hd
      have heq : ∀ (fn : Fn) (x y : Array Value) (w : World), (Op.equal T (.func fn x y) .nilFunc).run P w = .ok false w := run_equal_func ht.und
      split at h
      · refine ⟨_, h, fun σ Φ w a' b' ox oy ha hb' => ?_⟩
        cases ha; cases hb'
        exact ⟨_, by simp [eqGuard, binOp, heq] <;> rfl, .b _⟩
      · refine ⟨_, h, fun σ Φ w a' b' ox oy ha hb' => ?_⟩
        cases ha; cases hb'
        exact ⟨_, by simp [eqGuard, binOp, heq] <;> rfl, .b _⟩
      · cases h
    · cases h
  · cases h

theorem evUn_sound {op : UnOp} {x : V} {K : V → Option ρ} {r : ρ} (h : evUn op x K = some r) :
    ∃ v, K v = some r ∧ ∀ (σ : Sg) (Φ : Im) (w : World) (a : Value), R σ Φ w x a → ∃ u, (Op.unary op a).run P w = .ok u w ∧ R σ Φ w v u := by
  unfold evUn at h
  split at h
  · exact ⟨_, h, fun σ Φ w a ha => by cases ha; exact ⟨_, by simp [Op.unary] <;> rfl, .b _⟩⟩
  · exact ⟨_, h, fun σ Φ w a ha => by cases ha; exact ⟨_, by simp [Op.unary, Op.intArith] <;> rfl, .i _ _⟩⟩
  · cases h

theorem evConvert_sound (hT : TysOk P C) {src dst : Nat} {x : V} {K : V → Option ρ} {r : ρ} (h : evConvert C src dst x K = some r) :
    ∃ v, K v = some r ∧ ∀ (σ : Sg) (Φ : Im) (w : World) (a : Value), R σ Φ w x a → ∃ u, (convert src dst a).run P w = .ok u w ∧ R σ Φ w v u := by
  unfold evConvert at h
  split at h
  · rename_i k1 _ _ _ k _ _ _ k2 n h1 h2
    obtain ⟨_, d1, _, ht1⟩ := ty_at hT h1
    obtain ⟨_, d2, _, ht2⟩ := ty_at hT h2
    have e1 := tdOf_int ht1.desc
    have e2 := tdOf_int ht2.desc
    subst e1; subst e2
    exact ⟨_, h, fun σ Φ w a ha => by cases ha; exact ⟨_, by simp [convert, run_underlying ht1.und, run_underlying ht2.und, Conv.intToInt] <;> rfl, .i _ _⟩⟩
  · rename_i h1 h2
    obtain ⟨_, d1, _, ht1⟩ := ty_at hT h1
    obtain ⟨_, d2, _, ht2⟩ := ty_at hT h2
    have e1 := tdOf_str ht1.desc
    have e2 := tdOf_str ht2.desc
    subst e1; subst e2
    exact ⟨_, h, fun σ Φ w a ha => by cases ha; exact ⟨_, by simp [convert, run_underlying ht1.und, run_underlying ht2.und] <;> rfl, .s _⟩⟩
  · cases h

end Go.AE
