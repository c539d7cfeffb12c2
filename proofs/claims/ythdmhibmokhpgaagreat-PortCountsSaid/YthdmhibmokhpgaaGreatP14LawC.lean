/- The plain law of PortCounts: each thread waits at the one port that its state names, or at none. -/
import Derived.Test.YthdmhibmokhpgaaGreatP14Pureb
import Derived.Test.YthdmhibmokhpgaaGreatAEPlain
import Derived.KernelRfl
set_option linter.unusedVariables false
set_option linter.unusedSimpArgs false
namespace Go.Hz
open Go Go.AE
set_option maxRecDepth 100000

theorem near_ends (N : Nat) (y : Int) : Ans (r03_near N y) (fun _ => True) := by
  unfold r03_near
  exact Ans.condd (fun _ => Ans.pure trivial) (fun _ => Ans.pure trivial)

theorem small2_ends (N : Nat) (m : MemD) : Ans (r02_Small N m 60) (fun r => r = true → m.G.length ≤ 61) := by
  have e : w64 ((60 : Int) + 1) = 61 := by decide
  unfold r02_Small
  rw [e]
  exact Ans.condd (fun h => Ans.pure fun _ => by omega) (fun _ => Ans.pure fun h => by cases h)

theorem small_ends (N : Nat) (hN : 1000 < N) (s : SysD) : Ans (r03_Small N s 60) (fun r => r = true → s.M.G.length ≤ 61 ∧ (∀ c ∈ s.C, c.F.length ≤ 45 ∧ c.Ret.length ≤ 210) ∧ s.C.length ≤ 9) := by
  unfold r03_Small
  refine Ans.bind (small2_ends N s.M) fun z1 h1 => ?_
  refine Ans.cond (fun _ => Ans.pure fun h => by cases h) fun hz1 => ?_
  simp only [Bool.not_eq_eq_eq_not, Bool.not_false] at hz1
  have h1 := h1 hz1
  refine Ans.condd (fun _ => Ans.pure fun h => by cases h) fun h2 => ?_
  refine Ans.condd (fun _ => Ans.pure fun h => by cases h) fun h3 => ?_
  refine Ans.bind (Q := fun r => (∃ b, r = .inl b ∧ b = false) ∨ (∃ y, r = .inr y ∧ ∀ c ∈ s.C, c.F.length ≤ 45 ∧ c.Ret.length ≤ 210)) ?loop fun l2 hl2 => ?rest
  case rest =>
    rcases hl2 with ⟨b, rfl, rfl⟩ | ⟨y, rfl, hy⟩
    · exact Ans.pure fun h => by cases h
    · exact Ans.pure fun _ => ⟨h1, hy, by omega⟩
  unfold r03_Small_L0
  refine Ans.loop (fun x => ∃ j : Nat, x = ((j : Int), s.M.W, s.M.G, s.M.bad, s.C, s.L) ∧ j ≤ s.C.length ∧ ∀ (i : Nat) (c : CoreD), i < j → s.C[i]? = some c → c.F.length ≤ 45 ∧ c.Ret.length ≤ 210) (fun x => ((s.C.length : Int) - x.1).toNat) ?_ N _ ⟨0, rfl, Nat.zero_le _, fun i c h => absurd h (Nat.not_lt_zero _)⟩ (by dsimp only; omega)
  rintro x nx ⟨j, rfl, hj, hall⟩ hnx
  unfold r03_Small_L0_st
  dsimp only
  refine Ans.condd (fun hlt => ?_) (fun hge => Ans.pure (.inr ⟨_, rfl, fun c hc => ?rest⟩))
  case rest =>
    obtain ⟨i, hi⟩ := List.getElem?_of_mem hc
    have := (List.getElem?_eq_some_iff.1 hi).1
    exact hall i c (by omega) hi
  refine Ans.bind (Ans.idx (by omega) (by omega)) fun y1 hy1 => ?_
  refine Ans.condd (fun _ => Ans.pure (.inl ⟨_, rfl, rfl⟩)) fun hF => ?_
  refine Ans.bind (Ans.idx (by omega) (by omega)) fun y2 hy2 => ?_
  refine Ans.condd (fun _ => Ans.pure (.inl ⟨_, rfl, rfl⟩)) fun hR => ?_
  refine Ans.bind (Q := fun r => (∀ b, r = .inl b → b = false) ∧ ∀ b, r = .inr b → b = ((j : Int), s.M.W, s.M.G, s.M.bad, s.C, s.L)) ?_ fun l3 hl3 => Ans.brS (fun b hb => Ans.pure (.inl ⟨_, rfl, hl3.1 b hb⟩)) (fun b hb => ?_)
  · unfold r03_Small_L2
    refine Ans.loop (fun x => ∃ k : Nat, x = ((j : Int), (k : Int), s.M.W, s.M.G, s.M.bad, s.C, s.L) ∧ k ≤ y1.F.length) (fun x => ((y1.F.length : Int) - x.2.1).toNat) ?_ N _ ⟨0, rfl, Nat.zero_le _⟩ (by dsimp only; omega)
    rintro x nx ⟨k, rfl, hk⟩ hnx
    unfold r03_Small_L2_st
    dsimp only
    refine Ans.bind (Ans.idx (by omega) (by omega)) fun y3 hy3 => ?_
    have e3 : y3 = y1 := by
      rw [hy1] at hy3
      cases hy3
      rfl
    subst e3
    refine Ans.condd (fun hlt2 => ?_) (fun _ => Ans.pure ⟨fun b hb => (by cases hb), fun b hb => by cases hb; rfl⟩)
    refine Ans.bind (Ans.idx (by omega) (by omega)) fun y4 hy4 => ?_
    have e4 : y4 = y3 := by
      rw [hy1] at hy4
      cases hy4
      rfl
    subst e4
    refine Ans.bind (Ans.idx (by omega) (by omega)) fun y5 hy5 => ?_
    refine Ans.condd (fun _ => Ans.pure ⟨fun b hb => (by cases hb; rfl), fun b hb => (by cases hb)⟩) fun _ => ?_
    refine hnx _ ⟨k + 1, ?_, by omega⟩ ?_
    · rw [w64_id (by omega) (by omega)]
      rfl
    · dsimp only
      rw [w64_id (by omega) (by omega)]
      omega
  · obtain rfl := hl3.2 b hb
    dsimp only
    refine hnx _ ⟨j + 1, ?_, by omega, fun i c hi hc => ?rest⟩ ?_
    case rest =>
      by_cases e : i = j
      · have e1 : (j : Int).toNat = j := by omega
        rw [e1, ← e, hc] at hy1 hy2
        cases hy1
        cases hy2
        omega
      · exact hall i c (by omega) hc
    · rw [w64_id (by omega) (by omega)]
      rfl
    · dsimp only
      rw [w64_id (by omega) (by omega)]
      omega

theorem right2_ends (N : Nat) (hN : 1000 < N) (m : MemD) (hG : m.G.length ≤ 61) : Ans (r02_Right N m) (fun r => r = true → 128 ≤ m.W.length) := by
  unfold r02_Right
  rw [w64_id (n := (m.G.length : Int) - 1) (by omega) (by omega)]
  refine Ans.condd (fun _ => Ans.pure fun h => by cases h) fun h1 => ?_
  refine Ans.condd (fun _ => Ans.pure fun h => by cases h) fun h2 => ?_
  rw [w64_id (n := 4 * ((m.G.length : Int) - 1)) (by omega) (by omega), w64_id (by omega) (by omega)]
  refine Ans.cond (fun _ => Ans.pure fun h => by cases h) fun h3 => ?_
  simp only [bne_eq_false_iff_eq] at h3
  have h4 : 128 ≤ m.W.length := by omega
  refine Ans.bind (Ans.idx (by omega) (by omega)) fun y hy => ?_
  refine Ans.cond (fun _ => Ans.pure fun h => by cases h) fun _ => ?_
  refine Ans.bind (Q := fun _ => True) ?_ fun l2 _ => Ans.brS (fun _ _ => Ans.pure fun _ => h4) (fun _ _ => Ans.pure fun _ => h4)
  unfold r02_Right_L0
  refine Ans.loop (fun x => ∃ j : Nat, x = ((m.G.length : Int) - 1, (j : Int), m.W, m.G, m.bad) ∧ j ≤ m.G.length) (fun x => ((m.G.length : Int) - x.2.1).toNat) ?_ N _ ⟨0, rfl, Nat.zero_le _⟩ (by dsimp only; omega)
  rintro x nx ⟨j, rfl, hj⟩ hnx
  unfold r02_Right_L0_st
  dsimp only
  refine Ans.condd (fun hlt => ?_) (fun _ => Ans.pure trivial)
  refine Ans.bind (Ans.idx (by omega) (by omega)) fun y1 hy1 => ?_
  refine Ans.condd (fun _ => Ans.pure trivial) fun _ => ?_
  refine Ans.bind (Ans.idx (by omega) (by omega)) fun y2 hy2 => ?_
  refine Ans.condd (fun _ => Ans.pure trivial) fun _ => ?_
  refine hnx _ ⟨j + 1, ?_, by omega⟩ ?_
  · rw [w64_id (by omega) (by omega)]
    rfl
  · dsimp only
    rw [w64_id (by omega) (by omega)]
    omega

theorem core_ends (N : Nat) (hN : 1000 < N) (c : CoreD) (hc : c.F.length ≤ 200) : Ans (r03_core N c) (fun _ => True) := by
  unfold r03_core
  refine Ans.bind (near_ends N _) fun z1 _ => Ans.cond (fun _ => Ans.pure trivial) fun _ => ?_
  refine Ans.bind (near_ends N _) fun z1 _ => Ans.cond (fun _ => Ans.pure trivial) fun _ => ?_
  refine Ans.bind (near_ends N _) fun z1 _ => Ans.cond (fun _ => Ans.pure trivial) fun _ => ?_
  refine Ans.bind (near_ends N _) fun z1 _ => Ans.cond (fun _ => Ans.pure trivial) fun _ => ?_
  refine Ans.bind (Q := fun _ => True) ?_ fun l2 _ => Ans.brS (fun _ _ => Ans.pure trivial) (fun _ _ => Ans.pure trivial)
  unfold r03_core_L0
  refine Ans.loop (fun x => ∃ j : Nat, x = ((j : Int), c.F, c.V, c.E, c.x0, c.x1, c.x2, c.Ret) ∧ j ≤ c.F.length) (fun x => ((c.F.length : Int) - x.1).toNat) ?_ N _ ⟨0, rfl, Nat.zero_le _⟩ (by dsimp only; omega)
  rintro x nx ⟨j, rfl, hj⟩ hnx
  unfold r03_core_L0_st
  dsimp only
  refine Ans.condd (fun hlt => ?_) (fun _ => Ans.pure trivial)
  have hi : Ans (idx c.F (j : Int)) (fun _ => True) := (Ans.idx (by omega) (by omega)).mono fun _ _ => trivial
  refine Ans.bind hi fun y _ => Ans.bind (near_ends N _) fun z _ => Ans.cond (fun _ => Ans.pure trivial) fun _ => ?_
  refine Ans.bind hi fun y _ => Ans.bind (near_ends N _) fun z _ => Ans.cond (fun _ => Ans.pure trivial) fun _ => ?_
  refine Ans.bind hi fun y _ => Ans.bind (near_ends N _) fun z _ => Ans.cond (fun _ => Ans.pure trivial) fun _ => ?_
  refine Ans.bind hi fun y _ => Ans.bind (near_ends N _) fun z _ => Ans.cond (fun _ => Ans.pure trivial) fun _ => ?_
  refine Ans.bind hi fun y _ => Ans.bind (near_ends N _) fun z _ => Ans.cond (fun _ => Ans.pure trivial) fun _ => ?_
  refine Ans.bind hi fun y _ => Ans.bind (near_ends N _) fun z _ => Ans.cond (fun _ => Ans.pure trivial) fun _ => ?_
  refine Ans.bind hi fun y _ => Ans.bind (near_ends N _) fun z _ => Ans.cond (fun _ => Ans.pure trivial) fun _ => ?_
  refine Ans.bind hi fun y _ => Ans.bind (near_ends N _) fun z _ => Ans.cond (fun _ => Ans.pure trivial) fun _ => ?_
  refine hnx _ ⟨j + 1, ?_, by omega⟩ ?_
  · rw [w64_id (by omega) (by omega)]
    rfl
  · dsimp only
    rw [w64_id (by omega) (by omega)]
    omega

theorem right_ends (N : Nat) (hN : 1000 < N) (s : SysD) (hG : s.M.G.length ≤ 61) (hC : ∀ c ∈ s.C, c.F.length ≤ 45) : Ans (r03_Right N s) (fun r => r = true → 128 ≤ s.M.W.length) := by
  unfold r03_Right
  refine Ans.bind (right2_ends N hN s.M hG) fun z1 h1 => ?_
  refine Ans.cond (fun _ => Ans.pure fun h => by cases h) fun hz1 => ?_
  simp only [Bool.not_eq_eq_eq_not, Bool.not_false] at hz1
  have h1 := h1 hz1
  refine Ans.condd (fun _ => Ans.pure fun h => by cases h) fun h2 => ?_
  refine Ans.condd (fun _ => Ans.pure fun h => by cases h) fun h3 => ?_
  refine Ans.bind (Q := fun _ => True) ?_ fun l2 _ => Ans.brS (fun _ _ => Ans.pure fun _ => h1) (fun _ _ => Ans.pure fun _ => h1)
  unfold r03_Right_L0
  refine Ans.loop (fun x => ∃ j : Nat, x = ((j : Int), s.M.W, s.M.G, s.M.bad, s.C, s.L) ∧ j ≤ s.C.length) (fun x => ((s.C.length : Int) - x.1).toNat) ?_ N _ ⟨0, rfl, Nat.zero_le _⟩ (by dsimp only; omega)
  rintro x nx ⟨j, rfl, hj⟩ hnx
  unfold r03_Right_L0_st
  dsimp only
  refine Ans.condd (fun hlt => ?_) (fun _ => Ans.pure trivial)
  refine Ans.bind (Ans.idx (by omega) (by omega)) fun y1 hy1 => ?_
  have hF := hC y1 (List.mem_of_getElem? hy1)
  refine Ans.bind (core_ends N hN y1 (by omega)) fun z2 _ => Ans.cond (fun _ => Ans.pure trivial) fun _ => ?_
  refine Ans.bind (Ans.idx (by omega) (by omega)) fun y2 hy2 => ?_
  refine Ans.condd (fun _ => Ans.pure trivial) fun _ => ?_
  refine Ans.bind (Ans.idx (by omega) (by omega)) fun y3 hy3 => ?_
  refine Ans.condd (fun _ => Ans.pure trivial) fun hR => ?_
  refine Ans.bind (Q := fun r => ∀ b, r = .inr b → b = ((j : Int), s.M.W, s.M.G, s.M.bad, s.C, s.L)) ?_ fun l3 hl3 => Ans.brS (fun _ _ => Ans.pure trivial) (fun b hb => ?_)
  · unfold r03_Right_L2
    refine Ans.loop (fun x => ∃ k : Nat, x = ((j : Int), (k : Int), s.M.W, s.M.G, s.M.bad, s.C, s.L) ∧ k ≤ y1.F.length) (fun x => ((y1.F.length : Int) - x.2.1).toNat) ?_ N _ ⟨0, rfl, Nat.zero_le _⟩ (by dsimp only; omega)
    rintro x nx ⟨k, rfl, hk⟩ hnx
    unfold r03_Right_L2_st
    dsimp only
    refine Ans.bind (Ans.idx (by omega) (by omega)) fun y3 hy3 => ?_
    have e3 : y3 = y1 := by
      rw [hy1] at hy3
      cases hy3
      rfl
    subst e3
    refine Ans.condd (fun hlt2 => ?_) (fun _ => Ans.pure fun b hb => by cases hb; rfl)
    refine Ans.bind (Ans.idx (by omega) (by omega)) fun y4 hy4 => ?_
    have e4 : y4 = y3 := by
      rw [hy1] at hy4
      cases hy4
      rfl
    subst e4
    refine Ans.bind (Ans.idx (by omega) (by omega)) fun y5 hy5 => ?_
    refine Ans.condd (fun _ => Ans.pure fun b hb => by cases hb) fun _ => ?_
    refine hnx _ ⟨k + 1, ?_, by omega⟩ ?_
    · rw [w64_id (by omega) (by omega)]
      rfl
    · dsimp only
      rw [w64_id (by omega) (by omega)]
      omega
  · obtain rfl := hl3 b hb
    dsimp only
    refine hnx _ ⟨j + 1, ?_, by omega⟩ ?_
    · rw [w64_id (by omega) (by omega)]
      rfl
    · dsimp only
      rw [w64_id (by omega) (by omega)]
      omega

theorem may_ends (N : Nat) (hN : 1000 < N) (s : SysD) : Ans (r03_May N s 60) (fun r => r = true → 128 ≤ s.M.W.length) := by
  unfold r03_May
  refine Ans.bind (small_ends N hN s) fun z1 h1 => ?_
  refine Ans.cond (fun hz => ?_) fun _ => Ans.pure fun h => by cases h
  obtain ⟨hG, hC, -⟩ := h1 hz
  exact Ans.bind (right_ends N hN s hG fun c h => (hC c h).1) fun z2 h2 => Ans.pure h2

/-- The state of a thread. -/
def stAt (W : List Int) (i : Nat) : Int := ((W[96 + i]?.getD 0).fdiv 2) % 1048576

theorem pack_eq (N : Nat) (y : Int) : pack_Index N y = some (y.fdiv 2 % 1048576) := by
  unfold pack_Index
  congr 1
  have e1 : shrI .i64 y 1 = y.fdiv 2 := rfl
  rw [e1]
  generalize y.fdiv 2 = n
  unfold band
  have e2 : (BitVec.ofInt IntKind.i64.bits n &&& BitVec.ofInt IntKind.i64.bits 1048575).toNat = (n % 1048576).toNat := by
    have e3 : (BitVec.ofInt IntKind.i64.bits 1048575).toNat = 2 ^ 20 - 1 := by decide
    rw [BitVec.toNat_and, e3, Nat.and_two_pow_sub_one_eq_mod, BitVec.toNat_ofInt]
    have : ((2 : Int) ^ IntKind.i64.bits) = 18446744073709551616 := by decide
    have e4 : (((2 ^ IntKind.i64.bits : Nat) : Int)) = 18446744073709551616 := by decide
    rw [e4]
    omega
  rw [e2, IntKind.wrap_i64]
  omega

theorem ref_eq (N : Nat) (y : Int) : r01_Index N y = some (y.fdiv 2 % 1048576) := by
  unfold r01_Index r01_mod
  have e0 : decide ((2097152 : Int) = 0) = false := by decide
  rw [e0, cond_false]
  have hm : (bif decide (Int.tmod y 2097152 < 0) then some (w64 (Int.tmod y 2097152 + 2097152)) else some (Int.tmod y 2097152)) = some (y % 2097152) := by
    have h1 := Int.tmod_eq_emod (a := y) (b := 2097152)
    have e1 : Int.natAbs 2097152 = 2097152 := rfl
    rw [e1] at h1
    by_cases h : Int.tmod y 2097152 < 0
    · rw [decide_eq_true h, cond_true]
      split at h1
      · omega
      · rw [w64_id (by omega) (by omega)]
        congr 1
        omega
    · rw [decide_eq_false h, cond_false]
      congr 1
      split at h1 <;> omega
  rw [hm, Option.bind_some]
  congr 1
  rw [Int.tdiv_eq_ediv_of_nonneg (by omega), w64_id (by omega) (by omega), Int.fdiv_eq_ediv_of_nonneg _ (by omega)]
  omega

theorem thr_ok (N : Nat) (s : SysD) (hW : 128 ≤ s.M.W.length) (i : Nat) (hi : i < 16) : thr_State N s i = some (stAt s.M.W i) := by
  unfold thr_State thr_below
  have h1 : decide ((i : Int) ≥ 0) = true := decide_eq_true (by omega)
  have h2 : decide ((i : Int) < 16) = true := decide_eq_true (by omega)
  rw [h1, h2, cond_true, Option.bind_some, Bool.not_true, cond_false, w64_id (by omega) (by omega)]
  unfold idx
  rw [if_pos (by omega)]
  have e : ((96 : Int) + (i : Int)).toNat = 96 + i := by omega
  have hl : 96 + i < s.M.W.length := by omega
  rw [e, List.getElem?_eq_getElem hl, Option.bind_some, pack_eq, Option.bind_some]
  unfold stAt
  rw [List.getElem?_eq_getElem hl]
  rfl

theorem r13_ok (N : Nat) (s : SysD) (hW : 128 ≤ s.M.W.length) (i : Nat) (hi : i < 16) : r13_State N s i = some (stAt s.M.W i) := by
  unfold r13_State
  have h1 : decide ((i : Int) < 0) = false := decide_eq_false (by omega)
  have h2 : decide ((i : Int) > 15) = false := decide_eq_false (by omega)
  rw [h1, h2, cond_false, cond_false, w64_id (by omega) (by omega)]
  unfold idx
  rw [if_pos (by omega)]
  have e : ((96 : Int) + (i : Int)).toNat = 96 + i := by omega
  have hl : 96 + i < s.M.W.length := by omega
  rw [e, List.getElem?_eq_getElem hl, Option.bind_some, ref_eq, Option.bind_some]
  unfold stAt
  rw [List.getElem?_eq_getElem hl]
  rfl

theorem stAt_nonneg (W : List Int) (i : Nat) : 0 ≤ stAt W i := Int.emod_nonneg _ (by decide)

theorem isPort_ok (N : Nat) (p : Int) : port_isPort N p = some (decide (0 ≤ p ∧ p < 8)) := by
  unfold port_isPort
  by_cases h : 0 ≤ p
  · rw [decide_eq_true (show p ≥ 0 from h), cond_true]
    congr 1
    by_cases h2 : p < 8
    · rw [decide_eq_true h2, decide_eq_true ⟨h, h2⟩]
    · rw [decide_eq_false h2, decide_eq_false fun h3 => h2 h3.2]
  · rw [decide_eq_false (show ¬ p ≥ 0 from h), cond_false, decide_eq_false fun h3 => h h3.1]

theorem waits_ok (N : Nat) (hN : 1000 < N) (s : SysD) (hW : 128 ≤ s.M.W.length) (p : Int) (hp : -1 ≤ p ∧ p ≤ 8) :
    Ans (port_Waits N s p) (fun l => l.length ≤ 16 ∧ ((p < 0 ∨ 8 ≤ p) → l = []) ∧ ∀ id : Nat, id < 16 → ((id : Int) ∈ l ↔ (0 ≤ p ∧ p < 8) ∧ stAt s.M.W id = 8 + p)) := by
  unfold port_Waits
  refine Ans.bind (Q := fun r => ∃ acc, r = .inl (s.M.W, s.M.G, s.M.bad, s.C, s.L, acc) ∧ acc.length ≤ 16 ∧ ((p < 0 ∨ 8 ≤ p) → acc = []) ∧ ∀ id : Nat, id < 16 → ((id : Int) ∈ acc ↔ (0 ≤ p ∧ p < 8) ∧ stAt s.M.W id = 8 + p)) ?_ fun l h => ?_
  · unfold port_Waits_L0
    refine Ans.loop (fun x => ∃ (j : Nat) (acc : List Int), x = (p, (j : Int), s.M.W, s.M.G, s.M.bad, s.C, s.L, acc) ∧ j ≤ 16 ∧ acc.length ≤ j ∧ ((p < 0 ∨ 8 ≤ p) → acc = [] ∧ j = 0) ∧ ∀ id : Nat, ((id : Int) ∈ acc ↔ id < j ∧ (0 ≤ p ∧ p < 8) ∧ stAt s.M.W id = 8 + p)) (fun x => (16 - x.2.1).toNat) ?_ N _ ⟨0, [], rfl, by omega, by simp, fun _ => ⟨rfl, rfl⟩, fun id => by simp⟩ (by dsimp only; omega)
    rintro x nx ⟨j, acc, rfl, hj, hl, h0, hm⟩ hnx
    unfold port_Waits_L0_st
    dsimp only
    refine Ans.condd (fun hlt => ?_) (fun hge => ?_)
    · rw [isPort_ok, Option.bind_some]
      refine Ans.condd (fun hq => ?_) (fun hq => ?_)
      · rw [thr_ok N ⟨⟨s.M.W, s.M.G, s.M.bad⟩, s.C, s.L⟩ hW j (by omega), Option.bind_some, w64_id (n := 8 + p) (by omega) (by omega), w64_id (n := (j : Int) + 1) (by omega) (by omega)]
        refine Ans.cond (fun he => ?_) fun he => ?_
        · have he : stAt s.M.W j = 8 + p := eq_of_beq he
          refine Ans.condd (fun _ => ?_) fun hno => absurd (show acc.length + 1 ≤ most from by unfold most; omega) hno
          refine hnx _ ⟨j + 1, acc ++ [(j : Int)], rfl, by omega, by simp; omega, fun h => by omega, fun id => ?_⟩ (by dsimp only; omega)
          rw [List.mem_append, hm, List.mem_singleton]
          constructor
          · rintro (⟨h1, h2⟩ | h)
            · exact ⟨by omega, h2⟩
            · obtain rfl : id = j := by omega
              exact ⟨by omega, hq, he⟩
          · rintro ⟨h1, h2⟩
            by_cases h : id = j
            · exact .inr (by rw [h])
            · exact .inl ⟨by omega, h2⟩
        · have he : stAt s.M.W j ≠ 8 + p := fun h => by
            rw [show (stAt (⟨⟨s.M.W, s.M.G, s.M.bad⟩, s.C, s.L⟩ : SysD).M.W j == 8 + p) = true from beq_iff_eq.2 h] at he
            cases he
          refine hnx _ ⟨j + 1, acc, rfl, by omega, by omega, fun h => by omega, fun id => ?_⟩ (by dsimp only; omega)
          rw [hm]
          constructor
          · rintro ⟨h1, h2⟩
            exact ⟨by omega, h2⟩
          · rintro ⟨h1, h2⟩
            have : id ≠ j := fun h => he (by rw [← h]; exact h2.2)
            exact ⟨by omega, h2⟩
      · have : p < 0 ∨ 8 ≤ p := by omega
        obtain ⟨rfl, rfl⟩ := h0 this
        exact Ans.pure ⟨[], rfl, by simp, fun _ => rfl, fun id _ => by simp; omega⟩
    · refine Ans.pure ⟨acc, rfl, by omega, fun h => (h0 h).1, fun id hid => ?_⟩
      rw [hm]
      constructor
      · exact fun h => h.2
      · exact fun h => ⟨by omega, h⟩
  · obtain ⟨acc, rfl, h⟩ := h
    exact Ans.pure h

theorem in_ok (N : Nat) (hN : 1000 < N) (l : List Int) (hl : l.length ≤ 16) (id : Int) : r04_In N l id = some (decide (id ∈ l)) := by
  refine Ans.eq ?_
  unfold r04_In
  refine Ans.bind (Q := fun r => (∃ b, r = .inl b ∧ b = decide (id ∈ l)) ∨ (∃ u, r = .inr u ∧ id ∉ l)) ?_ fun r h => ?_
  · unfold r04_In_L0
    refine Ans.loop (fun x => ∃ j : Nat, x = (l, id, (j : Int)) ∧ j ≤ l.length ∧ ∀ k : Nat, k < j → l[k]? ≠ some id) (fun x => ((l.length : Int) - x.2.2).toNat) ?_ N _ ⟨0, rfl, Nat.zero_le _, fun k h => absurd h (Nat.not_lt_zero _)⟩ (by dsimp only; omega)
    rintro x nx ⟨j, rfl, hj, hk⟩ hnx
    unfold r04_In_L0_st
    dsimp only
    refine Ans.condd (fun hlt => ?_) (fun hge => ?_)
    · refine Ans.bind (Ans.idx (by omega) (by omega)) fun y hy => ?_
      refine Ans.cond (fun he => ?_) fun he => ?_
      · obtain rfl := eq_of_beq he
        exact Ans.pure (.inl ⟨_, rfl, (decide_eq_true (List.mem_of_getElem? hy)).symm⟩)
      · have he : y ≠ id := by
          intro h
          rw [h, beq_self_eq_true] at he
          cases he
        refine hnx _ ⟨j + 1, ?_, by omega, fun k h => ?_⟩ ?_
        · rw [w64_id (by omega) (by omega)]
          rfl
        · by_cases e : k = j
          · have : (j : Int).toNat = j := by omega
            rw [this] at hy
            rw [e, hy]
            intro h
            exact he (Option.some.inj h)
          · exact hk k (by omega)
        · dsimp only
          rw [w64_id (by omega) (by omega)]
          omega
    · refine Ans.pure (.inr ⟨_, rfl, fun h => ?_⟩)
      obtain ⟨k, h⟩ := List.getElem?_of_mem h
      have := (List.getElem?_eq_some_iff.1 h).1
      exact hk k (by omega) h
  · rcases h with ⟨b, rfl, h⟩ | ⟨u, rfl, h⟩
    · exact Ans.pure h
    · exact Ans.pure (decide_eq_false h).symm

/-- At how many ports below p a thread of state z waits. -/
def cnt (z p : Int) : Int := if 8 ≤ z ∧ z < 16 ∧ z < 8 + p then 1 else 0

theorem count_ok (N : Nat) (hN : 1000 < N) (z1 : Bool) (W G : List Int) (bad : Bool) (C : List CoreD) (L : List EvD) (hW : 128 ≤ W.length) (id : Nat) (hid : id < 16) :
    Ans (law14_PortCounts_L2 N (z1, (id : Int), 0, -1, W, G, bad, C, L)) (fun r => r = .inl (z1, (id : Int), cnt (stAt W id) 9, W, G, bad, C, L)) := by
  have hz := stAt_nonneg W id
  unfold law14_PortCounts_L2
  refine Ans.loop (fun x => ∃ p : Int, x = (z1, (id : Int), cnt (stAt W id) p, p, W, G, bad, C, L) ∧ -1 ≤ p ∧ p ≤ 9) (fun x => (9 - x.2.2.2.1).toNat) ?_ N _ ⟨-1, ?_, by omega, by omega⟩ (by dsimp only; omega)
  · rintro x nx ⟨p, rfl, hp1, hp2⟩ hnx
    unfold law14_PortCounts_L2_st
    dsimp only
    refine Ans.condd (fun hlt => ?_) (fun hge => ?_)
    · refine Ans.bind (waits_ok N hN ⟨⟨W, G, bad⟩, C, L⟩ hW p (by omega)) fun l hl => ?_
      rw [in_ok N hN l hl.1, Option.bind_some, w64_id (n := p + 1) (by omega) (by omega)]
      have hin := hl.2.2 id hid
      refine Ans.condd (fun h => ?_) fun h => ?_
      · obtain ⟨h1, h2⟩ := hin.1 h
        have h2 : stAt W id = 8 + p := h2
        refine hnx _ ⟨p + 1, ?_, by omega, by omega⟩ (by dsimp only; omega)
        have e1 : cnt (stAt W id) p = 0 := if_neg (by omega)
        have e2 : cnt (stAt W id) (p + 1) = 1 := if_pos (by omega)
        rw [e1, e2]
        rfl
      · refine hnx _ ⟨p + 1, ?_, by omega, by omega⟩ (by dsimp only; omega)
        have h3 : ¬ ((0 ≤ p ∧ p < 8) ∧ stAt W id = 8 + p) := fun h3 => h (hin.2 h3)
        have : cnt (stAt W id) (p + 1) = cnt (stAt W id) p := by
          unfold cnt
          by_cases h4 : 8 ≤ stAt W id ∧ stAt W id < 16 ∧ stAt W id < 8 + p
          · rw [if_pos h4, if_pos (by omega)]
          · rw [if_neg h4, if_neg (by omega)]
        rw [this]
    · obtain rfl : p = 9 := by omega
      exact Ans.pure rfl
  · have : cnt (stAt W id) (-1) = 0 := if_neg (by omega)
    rw [this]

theorem counts_true (N : Nat) (hN : 1000 < N) (hs : law14_shown N = some true) (s : SysD) : law14_PortCounts N s = some true := by
  refine Ans.eq ?_
  unfold law14_PortCounts
  rw [hs, Option.bind_some]
  refine Ans.bind (may_ends N hN s) fun z2 hz2 => ?_
  refine Ans.cond (fun _ => Ans.pure rfl) fun h2 => ?_
  simp only [Bool.not_eq_eq_eq_not, Bool.not_false] at h2
  have hW := hz2 h2
  refine Ans.bind (Q := fun r => r = .inr (true, s.M.W, s.M.G, s.M.bad, s.C, s.L)) ?_ fun r hr => ?_
  · unfold law14_PortCounts_L0
    refine Ans.loop (fun x => ∃ j : Nat, x = (true, (j : Int), s.M.W, s.M.G, s.M.bad, s.C, s.L) ∧ j ≤ 16) (fun x => (16 - x.2.1).toNat) ?_ N _ ⟨0, rfl, by omega⟩ (by dsimp only; omega)
    rintro x nx ⟨j, rfl, hj⟩ hnx
    unfold law14_PortCounts_L0_st
    dsimp only
    refine Ans.condd (fun hlt => ?_) (fun hge => Ans.pure rfl)
    refine Ans.bind (count_ok N hN true s.M.W s.M.G s.M.bad s.C s.L hW j (by omega)) fun r hr => ?_
    subst hr
    show Ans ((r13_State N ⟨⟨s.M.W, s.M.G, s.M.bad⟩, s.C, s.L⟩ (j : Int)).bind _) _
    rw [r13_ok N ⟨⟨s.M.W, s.M.G, s.M.bad⟩, s.C, s.L⟩ hW j (by omega), Option.bind_some]
    dsimp only
    rw [w64_id (n := (j : Int) + 1) (by omega) (by omega)]
    have hn : Ans (nx (true, (j : Int) + 1, s.M.W, s.M.G, s.M.bad, s.C, s.L)) (fun r => r = .inr (true, s.M.W, s.M.G, s.M.bad, s.C, s.L)) := hnx _ ⟨j + 1, rfl, by omega⟩ (by dsimp only; omega)
    refine Ans.condd (fun h => ?_) fun _ => ?_
    · unfold cnt at h
      split at h <;> omega
    · refine Ans.condd (fun h => ?_) fun h => ?_
      · have : (cnt (stAt s.M.W j) 9 == 1) = decide (stAt s.M.W j < 16) := by
          unfold cnt
          by_cases h4 : stAt s.M.W j < 16
          · rw [if_pos (by omega), decide_eq_true h4]
            rfl
          · rw [if_neg (by omega), decide_eq_false h4]
            rfl
        rw [this, beq_self_eq_true, Bool.not_true, cond_false]
        exact hn
      · have : (cnt (stAt s.M.W j) 9 == 1) = false := by
          unfold cnt
          rw [if_neg (by omega)]
          rfl
        rw [this]
        exact hn
  · subst hr
    show Ans ((port_Waits N ⟨⟨s.M.W, s.M.G, s.M.bad⟩, s.C, s.L⟩ 8).bind _) _
    refine Ans.bind (waits_ok N hN ⟨⟨s.M.W, s.M.G, s.M.bad⟩, s.C, s.L⟩ hW 8 (by omega)) fun l hl => ?_
    rw [hl.2.1 (by omega)]
    exact Ans.pure rfl

end Go.Hz
