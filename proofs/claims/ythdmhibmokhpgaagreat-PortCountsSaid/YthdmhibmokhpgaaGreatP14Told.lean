import Derived.RangeFuncNested
import Derived.RangeFuncBound
import Derived.RangeFuncCalls
import Derived.RangeFuncLeaves
import Derived.Shelf.Abstract
import Derived.WalkKit
import Derived.OwnWalkIn
import Derived.TacticsInMore
import Derived.LoopNIn
import Derived.LoopIn
import Derived.Test.YthdmhibmokhpgaaGreatAEExt
import Derived.Test.YthdmhibmokhpgaaGreatP14Defs
import Derived.Test.YthdmhibmokhpgaaGreatAEHand3
set_option linter.unusedSimpArgs false
set_option linter.unusedVariables false
namespace Go.Hz
open Go Go.RowKit Go.Shelf Go.AE Go.Proofs
attribute [local go_sem] Oper.semAt_some

theorem cell_of_box_l {W : World} {b : Nat} {v : Value} {t : TypeId} (h : W.heap[b]? = some (.cells #[v] t)) : W.cell? ⟨b, 0, none⟩ = some v ∧ W.frozen? ⟨b, 0, none⟩ = false := by
  constructor
  · simp [World.cell?, h]
  · simp [World.frozen?, h]
theorem cell_new_l (W : World) (v : Value) (t : TypeId) : (W.alloc (.cells #[v] t)).cell? ⟨W.heap.size, 0, none⟩ = some v ∧ (W.alloc (.cells #[v] t)).frozen? ⟨W.heap.size, 0, none⟩ = false :=
  cell_of_box_l (World.alloc_heap_new W _)
theorem cell_alloc_l {W : World} {a : Addr} {v : Value} (o : Obj) (h : W.cell? a = some v) : (W.alloc o).cell? a = some v := cell_kept h (World.grownBy_alloc W o none) (fun r e => by cases e)
theorem frozen_alloc_l {W : World} {a : Addr} {v : Value} (o : Obj) (h : W.cell? a = some v) (hf : W.frozen? a = false) : (W.alloc o).frozen? a = false := (frozen_kept h (World.grownBy_alloc W o none) (fun r e => by cases e)).trans hf

theorem maskBit_iff (m : Int) (k : Nat) (hk : k < 16) : maskBit m k = true ↔ bits .and .i64 (m / 2 ^ k) 1 = 1 := by
  unfold maskBit band shrI
  have h1 : min (k : Int).toNat (IntKind.bits .i64) = k := by simp [IntKind.bits]; omega
  have h2 : (m.fdiv (2 ^ k) : Int) = m / 2 ^ k := Int.fdiv_eq_ediv_of_nonneg _ (Int.pow_nonneg (by omega))
  rw [h1, h2]
  simp [bits]

/-- The threads of a mask, below a number. -/
def maskTo (m : Int) (k : Nat) : List Nat := (List.range k).filter (maskBit m)

theorem maskTo_succ (m : Int) (k : Nat) : maskTo m (k + 1) = if maskBit m k then maskTo m k ++ [k] else maskTo m k := by
  unfold maskTo
  rw [List.range_succ, List.filter_append]
  cases h : maskBit m k <;> simp [h]

theorem maskTo_len (m : Int) (k : Nat) : (maskTo m k).length ≤ k := by
  have := List.length_filter_le (maskBit m) (List.range k)
  simpa [maskTo] using this

set_option maxRecDepth 100000 in
set_option maxHeartbeats 2000000 in
theorem told1_in (F : Fence) (n : Nat) (h7 : F.fn 201) (hro : F.round = none) (hn : 1 ≤ n) (l Bm n₀ : Nat) (m : Int) (hb : Bm < n₀) (J Jx : List Nat → World → Prop)
    (hY : ∀ pre (x : Nat) W, J pre W → pre.length < 16 → YieldAt F (n - 1) Tryz.prog l #[.int .i64 (x : Int)] W fun e W' =>
      (e = .returned (.bool true) ∧ J (pre ++ [x]) W' ∧ Below n₀ W W') ∨ (e = .returned (.bool false) ∧ Jx (pre ++ [x]) W'))
    (W : World) (hB : W.cell? ⟨Bm, 0, none⟩ = some (.int .i64 m)) (h0 : J [] W) :
    CallsIn F n Tryz.prog 201 #[.func (.yield l) #[] #[], .pointer (some ⟨Bm, 0, none⟩)] W fun e W' => (∃ v, e = .returned v) ∧
      ((∃ ys, ys = maskTo m 16 ∧ J ys W') ∨ (∃ pre, (∃ k, k ≤ 16 ∧ pre = maskTo m k) ∧ Jx pre W')) := by
  refine callsIn_of_wp Tryz.func201 rfl h7 ?_ hro
  simp only [Tryz.ntmps201, List.size_toArray, List.length_cons, List.length_nil, Nat.reduceAdd, Nat.reduceSub, Array.replicate_succ, Array.replicate_zero, List.push_toArray, List.append_toArray, List.nil_append, List.cons_append]
  gi_wp2
  gi_loopw [4] (fun i wr => ∃ k : Nat, k ≤ 16 ∧ i = .int .i64 k ∧ J (maskTo m k) wr ∧ Below n₀ W wr)
    (fun i _ => 16 - (intOf i).toNat)
  case atStart => exact ⟨0, Nat.zero_le _, rfl, h0, Below.refl _ _⟩
  case round =>
    obtain ⟨k, hk, rfl, hJs, hnx⟩ := hrel
    have hcx : wr.cell? ⟨Bm, 0, none⟩ = some (.int .i64 m) := (hnx.cell (p := ⟨Bm, 0, none⟩) hb).trans hB
    by_cases hlt : k < 16
    · obtain ⟨fn, tmps, assign, body, hy, hR⟩ := hY (maskTo m k) k wr hJs (by have := maskTo_len m k; omega)
      by_cases hbit : bits .and .i64 (m / 2 ^ k) 1 = 1
      · have hsucc : maskTo m (k + 1) = maskTo m k ++ [k] := by rw [maskTo_succ, if_pos ((maskBit_iff m k hlt).2 hbit)]
        gi_wp2
        refine hR.mono ?_
        rintro e W3 (⟨rfl, hJ3, hk3⟩ | ⟨rfl, hJx3⟩)
        · gi_wp2
          go_roundw
          case rel => exact ⟨k + 1, by omega, by simp, by rw [hsucc]; exact hJ3, hnx.trans hk3⟩
          case measure => simp [intOf]; omega
        · gi_wp2
          refine bodyPost_ret (results_none rfl _ _ _) rfl ?_
          exact ⟨⟨_, rfl⟩, .inr ⟨_, ⟨k + 1, by omega, hsucc.symm⟩, hJx3⟩⟩
      · have hsucc : maskTo m (k + 1) = maskTo m k := by rw [maskTo_succ, if_neg (fun h => hbit ((maskBit_iff m k hlt).1 h))]
        have hbit2 : (bits .and .i64 (m / 2 ^ k) 1 == 1) = false := by simpa using hbit
        gi_wp2
        refine ⟨fun _ h => (by cases h), ?_⟩
        gi_wp2
        go_roundw
        case rel => exact ⟨k + 1, by omega, by simp, by rw [hsucc]; exact hJs, hnx⟩
        case measure => simp [intOf]; omega
    · obtain rfl : k = 16 := by omega
      gi_wp2
      go_end0
      exact ⟨⟨_, rfl⟩, .inl ⟨_, rfl, hJs⟩⟩

set_option maxHeartbeats 1000000 in
theorem told_in (F : Fence) (n : Nat) (h5 : F.fn 174) (hro : F.round = none) (m : Int) (w : World) :
    CallsIn F n Tryz.prog 174 #[.int .i64 m] w fun e w' => e = .returned (.func (.func 201) #[] #[.pointer (some ⟨w.heap.size, 0, none⟩)]) ∧ w' = w.alloc (.cells #[.int .i64 m] 3) := by
  refine callsIn_of_wp Tryz.func174 rfl h5 ?_ hro
  simp only [Tryz.ntmps174, List.size_toArray, List.length_cons, List.length_nil, Nat.reduceAdd, Nat.reduceSub, Array.replicate_succ, Array.replicate_zero, List.push_toArray, List.append_toArray, List.nil_append, List.cons_append]
  gi_wp2
  go_ret
  exact ⟨rfl, rfl⟩

theorem told_stops (F : Fence) (n : Nat) (h7 : F.fn 201) (hro : F.round = none) (hn : 1 ≤ n) (Bm n₀ : Nat) (m : Int) (w : World) (hb : Bm < n₀) (hn₀ : n₀ ≤ w.heap.size) (hc : w.cell? ⟨Bm, 0, none⟩ = some (.int .i64 m)) :
    SeqStopsK F n Tryz.prog 201 #[.pointer (some ⟨Bm, 0, none⟩)] (fun x : Nat => #[Value.int .i64 (x : Int)]) (Below n₀) (fun ys => ys = maskTo m 16) (fun pre => ∃ k, k ≤ 16 ∧ pre = maskTo m k) 16 w := fun l J Jx W hW _ _ hY h0 =>
  told1_in F n h7 hro hn l Bm n₀ m hb J Jx hY W ((hW.cell (p := ⟨Bm, 0, none⟩) (by simp; omega)).trans hc) h0

theorem maskTo_prefix (m : Int) {k : Nat} (hk : k ≤ 16) : maskTo m k <+: maskTo m 16 := by
  refine ⟨((List.range 16).drop k).filter (maskBit m), ?_⟩
  unfold maskTo
  have : List.range k = (List.range 16).take k := by rw [List.take_range]; congr 1; omega
  rw [this, ← List.filter_append, List.take_append_drop]

theorem lowest_none {m : Int} (h : maskTo m 16 = []) : lowestX m = -1 := by
  have : maskOf m = [] := by simp [maskOf, show (List.range 16).filter (maskBit m) = [] from h]
  simp [lowestX, this]

theorem lowest_some {m : Int} {k x : Nat} (hk : k ≤ 16) (h : maskTo m k = [x]) : lowestX m = x := by
  obtain ⟨r, hr⟩ := maskTo_prefix m hk
  rw [h] at hr
  have : maskOf m = (x : Int) :: r.map (fun (t : Nat) => (t : Int)) := by
    simp only [maskOf, show (List.range 16).filter (maskBit m) = [x] ++ r from hr.symm]
    simp
  simp [lowestX, this]

set_option maxRecDepth 100000 in
set_option maxHeartbeats 2000000 in
theorem lowest_in (F : Fence) (n : Nat) (h3 : F.fn 144) (h5 : F.fn 174) (h6 : F.fn 201) (hro : F.round = none) (hn : 3 ≤ n) (m : Int) (w : World) :
    CallsIn F n Tryz.prog 144 #[.int .i64 m] w fun e W' => e = .returned (.int .i64 (lowestX m)) ∧ Below w.heap.size w W' := by
  have h1 : 1 ≤ n := by omega
  refine callsIn_of_wp_marks Tryz.func144 rfl h3 ?_ hro
  simp only [Tryz.ntmps144, List.size_toArray, List.length_cons, List.length_nil, Nat.reduceAdd, Nat.reduceSub, Array.replicate_succ, Array.replicate_zero, List.push_toArray, List.append_toArray, List.nil_append, List.cons_append]
  gi_wp2_with (gi_at_call 174; refine (told_in F (n - 1) h5 hro _ _).mono ?_; rintro e w' ⟨rfl, rfl⟩)
  have c0 := cell_new_l w (.int .i64 0) 3
  have c1 := cell_new_l (w.alloc (.cells #[.int .i64 0] 3)) (.int .i64 m) 3
  simp only [World.size_alloc] at c1
  have hB0 : Below w.heap.size w ((w.alloc (.cells #[.int .i64 0] 3)).alloc (.cells #[.int .i64 m] 3)) := ((Below.refl _ w).alloc (Nat.le_refl _) _).alloc (by simp) _
  refine wpIn_rangeFunc_ownF hro h1 (gf := 201) (lb := #[.pointer (some ⟨w.heap.size + 1, 0, none⟩)]) rfl h6 (enters_of Tryz.func201 (by kernel_rfl) rfl)
    (told_stops F (n - 1) h6 hro (by omega) (w.heap.size + 1) (w.heap.size + 2) m _ (by omega) (by simp) c1.1) belowK_t (belowK_b (by simp)) (Below.refl _ _) (fun _ => rfl)
    (fun pre W => (pre = [] ∧ W.cell? ⟨w.heap.size, 0, none⟩ = some (.int .i64 0) ∧ W.frozen? ⟨w.heap.size, 0, none⟩ = false) ∧ Below w.heap.size w W)
    (fun c pre W => (c = .ret ∧ ∃ x : Nat, pre = [x] ∧ W.cell? ⟨w.heap.size, 0, none⟩ = some (.int .i64 (x : Int))) ∧ Below w.heap.size w W)
    (OwnFrom.and (Own.from (fun s A B row hs hg hr => ⟨hs.1, cell_kept hs.2.1 hg hr, (frozen_kept hs.2.1 hg hr).trans hs.2.2⟩) _) (ownFrom_below (Nat.le_refl _) (by simp; omega)))
    (fun c => OwnFrom.and (Own.from (fun s A B row hs hg hr => ⟨hs.1, hs.2.elim fun x hx => ⟨x, hx.1, cell_kept hx.2 hg hr⟩⟩) _) (ownFrom_below (Nat.le_refl _) (by simp; omega)))
    ⟨⟨rfl, cell_alloc_l _ c0.1, frozen_alloc_l _ c0.1 c0.2⟩, hB0⟩
    (fun x => { tmps := #[.int .i64 m, undef, .pointer (some ⟨w.heap.size, 0, none⟩), .int .i64 (x : Int), .int .i64 m, .func (.func 201) #[] #[.pointer (some ⟨w.heap.size + 1, 0, none⟩)], .int .i64 (x : Int), undef], defers := [] }) ?assign ?body ?done ?stop
  case assign =>
    intro l x W K hK
    gi_wp2
    exact hK
  case body =>
    rintro l pre x W ⟨⟨rfl, hcr, hfr⟩, hB⟩ _
    gi_wp2
    exact ⟨KeepsOthers.setCell _ _ _, ⟨rfl, x, rfl, World.cell?_setCell_same' _ _ _ (by rw [hcr]; rfl)⟩, hB.setCell (p := ⟨w.heap.size, 0, none⟩) (Nat.le_refl _) _⟩
  case done =>
    rintro D ys W hD hys ⟨⟨hp, hcr, hfr⟩, hB⟩ hK
    gi_wp2
    have hK' := (KeepsOthers.setCell W ⟨w.heap.size, 0, none⟩ (.int .i64 (-1))).same D _ hK rfl
    have hl : lowestX m = -1 := lowest_none (by rw [← hys, hp])
    refine ⟨by simp, .inl ⟨_, _, rfl, run_takeDeferred hK', ?_⟩⟩
    have hc5 := cell_kept (World.cell?_setCell_same' W ⟨w.heap.size, 0, none⟩ (.int .i64 (-1)) (by rw [hcr]; rfl)) (grownBy_putObj' _ D (.deferred none)) (fun r e => by cases e; exact ⟨_, hK', rfl⟩)
    refine ⟨.int .i64 (-1), ?_, by rw [hl], (hB.setCell (p := ⟨w.heap.size, 0, none⟩) (Nat.le_refl _) _).trans (belowK_b (w := w) (Nat.le_refl _) _ D _ _ (by simp at hD; omega) hK' rfl rfl)⟩
    simp [results, Tryz.f144, go_sem, hc5]
  case stop =>
    rintro D c pre W hD ⟨k, hk, hpk⟩ ⟨⟨rfl, x, hx, hc⟩, hB⟩ hK
    gi_wp2
    refine ⟨by simp, .inl ⟨_, _, rfl, run_takeDeferred hK, ?_⟩⟩
    have hc5 := cell_kept hc (grownBy_putObj' _ D (.deferred none)) (fun r e => by cases e; exact ⟨_, hK, rfl⟩)
    have hl : lowestX m = (x : Int) := lowest_some hk (by rw [← hpk, hx])
    refine ⟨.int .i64 (x : Int), ?_, by rw [hl], hB.trans (belowK_b (w := w) (Nat.le_refl _) W D _ _ (by simp at hD; omega) hK rfl rfl)⟩
    simp [results, Tryz.f144, go_sem, hc5]

theorem lowest_calls (m : Int) (w : World) : Calls Tryz.prog 144 #[.int .i64 m] w fun e W' => e = .returned (.int .i64 (lowestX m)) ∧ Below w.heap.size w W' :=
  callsIn_wide.1 (lowest_in Fence.wide 3 trivial trivial trivial rfl (by omega) m w)

theorem k_thr_lowest (N : Nat) : SpecOk Tryz.prog 144 (s_thr_lowest N) := hand1_ok (f := lowestX) (a_144.enter rfl) (dI_ok .i64) false fun m Φ w us hΦ hr => by
  obtain ⟨u, us, rfl, h0, hr⟩ := hr.split
  obtain rfl := hr.nil_inv
  cases h0
  refine (lowest_calls m w).mono fun e w' ⟨he, hB⟩ => ⟨_, Φ, he, ⟨hB.os, hB.tape, hB.output, hB.size, fun k hk _ => hB.block k hk⟩, fun _ _ h => h, fun _ _ h => .inl h, .i _ _⟩

end Go.Hz
