/- The plain law of PortPairs: each port, both ways about, with a value that is left open. -/
import Derived.Test.YthdmhibmokhpgaaGreatP14Pureb
import Derived.Test.YthdmhibmokhpgaaGreatAERow
import Derived.OpenShut
set_option linter.unusedVariables false
set_option linter.unusedSimpArgs false
namespace Go.Hz
open Go Go.AE
set_option maxRecDepth 100000

theorem shown14 : law14_shown 1000000 = some true := by kernel_rfl

theorem pairs_port {v : Int} {b : Bool} (h1 : decide (v < -1099511627776) = false) (h2 : decide (v > 1099511627776) = false) (p : Int) (hp : p = 0 ∨ p = 1 ∨ p = 2 ∨ p = 3 ∨ p = 4 ∨ p = 5 ∨ p = 6 ∨ p = 7) (q : Int) (hq : Int.tmod (w64 q) 8 = p) :
    law14_PortPairs 1000000 q v b = some true := by
  unfold law14_PortPairs
  rw [shown14, Option.bind_some, h1, h2, cond_false, cond_false, hq]
  refine Eq.trans (b := bif v == v then some true else some false) ?_ ?_
  · rcases hp with rfl | rfl | rfl | rfl | rfl | rfl | rfl | rfl <;> cases b <;> kernel_rfl
  · simp

def small8 (n : Nat) : Bool := match n with
  | 0 => true
  | n + 1 => small8 n && decide (0 ≤ Int.tmod (w64 n) 8 ∧ Int.tmod (w64 n) 8 < 8)

theorem small8_ok : ∀ m, small8 m = true → ∀ n, n < m → 0 ≤ Int.tmod (w64 n) 8 ∧ Int.tmod (w64 n) 8 < 8
  | 0, _, n, h => absurd h (Nat.not_lt_zero _)
  | m + 1, hm, n, h => by
    simp only [small8, Bool.and_eq_true, decide_eq_true_eq] at hm
    rcases Nat.lt_succ_iff_lt_or_eq.1 h with h | rfl
    · exact small8_ok m hm.1 n h
    · exact hm.2

theorem pairs_true (p v : Int) (b : Bool) (wp : (Lit.int .u8 p).wf = true) : law14_PortPairs 1000000 p v b = some true := by
  cases h1 : decide (v < -1099511627776) with
  | true =>
    unfold law14_PortPairs
    rw [shown14, Option.bind_some, h1, cond_true]
  | false =>
    cases h2 : decide (v > 1099511627776) with
    | true =>
      unfold law14_PortPairs
      rw [shown14, Option.bind_some, h1, h2, cond_false, cond_true]
    | false =>
      obtain ⟨h3, h4⟩ := bounds_u8 wp
      obtain ⟨n, rfl⟩ := Int.eq_ofNat_of_zero_le h3
      have := small8_ok 256 (by kernel_rfl) n (by omega)
      exact pairs_port h1 h2 _ (by omega) _ rfl

end Go.Hz
