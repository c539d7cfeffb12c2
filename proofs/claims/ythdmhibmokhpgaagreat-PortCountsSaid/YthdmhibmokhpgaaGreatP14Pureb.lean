/- The functions that are asked, as plain Lean functions. Printed by g2.py. -/
import Derived.Test.YthdmhibmokhpgaaGreatP14Purea
set_option linter.unusedVariables false
set_option linter.unusedSimpArgs false
set_option maxRecDepth 100000
namespace Go.Hz
open Go.AE

/- hazel/table.Step -/
def table_Step_Ltable_work_put_1_st (N : Nat) (nx : ((List Int) × (List Int) × Bool × (List CoreD) × (List EvD) × Bool × Int × Int × Int × Int × Int × Int × Int × Int × Int × Int × (List Int) × (List Int) × (List Int) × Bool × (List CoreD) × (List EvD) × Int × Int × Int × Int × Int × Int × Int × Int × Int × Int × Int × (List Int) × Bool × (List FrameD) × Int × Int × Int × Int × Int × (List Int)) → Option (((List Int) × (List Int) × Bool × (List CoreD) × (List EvD) × Bool × Int × Int × Int × Int × Int × Int × Int × Int × Int × Int × (List Int) × (List Int) × (List Int) × Bool × (List CoreD) × (List EvD) × Int × Int × Int × Int × Int × Int × Int × Int × Int × Int × Int × (List Int) × Bool × (List FrameD) × Int × Int × Int × Int × Int × (List Int)) ⊕ ((List Int) × (List Int) × Bool × (List CoreD) × (List EvD) × Bool × Int × Int × Int × Int × Int × Int × Int × Int × Int × Int × (List Int) × (List Int) × (List Int) × Bool × (List CoreD) × (List EvD) × Int × Int × Int × Int × Int × Int × Int × Int × Int × Int × Int × (List Int) × Bool × (List FrameD) × Int × Int × Int × Int × Int × (List Int) × (List Int) × (List Int) × Bool))) (x : (List Int) × (List Int) × Bool × (List CoreD) × (List EvD) × Bool × Int × Int × Int × Int × Int × Int × Int × Int × Int × Int × (List Int) × (List Int) × (List Int) × Bool × (List CoreD) × (List EvD) × Int × Int × Int × Int × Int × Int × Int × Int × Int × Int × Int × (List Int) × Bool × (List FrameD) × Int × Int × Int × Int × Int × (List Int)) : Option (((List Int) × (List Int) × Bool × (List CoreD) × (List EvD) × Bool × Int × Int × Int × Int × Int × Int × Int × Int × Int × Int × (List Int) × (List Int) × (List Int) × Bool × (List CoreD) × (List EvD) × Int × Int × Int × Int × Int × Int × Int × Int × Int × Int × Int × (List Int) × Bool × (List FrameD) × Int × Int × Int × Int × Int × (List Int)) ⊕ ((List Int) × (List Int) × Bool × (List CoreD) × (List EvD) × Bool × Int × Int × Int × Int × Int × Int × Int × Int × Int × Int × (List Int) × (List Int) × (List Int) × Bool × (List CoreD) × (List EvD) × Int × Int × Int × Int × Int × Int × Int × Int × Int × Int × Int × (List Int) × Bool × (List FrameD) × Int × Int × Int × Int × Int × (List Int) × (List Int) × (List Int) × Bool)) :=
  bif decide (x.2.2.2.2.2.2.2.2.2.2.2.2.2.2.2.2.2.2.2.2.2.2.2.2.2.2.2.1 ≥ (1 : Int)) then
    bif decide (x.2.2.2.2.2.2.2.2.2.2.2.2.2.2.2.2.2.2.2.2.2.2.2.2.2.2.2.1 ≤ (8 : Int)) then
      bif decide (x.2.2.2.2.2.2.2.2.2.2.2.2.2.2.2.2.2.2.2.2.2.2.2.2.2.2.2.2.2.1 < (w64 ((2 : Int) * x.2.2.2.2.2.2.2.2.2.2.2.2.2.2.2.2.2.2.2.2.2.2.2.2.2.2.2.1))) then
        some (.inl (x.1, x.2.1, x.2.2.1, x.2.2.2.1, x.2.2.2.2.1, x.2.2.2.2.2.1, x.2.2.2.2.2.2.1, x.2.2.2.2.2.2.2.1, x.2.2.2.2.2.2.2.2.1, x.2.2.2.2.2.2.2.2.2.1, x.2.2.2.2.2.2.2.2.2.2.1, x.2.2.2.2.2.2.2.2.2.2.2.1, x.2.2.2.2.2.2.2.2.2.2.2.2.1, x.2.2.2.2.2.2.2.2.2.2.2.2.2.1, x.2.2.2.2.2.2.2.2.2.2.2.2.2.2.1, x.2.2.2.2.2.2.2.2.2.2.2.2.2.2.2.1, x.2.2.2.2.2.2.2.2.2.2.2.2.2.2.2.2.1, x.2.2.2.2.2.2.2.2.2.2.2.2.2.2.2.2.2.1, x.2.2.2.2.2.2.2.2.2.2.2.2.2.2.2.2.2.2.1, x.2.2.2.2.2.2.2.2.2.2.2.2.2.2.2.2.2.2.2.1, x.2.2.2.2.2.2.2.2.2.2.2.2.2.2.2.2.2.2.2.2.1, x.2.2.2.2.2.2.2.2.2.2.2.2.2.2.2.2.2.2.2.2.2.1, x.2.2.2.2.2.2.2.2.2.2.2.2.2.2.2.2.2.2.2.2.2.2.1, x.2.2.2.2.2.2.2.2.2.2.2.2.2.2.2.2.2.2.2.2.2.2.2.1, x.2.2.2.2.2.2.2.2.2.2.2.2.2.2.2.2.2.2.2.2.2.2.2.2.1, x.2.2.2.2.2.2.2.2.2.2.2.2.2.2.2.2.2.2.2.2.2.2.2.2.2.1, x.2.2.2.2.2.2.2.2.2.2.2.2.2.2.2.2.2.2.2.2.2.2.2.2.2.2.1, x.2.2.2.2.2.2.2.2.2.2.2.2.2.2.2.2.2.2.2.2.2.2.2.2.2.2.2.1, x.2.2.2.2.2.2.2.2.2.2.2.2.2.2.2.2.2.2.2.2.2.2.2.2.2.2.2.2.1, x.2.2.2.2.2.2.2.2.2.2.2.2.2.2.2.2.2.2.2.2.2.2.2.2.2.2.2.2.2.1, x.2.2.2.2.2.2.2.2.2.2.2.2.2.2.2.2.2.2.2.2.2.2.2.2.2.2.2.2.2.2.1, x.2.2.2.2.2.2.2.2.2.2.2.2.2.2.2.2.2.2.2.2.2.2.2.2.2.2.2.2.2.2.2.1, x.2.2.2.2.2.2.2.2.2.2.2.2.2.2.2.2.2.2.2.2.2.2.2.2.2.2.2.2.2.2.2.2.1, x.2.2.2.2.2.2.2.2.2.2.2.2.2.2.2.2.2.2.2.2.2.2.2.2.2.2.2.2.2.2.2.2.2.1, x.2.2.2.2.2.2.2.2.2.2.2.2.2.2.2.2.2.2.2.2.2.2.2.2.2.2.2.2.2.2.2.2.2.2.1, x.2.2.2.2.2.2.2.2.2.2.2.2.2.2.2.2.2.2.2.2.2.2.2.2.2.2.2.2.2.2.2.2.2.2.2.1, x.2.2.2.2.2.2.2.2.2.2.2.2.2.2.2.2.2.2.2.2.2.2.2.2.2.2.2.2.2.2.2.2.2.2.2.2.1, x.2.2.2.2.2.2.2.2.2.2.2.2.2.2.2.2.2.2.2.2.2.2.2.2.2.2.2.2.2.2.2.2.2.2.2.2.2.1, x.2.2.2.2.2.2.2.2.2.2.2.2.2.2.2.2.2.2.2.2.2.2.2.2.2.2.2.2.2.2.2.2.2.2.2.2.2.2.1, x.2.2.2.2.2.2.2.2.2.2.2.2.2.2.2.2.2.2.2.2.2.2.2.2.2.2.2.2.2.2.2.2.2.2.2.2.2.2.2.1, x.2.2.2.2.2.2.2.2.2.2.2.2.2.2.2.2.2.2.2.2.2.2.2.2.2.2.2.2.2.2.2.2.2.2.2.2.2.2.2.2.1, x.2.2.2.2.2.2.2.2.2.2.2.2.2.2.2.2.2.2.2.2.2.2.2.2.2.2.2.2.2.2.2.2.2.2.2.2.2.2.2.2.2))
      else
        (mem_Cas N (⟨x.2.2.2.2.2.2.2.2.2.2.2.2.2.2.2.2.2.1, x.2.2.2.2.2.2.2.2.2.2.2.2.2.2.2.2.2.2.1, x.2.2.2.2.2.2.2.2.2.2.2.2.2.2.2.2.2.2.2.1⟩) 48 x.2.2.2.2.2.2.2.2.2.2.2.2.2.2.2.2.2.2.2.2.2.2.2.2.2.2.2.1 (w64 ((2 : Int) * x.2.2.2.2.2.2.2.2.2.2.2.2.2.2.2.2.2.2.2.2.2.2.2.2.2.2.2.1))).bind fun z1 =>
        some (.inr (x.1, x.2.1, x.2.2.1, x.2.2.2.1, x.2.2.2.2.1, x.2.2.2.2.2.1, x.2.2.2.2.2.2.1, x.2.2.2.2.2.2.2.1, x.2.2.2.2.2.2.2.2.1, x.2.2.2.2.2.2.2.2.2.1, x.2.2.2.2.2.2.2.2.2.2.1, x.2.2.2.2.2.2.2.2.2.2.2.1, x.2.2.2.2.2.2.2.2.2.2.2.2.1, x.2.2.2.2.2.2.2.2.2.2.2.2.2.1, x.2.2.2.2.2.2.2.2.2.2.2.2.2.2.1, x.2.2.2.2.2.2.2.2.2.2.2.2.2.2.2.1, x.2.2.2.2.2.2.2.2.2.2.2.2.2.2.2.2.1, z1.1.W, z1.1.G, z1.1.bad, x.2.2.2.2.2.2.2.2.2.2.2.2.2.2.2.2.2.2.2.2.1, x.2.2.2.2.2.2.2.2.2.2.2.2.2.2.2.2.2.2.2.2.2.1, x.2.2.2.2.2.2.2.2.2.2.2.2.2.2.2.2.2.2.2.2.2.2.1, x.2.2.2.2.2.2.2.2.2.2.2.2.2.2.2.2.2.2.2.2.2.2.2.1, x.2.2.2.2.2.2.2.2.2.2.2.2.2.2.2.2.2.2.2.2.2.2.2.2.1, x.2.2.2.2.2.2.2.2.2.2.2.2.2.2.2.2.2.2.2.2.2.2.2.2.2.1, x.2.2.2.2.2.2.2.2.2.2.2.2.2.2.2.2.2.2.2.2.2.2.2.2.2.2.1, x.2.2.2.2.2.2.2.2.2.2.2.2.2.2.2.2.2.2.2.2.2.2.2.2.2.2.2.1, x.2.2.2.2.2.2.2.2.2.2.2.2.2.2.2.2.2.2.2.2.2.2.2.2.2.2.2.2.1, x.2.2.2.2.2.2.2.2.2.2.2.2.2.2.2.2.2.2.2.2.2.2.2.2.2.2.2.2.2.1, x.2.2.2.2.2.2.2.2.2.2.2.2.2.2.2.2.2.2.2.2.2.2.2.2.2.2.2.2.2.2.1, x.2.2.2.2.2.2.2.2.2.2.2.2.2.2.2.2.2.2.2.2.2.2.2.2.2.2.2.2.2.2.2.1, x.2.2.2.2.2.2.2.2.2.2.2.2.2.2.2.2.2.2.2.2.2.2.2.2.2.2.2.2.2.2.2.2.1, x.2.2.2.2.2.2.2.2.2.2.2.2.2.2.2.2.2.2.2.2.2.2.2.2.2.2.2.2.2.2.2.2.2.1, x.2.2.2.2.2.2.2.2.2.2.2.2.2.2.2.2.2.2.2.2.2.2.2.2.2.2.2.2.2.2.2.2.2.2.1, x.2.2.2.2.2.2.2.2.2.2.2.2.2.2.2.2.2.2.2.2.2.2.2.2.2.2.2.2.2.2.2.2.2.2.2.1, x.2.2.2.2.2.2.2.2.2.2.2.2.2.2.2.2.2.2.2.2.2.2.2.2.2.2.2.2.2.2.2.2.2.2.2.2.1, x.2.2.2.2.2.2.2.2.2.2.2.2.2.2.2.2.2.2.2.2.2.2.2.2.2.2.2.2.2.2.2.2.2.2.2.2.2.1, x.2.2.2.2.2.2.2.2.2.2.2.2.2.2.2.2.2.2.2.2.2.2.2.2.2.2.2.2.2.2.2.2.2.2.2.2.2.2.1, x.2.2.2.2.2.2.2.2.2.2.2.2.2.2.2.2.2.2.2.2.2.2.2.2.2.2.2.2.2.2.2.2.2.2.2.2.2.2.2.1, x.2.2.2.2.2.2.2.2.2.2.2.2.2.2.2.2.2.2.2.2.2.2.2.2.2.2.2.2.2.2.2.2.2.2.2.2.2.2.2.2.1, x.2.2.2.2.2.2.2.2.2.2.2.2.2.2.2.2.2.2.2.2.2.2.2.2.2.2.2.2.2.2.2.2.2.2.2.2.2.2.2.2.2, z1.1.W, z1.1.G, z1.1.bad))
    else
      some (.inl (x.1, x.2.1, x.2.2.1, x.2.2.2.1, x.2.2.2.2.1, x.2.2.2.2.2.1, x.2.2.2.2.2.2.1, x.2.2.2.2.2.2.2.1, x.2.2.2.2.2.2.2.2.1, x.2.2.2.2.2.2.2.2.2.1, x.2.2.2.2.2.2.2.2.2.2.1, x.2.2.2.2.2.2.2.2.2.2.2.1, x.2.2.2.2.2.2.2.2.2.2.2.2.1, x.2.2.2.2.2.2.2.2.2.2.2.2.2.1, x.2.2.2.2.2.2.2.2.2.2.2.2.2.2.1, x.2.2.2.2.2.2.2.2.2.2.2.2.2.2.2.1, x.2.2.2.2.2.2.2.2.2.2.2.2.2.2.2.2.1, x.2.2.2.2.2.2.2.2.2.2.2.2.2.2.2.2.2.1, x.2.2.2.2.2.2.2.2.2.2.2.2.2.2.2.2.2.2.1, x.2.2.2.2.2.2.2.2.2.2.2.2.2.2.2.2.2.2.2.1, x.2.2.2.2.2.2.2.2.2.2.2.2.2.2.2.2.2.2.2.2.1, x.2.2.2.2.2.2.2.2.2.2.2.2.2.2.2.2.2.2.2.2.2.1, x.2.2.2.2.2.2.2.2.2.2.2.2.2.2.2.2.2.2.2.2.2.2.1, x.2.2.2.2.2.2.2.2.2.2.2.2.2.2.2.2.2.2.2.2.2.2.2.1, x.2.2.2.2.2.2.2.2.2.2.2.2.2.2.2.2.2.2.2.2.2.2.2.2.1, x.2.2.2.2.2.2.2.2.2.2.2.2.2.2.2.2.2.2.2.2.2.2.2.2.2.1, x.2.2.2.2.2.2.2.2.2.2.2.2.2.2.2.2.2.2.2.2.2.2.2.2.2.2.1, x.2.2.2.2.2.2.2.2.2.2.2.2.2.2.2.2.2.2.2.2.2.2.2.2.2.2.2.1, x.2.2.2.2.2.2.2.2.2.2.2.2.2.2.2.2.2.2.2.2.2.2.2.2.2.2.2.2.1, x.2.2.2.2.2.2.2.2.2.2.2.2.2.2.2.2.2.2.2.2.2.2.2.2.2.2.2.2.2.1, x.2.2.2.2.2.2.2.2.2.2.2.2.2.2.2.2.2.2.2.2.2.2.2.2.2.2.2.2.2.2.1, x.2.2.2.2.2.2.2.2.2.2.2.2.2.2.2.2.2.2.2.2.2.2.2.2.2.2.2.2.2.2.2.1, x.2.2.2.2.2.2.2.2.2.2.2.2.2.2.2.2.2.2.2.2.2.2.2.2.2.2.2.2.2.2.2.2.1, x.2.2.2.2.2.2.2.2.2.2.2.2.2.2.2.2.2.2.2.2.2.2.2.2.2.2.2.2.2.2.2.2.2.1, x.2.2.2.2.2.2.2.2.2.2.2.2.2.2.2.2.2.2.2.2.2.2.2.2.2.2.2.2.2.2.2.2.2.2.1, x.2.2.2.2.2.2.2.2.2.2.2.2.2.2.2.2.2.2.2.2.2.2.2.2.2.2.2.2.2.2.2.2.2.2.2.1, x.2.2.2.2.2.2.2.2.2.2.2.2.2.2.2.2.2.2.2.2.2.2.2.2.2.2.2.2.2.2.2.2.2.2.2.2.1, x.2.2.2.2.2.2.2.2.2.2.2.2.2.2.2.2.2.2.2.2.2.2.2.2.2.2.2.2.2.2.2.2.2.2.2.2.2.1, x.2.2.2.2.2.2.2.2.2.2.2.2.2.2.2.2.2.2.2.2.2.2.2.2.2.2.2.2.2.2.2.2.2.2.2.2.2.2.1, x.2.2.2.2.2.2.2.2.2.2.2.2.2.2.2.2.2.2.2.2.2.2.2.2.2.2.2.2.2.2.2.2.2.2.2.2.2.2.2.1, x.2.2.2.2.2.2.2.2.2.2.2.2.2.2.2.2.2.2.2.2.2.2.2.2.2.2.2.2.2.2.2.2.2.2.2.2.2.2.2.2.1, x.2.2.2.2.2.2.2.2.2.2.2.2.2.2.2.2.2.2.2.2.2.2.2.2.2.2.2.2.2.2.2.2.2.2.2.2.2.2.2.2.2))
  else
    some (.inl (x.1, x.2.1, x.2.2.1, x.2.2.2.1, x.2.2.2.2.1, x.2.2.2.2.2.1, x.2.2.2.2.2.2.1, x.2.2.2.2.2.2.2.1, x.2.2.2.2.2.2.2.2.1, x.2.2.2.2.2.2.2.2.2.1, x.2.2.2.2.2.2.2.2.2.2.1, x.2.2.2.2.2.2.2.2.2.2.2.1, x.2.2.2.2.2.2.2.2.2.2.2.2.1, x.2.2.2.2.2.2.2.2.2.2.2.2.2.1, x.2.2.2.2.2.2.2.2.2.2.2.2.2.2.1, x.2.2.2.2.2.2.2.2.2.2.2.2.2.2.2.1, x.2.2.2.2.2.2.2.2.2.2.2.2.2.2.2.2.1, x.2.2.2.2.2.2.2.2.2.2.2.2.2.2.2.2.2.1, x.2.2.2.2.2.2.2.2.2.2.2.2.2.2.2.2.2.2.1, x.2.2.2.2.2.2.2.2.2.2.2.2.2.2.2.2.2.2.2.1, x.2.2.2.2.2.2.2.2.2.2.2.2.2.2.2.2.2.2.2.2.1, x.2.2.2.2.2.2.2.2.2.2.2.2.2.2.2.2.2.2.2.2.2.1, x.2.2.2.2.2.2.2.2.2.2.2.2.2.2.2.2.2.2.2.2.2.2.1, x.2.2.2.2.2.2.2.2.2.2.2.2.2.2.2.2.2.2.2.2.2.2.2.1, x.2.2.2.2.2.2.2.2.2.2.2.2.2.2.2.2.2.2.2.2.2.2.2.2.1, x.2.2.2.2.2.2.2.2.2.2.2.2.2.2.2.2.2.2.2.2.2.2.2.2.2.1, x.2.2.2.2.2.2.2.2.2.2.2.2.2.2.2.2.2.2.2.2.2.2.2.2.2.2.1, x.2.2.2.2.2.2.2.2.2.2.2.2.2.2.2.2.2.2.2.2.2.2.2.2.2.2.2.1, x.2.2.2.2.2.2.2.2.2.2.2.2.2.2.2.2.2.2.2.2.2.2.2.2.2.2.2.2.1, x.2.2.2.2.2.2.2.2.2.2.2.2.2.2.2.2.2.2.2.2.2.2.2.2.2.2.2.2.2.1, x.2.2.2.2.2.2.2.2.2.2.2.2.2.2.2.2.2.2.2.2.2.2.2.2.2.2.2.2.2.2.1, x.2.2.2.2.2.2.2.2.2.2.2.2.2.2.2.2.2.2.2.2.2.2.2.2.2.2.2.2.2.2.2.1, x.2.2.2.2.2.2.2.2.2.2.2.2.2.2.2.2.2.2.2.2.2.2.2.2.2.2.2.2.2.2.2.2.1, x.2.2.2.2.2.2.2.2.2.2.2.2.2.2.2.2.2.2.2.2.2.2.2.2.2.2.2.2.2.2.2.2.2.1, x.2.2.2.2.2.2.2.2.2.2.2.2.2.2.2.2.2.2.2.2.2.2.2.2.2.2.2.2.2.2.2.2.2.2.1, x.2.2.2.2.2.2.2.2.2.2.2.2.2.2.2.2.2.2.2.2.2.2.2.2.2.2.2.2.2.2.2.2.2.2.2.1, x.2.2.2.2.2.2.2.2.2.2.2.2.2.2.2.2.2.2.2.2.2.2.2.2.2.2.2.2.2.2.2.2.2.2.2.2.1, x.2.2.2.2.2.2.2.2.2.2.2.2.2.2.2.2.2.2.2.2.2.2.2.2.2.2.2.2.2.2.2.2.2.2.2.2.2.1, x.2.2.2.2.2.2.2.2.2.2.2.2.2.2.2.2.2.2.2.2.2.2.2.2.2.2.2.2.2.2.2.2.2.2.2.2.2.2.1, x.2.2.2.2.2.2.2.2.2.2.2.2.2.2.2.2.2.2.2.2.2.2.2.2.2.2.2.2.2.2.2.2.2.2.2.2.2.2.2.1, x.2.2.2.2.2.2.2.2.2.2.2.2.2.2.2.2.2.2.2.2.2.2.2.2.2.2.2.2.2.2.2.2.2.2.2.2.2.2.2.2.1, x.2.2.2.2.2.2.2.2.2.2.2.2.2.2.2.2.2.2.2.2.2.2.2.2.2.2.2.2.2.2.2.2.2.2.2.2.2.2.2.2.2))
def table_Step_Ltable_work_put_1 (N : Nat) (x : (List Int) × (List Int) × Bool × (List CoreD) × (List EvD) × Bool × Int × Int × Int × Int × Int × Int × Int × Int × Int × Int × (List Int) × (List Int) × (List Int) × Bool × (List CoreD) × (List EvD) × Int × Int × Int × Int × Int × Int × Int × Int × Int × Int × Int × (List Int) × Bool × (List FrameD) × Int × Int × Int × Int × Int × (List Int)) : Option (((List Int) × (List Int) × Bool × (List CoreD) × (List EvD) × Bool × Int × Int × Int × Int × Int × Int × Int × Int × Int × Int × (List Int) × (List Int) × (List Int) × Bool × (List CoreD) × (List EvD) × Int × Int × Int × Int × Int × Int × Int × Int × Int × Int × Int × (List Int) × Bool × (List FrameD) × Int × Int × Int × Int × Int × (List Int)) ⊕ ((List Int) × (List Int) × Bool × (List CoreD) × (List EvD) × Bool × Int × Int × Int × Int × Int × Int × Int × Int × Int × Int × (List Int) × (List Int) × (List Int) × Bool × (List CoreD) × (List EvD) × Int × Int × Int × Int × Int × Int × Int × Int × Int × Int × Int × (List Int) × Bool × (List FrameD) × Int × Int × Int × Int × Int × (List Int) × (List Int) × (List Int) × Bool)) := natIter (table_Step_Ltable_work_put_1_st N) N x

def table_Step (N : Nat) (a0 : SysD) (a1 : Int) : Option (SysD) :=
  (core_Top N a0 a1).bind fun z1 =>
  bif !z1.2 then
    (list_Step N a0 a1).bind fun z2 =>
    some z2
  else
    bif decide (z1.1.op < (15 : Int)) then
      (list_Step N a0 a1).bind fun z3 =>
      some z3
    else
      bif decide (z1.1.op > (18 : Int)) then
        (list_Step N a0 a1).bind fun z4 =>
        some z4
      else
        bif z1.1.op == (15 : Int) then
          bif decide (z1.1.r0 < (0 : Int)) then some a0 else
          bif decide (z1.1.r0 ≥ (16 : Int)) then some a0 else
          bif z1.1.op == (15 : Int) then
            (idx a0.C a1).bind fun y5 =>
            bif z1.1.pc == (0 : Int) then
              (table_Spot N z1.1.r0).bind fun z6 =>
              (mem_Load N a0.M z6).bind fun z7 =>
              bif z7.2 != (0 : Int) then
                (core_Back N ({ a0 with M := z7.1 }) a1 z7.2 0).bind fun z8 =>
                some z8
              else
                bif z1.1.r0 == (0 : Int) then
                  (core_Back N ({ a0 with M := z7.1 }) a1 0 3).bind fun z9 =>
                  some z9
                else
                  (core_Set N ({ a0 with M := z7.1 }) a1 ({ z1.1 with pc := 1, r1 := z7.2 })).bind fun z10 =>
                  some z10
            else
              bif z1.1.pc == (1 : Int) then
                (rev_Parent N z1.1.r0).bind fun z11 =>
                (core_Set N a0 a1 ({ z1.1 with pc := (w64 (z1.1.pc + (1 : Int))) })).bind fun z12 =>
                (core_Call N z12 a1 15 ([z11])).bind fun z13 =>
                some z13
              else
                bif z1.1.pc == (2 : Int) then
                  bif y5.E != (0 : Int) then
                    (core_Back N a0 a1 0 y5.E).bind fun z14 =>
                    some z14
                  else
                    (table_begins N y5.V).bind fun z15 =>
                    (rev_Sent N z1.1.r0).bind fun z16 =>
                    (core_Set N a0 a1 ({ z1.1 with pc := (w64 (z1.1.pc + (1 : Int))), r2 := y5.V })).bind fun z17 =>
                    (core_Call N z17 a1 13 ([z15, z16, 0])).bind fun z18 =>
                    some z18
                else
                  bif z1.1.pc == (3 : Int) then
                    bif y5.E == (2 : Int) then
                      (core_Back N a0 a1 0 y5.E).bind fun z19 =>
                      some z19
                    else
                      (core_Set N a0 a1 ({ z1.1 with pc := 4, r3 := y5.V })).bind fun z20 =>
                      some z20
                  else
                    bif z1.1.pc == (4 : Int) then
                      (table_Spot N z1.1.r0).bind fun z21 =>
                      (mem_Cas N a0.M z21 0 z1.1.r3).bind fun z22 =>
                      (core_Back N ({ a0 with M := z22.1 }) a1 z1.1.r3 0).bind fun z23 =>
                      some z23
                    else
                      some a0
          else
            bif z1.1.op == (16 : Int) then
              (idx a0.C a1).bind fun y24 =>
              bif z1.1.pc == (0 : Int) then
                bif z1.1.pc == (0 : Int) then
                  (idx a0.C a1).bind fun y25 =>
                  bif z1.1.pc == (0 : Int) then
                    (mem_Load N a0.M 48).bind fun z26 =>
                    (core_Set N ({ a0 with M := z26.1 }) a1 ({ z1.1 with pc := 1, r2 := z26.2 })).bind fun z27 =>
                    some z27
                  else
                    bif z1.1.pc == (1 : Int) then
                      (rev_Bucket N z1.1.r0 z1.1.r2).bind fun z28 =>
                      (core_Set N a0 a1 ({ z1.1 with pc := (w64 (z1.1.pc + (1 : Int))) })).bind fun z29 =>
                      (core_Call N z29 a1 15 ([z28])).bind fun z30 =>
                      some z30
                    else
                      bif y25.E != (0 : Int) then
                        (core_Back N a0 a1 0 y25.E).bind fun z31 =>
                        some z31
                      else
                        (table_begins N y25.V).bind fun z32 =>
                        (rev_Ord N z1.1.r0).bind fun z33 =>
                        (core_Set N a0 a1 ({ z1.1 with pc := (w64 (z1.1.pc + (1 : Int))) })).bind fun z34 =>
                        (core_Call N z34 a1 13 ([z32, z33, z1.1.r1])).bind fun z35 =>
                        some z35
                else
                  bif z1.1.pc == (3 : Int) then
                    bif y24.E != (0 : Int) then
                      (core_Back N a0 a1 0 y24.E).bind fun z36 =>
                      some z36
                    else
                      (core_Set N a0 a1 ({ z1.1 with pc := 4 })).bind fun z37 =>
                      some z37
                  else
                    bif z1.1.pc == (4 : Int) then
                      bif z1.1.pc == (4 : Int) then
                        bif z1.1.pc == (4 : Int) then
                          (mem_Load N a0.M 49).bind fun z38 =>
                          (core_Set N ({ a0 with M := z38.1 }) a1 ({ z1.1 with pc := 5, r4 := z38.2 })).bind fun z39 =>
                          some z39
                        else
                          (mem_Cas N a0.M 49 z1.1.r4 (w64 (z1.1.r4 + (1 : Int)))).bind fun z40 =>
                          bif !z40.2 then
                            (core_Set N ({ a0 with M := z40.1 }) a1 ({ z1.1 with pc := 4 })).bind fun z41 =>
                            some z41
                          else
                            (core_Set N ({ a0 with M := z40.1 }) a1 ({ z1.1 with pc := 6 })).bind fun z42 =>
                            some z42
                      else
                        bif z1.1.pc == (6 : Int) then
                          (table_Step_Ltable_work_put_1 N (a0.M.W, a0.M.G, a0.M.bad, a0.C, a0.L, false, z1.1.op, z1.1.pc, z1.1.r0, z1.1.r1, z1.1.r2, z1.1.r3, z1.1.r4, z1.1.r5, z1.1.r6, z1.1.r7, z1.1.S, a0.M.W, a0.M.G, a0.M.bad, a0.C, a0.L, a1, z1.1.op, z1.1.pc, z1.1.r0, z1.1.r1, z1.1.r2, z1.1.r3, z1.1.r4, z1.1.r5, z1.1.r6, z1.1.r7, z1.1.S, false, y24.F, y24.V, y24.E, y24.x0, y24.x1, y24.x2, y24.Ret)).bind fun l43 =>
                          brS l43 (fun l43a =>
                            (core_Back N (⟨⟨l43a.2.2.2.2.2.2.2.2.2.2.2.2.2.2.2.2.2.1, l43a.2.2.2.2.2.2.2.2.2.2.2.2.2.2.2.2.2.2.1, l43a.2.2.2.2.2.2.2.2.2.2.2.2.2.2.2.2.2.2.2.1⟩, l43a.2.2.2.2.2.2.2.2.2.2.2.2.2.2.2.2.2.2.2.2.1, l43a.2.2.2.2.2.2.2.2.2.2.2.2.2.2.2.2.2.2.2.2.2.1⟩) l43a.2.2.2.2.2.2.2.2.2.2.2.2.2.2.2.2.2.2.2.2.2.2.1 0 0).bind fun z44 =>
                            some z44) (fun l43b =>
                            (core_Back N (⟨⟨l43b.2.2.2.2.2.2.2.2.2.2.2.2.2.2.2.2.2.1, l43b.2.2.2.2.2.2.2.2.2.2.2.2.2.2.2.2.2.2.1, l43b.2.2.2.2.2.2.2.2.2.2.2.2.2.2.2.2.2.2.2.1⟩, l43b.2.2.2.2.2.2.2.2.2.2.2.2.2.2.2.2.2.2.2.2.1, l43b.2.2.2.2.2.2.2.2.2.2.2.2.2.2.2.2.2.2.2.2.2.1⟩) l43b.2.2.2.2.2.2.2.2.2.2.2.2.2.2.2.2.2.2.2.2.2.2.1 0 0).bind fun z45 =>
                            some z45)
                        else
                          some a0
                    else
                      bif z1.1.pc == (5 : Int) then
                        bif z1.1.pc == (4 : Int) then
                          (mem_Load N a0.M 49).bind fun z46 =>
                          (core_Set N ({ a0 with M := z46.1 }) a1 ({ z1.1 with pc := 5, r4 := z46.2 })).bind fun z47 =>
                          some z47
                        else
                          (mem_Cas N a0.M 49 z1.1.r4 (w64 (z1.1.r4 + (1 : Int)))).bind fun z48 =>
                          bif !z48.2 then
                            (core_Set N ({ a0 with M := z48.1 }) a1 ({ z1.1 with pc := 4 })).bind fun z49 =>
                            some z49
                          else
                            (core_Set N ({ a0 with M := z48.1 }) a1 ({ z1.1 with pc := 6 })).bind fun z50 =>
                            some z50
                      else
                        bif z1.1.pc == (6 : Int) then
                          (table_Step_Ltable_work_put_1 N (a0.M.W, a0.M.G, a0.M.bad, a0.C, a0.L, false, z1.1.op, z1.1.pc, z1.1.r0, z1.1.r1, z1.1.r2, z1.1.r3, z1.1.r4, z1.1.r5, z1.1.r6, z1.1.r7, z1.1.S, a0.M.W, a0.M.G, a0.M.bad, a0.C, a0.L, a1, z1.1.op, z1.1.pc, z1.1.r0, z1.1.r1, z1.1.r2, z1.1.r3, z1.1.r4, z1.1.r5, z1.1.r6, z1.1.r7, z1.1.S, false, y24.F, y24.V, y24.E, y24.x0, y24.x1, y24.x2, y24.Ret)).bind fun l51 =>
                          brS l51 (fun l51a =>
                            (core_Back N (⟨⟨l51a.2.2.2.2.2.2.2.2.2.2.2.2.2.2.2.2.2.1, l51a.2.2.2.2.2.2.2.2.2.2.2.2.2.2.2.2.2.2.1, l51a.2.2.2.2.2.2.2.2.2.2.2.2.2.2.2.2.2.2.2.1⟩, l51a.2.2.2.2.2.2.2.2.2.2.2.2.2.2.2.2.2.2.2.2.1, l51a.2.2.2.2.2.2.2.2.2.2.2.2.2.2.2.2.2.2.2.2.2.1⟩) l51a.2.2.2.2.2.2.2.2.2.2.2.2.2.2.2.2.2.2.2.2.2.2.1 0 0).bind fun z52 =>
                            some z52) (fun l51b =>
                            (core_Back N (⟨⟨l51b.2.2.2.2.2.2.2.2.2.2.2.2.2.2.2.2.2.1, l51b.2.2.2.2.2.2.2.2.2.2.2.2.2.2.2.2.2.2.1, l51b.2.2.2.2.2.2.2.2.2.2.2.2.2.2.2.2.2.2.2.1⟩, l51b.2.2.2.2.2.2.2.2.2.2.2.2.2.2.2.2.2.2.2.2.1, l51b.2.2.2.2.2.2.2.2.2.2.2.2.2.2.2.2.2.2.2.2.2.1⟩) l51b.2.2.2.2.2.2.2.2.2.2.2.2.2.2.2.2.2.2.2.2.2.2.1 0 0).bind fun z53 =>
                            some z53)
                        else
                          some a0
              else
                bif z1.1.pc == (1 : Int) then
                  bif z1.1.pc == (1 : Int) then
                    (idx a0.C a1).bind fun y54 =>
                    bif z1.1.pc == (0 : Int) then
                      (mem_Load N a0.M 48).bind fun z55 =>
                      (core_Set N ({ a0 with M := z55.1 }) a1 ({ z1.1 with pc := 1, r2 := z55.2 })).bind fun z56 =>
                      some z56
                    else
                      bif z1.1.pc == (1 : Int) then
                        (rev_Bucket N z1.1.r0 z1.1.r2).bind fun z57 =>
                        (core_Set N a0 a1 ({ z1.1 with pc := (w64 (z1.1.pc + (1 : Int))) })).bind fun z58 =>
                        (core_Call N z58 a1 15 ([z57])).bind fun z59 =>
                        some z59
                      else
                        bif y54.E != (0 : Int) then
                          (core_Back N a0 a1 0 y54.E).bind fun z60 =>
                          some z60
                        else
                          (table_begins N y54.V).bind fun z61 =>
                          (rev_Ord N z1.1.r0).bind fun z62 =>
                          (core_Set N a0 a1 ({ z1.1 with pc := (w64 (z1.1.pc + (1 : Int))) })).bind fun z63 =>
                          (core_Call N z63 a1 13 ([z61, z62, z1.1.r1])).bind fun z64 =>
                          some z64
                  else
                    bif z1.1.pc == (3 : Int) then
                      bif y24.E != (0 : Int) then
                        (core_Back N a0 a1 0 y24.E).bind fun z65 =>
                        some z65
                      else
                        (core_Set N a0 a1 ({ z1.1 with pc := 4 })).bind fun z66 =>
                        some z66
                    else
                      bif z1.1.pc == (4 : Int) then
                        bif z1.1.pc == (4 : Int) then
                          bif z1.1.pc == (4 : Int) then
                            (mem_Load N a0.M 49).bind fun z67 =>
                            (core_Set N ({ a0 with M := z67.1 }) a1 ({ z1.1 with pc := 5, r4 := z67.2 })).bind fun z68 =>
                            some z68
                          else
                            (mem_Cas N a0.M 49 z1.1.r4 (w64 (z1.1.r4 + (1 : Int)))).bind fun z69 =>
                            bif !z69.2 then
                              (core_Set N ({ a0 with M := z69.1 }) a1 ({ z1.1 with pc := 4 })).bind fun z70 =>
                              some z70
                            else
                              (core_Set N ({ a0 with M := z69.1 }) a1 ({ z1.1 with pc := 6 })).bind fun z71 =>
                              some z71
                        else
                          bif z1.1.pc == (6 : Int) then
                            (table_Step_Ltable_work_put_1 N (a0.M.W, a0.M.G, a0.M.bad, a0.C, a0.L, false, z1.1.op, z1.1.pc, z1.1.r0, z1.1.r1, z1.1.r2, z1.1.r3, z1.1.r4, z1.1.r5, z1.1.r6, z1.1.r7, z1.1.S, a0.M.W, a0.M.G, a0.M.bad, a0.C, a0.L, a1, z1.1.op, z1.1.pc, z1.1.r0, z1.1.r1, z1.1.r2, z1.1.r3, z1.1.r4, z1.1.r5, z1.1.r6, z1.1.r7, z1.1.S, false, y24.F, y24.V, y24.E, y24.x0, y24.x1, y24.x2, y24.Ret)).bind fun l72 =>
                            brS l72 (fun l72a =>
                              (core_Back N (⟨⟨l72a.2.2.2.2.2.2.2.2.2.2.2.2.2.2.2.2.2.1, l72a.2.2.2.2.2.2.2.2.2.2.2.2.2.2.2.2.2.2.1, l72a.2.2.2.2.2.2.2.2.2.2.2.2.2.2.2.2.2.2.2.1⟩, l72a.2.2.2.2.2.2.2.2.2.2.2.2.2.2.2.2.2.2.2.2.1, l72a.2.2.2.2.2.2.2.2.2.2.2.2.2.2.2.2.2.2.2.2.2.1⟩) l72a.2.2.2.2.2.2.2.2.2.2.2.2.2.2.2.2.2.2.2.2.2.2.1 0 0).bind fun z73 =>
                              some z73) (fun l72b =>
                              (core_Back N (⟨⟨l72b.2.2.2.2.2.2.2.2.2.2.2.2.2.2.2.2.2.1, l72b.2.2.2.2.2.2.2.2.2.2.2.2.2.2.2.2.2.2.1, l72b.2.2.2.2.2.2.2.2.2.2.2.2.2.2.2.2.2.2.2.1⟩, l72b.2.2.2.2.2.2.2.2.2.2.2.2.2.2.2.2.2.2.2.2.1, l72b.2.2.2.2.2.2.2.2.2.2.2.2.2.2.2.2.2.2.2.2.2.1⟩) l72b.2.2.2.2.2.2.2.2.2.2.2.2.2.2.2.2.2.2.2.2.2.2.1 0 0).bind fun z74 =>
                              some z74)
                          else
                            some a0
                      else
                        bif z1.1.pc == (5 : Int) then
                          bif z1.1.pc == (4 : Int) then
                            (mem_Load N a0.M 49).bind fun z75 =>
                            (core_Set N ({ a0 with M := z75.1 }) a1 ({ z1.1 with pc := 5, r4 := z75.2 })).bind fun z76 =>
                            some z76
                          else
                            (mem_Cas N a0.M 49 z1.1.r4 (w64 (z1.1.r4 + (1 : Int)))).bind fun z77 =>
                            bif !z77.2 then
                              (core_Set N ({ a0 with M := z77.1 }) a1 ({ z1.1 with pc := 4 })).bind fun z78 =>
                              some z78
                            else
                              (core_Set N ({ a0 with M := z77.1 }) a1 ({ z1.1 with pc := 6 })).bind fun z79 =>
                              some z79
                        else
                          bif z1.1.pc == (6 : Int) then
                            (table_Step_Ltable_work_put_1 N (a0.M.W, a0.M.G, a0.M.bad, a0.C, a0.L, false, z1.1.op, z1.1.pc, z1.1.r0, z1.1.r1, z1.1.r2, z1.1.r3, z1.1.r4, z1.1.r5, z1.1.r6, z1.1.r7, z1.1.S, a0.M.W, a0.M.G, a0.M.bad, a0.C, a0.L, a1, z1.1.op, z1.1.pc, z1.1.r0, z1.1.r1, z1.1.r2, z1.1.r3, z1.1.r4, z1.1.r5, z1.1.r6, z1.1.r7, z1.1.S, false, y24.F, y24.V, y24.E, y24.x0, y24.x1, y24.x2, y24.Ret)).bind fun l80 =>
                            brS l80 (fun l80a =>
                              (core_Back N (⟨⟨l80a.2.2.2.2.2.2.2.2.2.2.2.2.2.2.2.2.2.1, l80a.2.2.2.2.2.2.2.2.2.2.2.2.2.2.2.2.2.2.1, l80a.2.2.2.2.2.2.2.2.2.2.2.2.2.2.2.2.2.2.2.1⟩, l80a.2.2.2.2.2.2.2.2.2.2.2.2.2.2.2.2.2.2.2.2.1, l80a.2.2.2.2.2.2.2.2.2.2.2.2.2.2.2.2.2.2.2.2.2.1⟩) l80a.2.2.2.2.2.2.2.2.2.2.2.2.2.2.2.2.2.2.2.2.2.2.1 0 0).bind fun z81 =>
                              some z81) (fun l80b =>
                              (core_Back N (⟨⟨l80b.2.2.2.2.2.2.2.2.2.2.2.2.2.2.2.2.2.1, l80b.2.2.2.2.2.2.2.2.2.2.2.2.2.2.2.2.2.2.1, l80b.2.2.2.2.2.2.2.2.2.2.2.2.2.2.2.2.2.2.2.1⟩, l80b.2.2.2.2.2.2.2.2.2.2.2.2.2.2.2.2.2.2.2.2.1, l80b.2.2.2.2.2.2.2.2.2.2.2.2.2.2.2.2.2.2.2.2.2.1⟩) l80b.2.2.2.2.2.2.2.2.2.2.2.2.2.2.2.2.2.2.2.2.2.2.1 0 0).bind fun z82 =>
                              some z82)
                          else
                            some a0
                else
                  bif z1.1.pc == (2 : Int) then
                    (idx a0.C a1).bind fun y83 =>
                    bif z1.1.pc == (0 : Int) then
                      (mem_Load N a0.M 48).bind fun z84 =>
                      (core_Set N ({ a0 with M := z84.1 }) a1 ({ z1.1 with pc := 1, r2 := z84.2 })).bind fun z85 =>
                      some z85
                    else
                      bif z1.1.pc == (1 : Int) then
                        (rev_Bucket N z1.1.r0 z1.1.r2).bind fun z86 =>
                        (core_Set N a0 a1 ({ z1.1 with pc := (w64 (z1.1.pc + (1 : Int))) })).bind fun z87 =>
                        (core_Call N z87 a1 15 ([z86])).bind fun z88 =>
                        some z88
                      else
                        bif y83.E != (0 : Int) then
                          (core_Back N a0 a1 0 y83.E).bind fun z89 =>
                          some z89
                        else
                          (table_begins N y83.V).bind fun z90 =>
                          (rev_Ord N z1.1.r0).bind fun z91 =>
                          (core_Set N a0 a1 ({ z1.1 with pc := (w64 (z1.1.pc + (1 : Int))) })).bind fun z92 =>
                          (core_Call N z92 a1 13 ([z90, z91, z1.1.r1])).bind fun z93 =>
                          some z93
                  else
                    bif z1.1.pc == (3 : Int) then
                      bif y24.E != (0 : Int) then
                        (core_Back N a0 a1 0 y24.E).bind fun z94 =>
                        some z94
                      else
                        (core_Set N a0 a1 ({ z1.1 with pc := 4 })).bind fun z95 =>
                        some z95
                    else
                      bif z1.1.pc == (4 : Int) then
                        bif z1.1.pc == (4 : Int) then
                          bif z1.1.pc == (4 : Int) then
                            (mem_Load N a0.M 49).bind fun z96 =>
                            (core_Set N ({ a0 with M := z96.1 }) a1 ({ z1.1 with pc := 5, r4 := z96.2 })).bind fun z97 =>
                            some z97
                          else
                            (mem_Cas N a0.M 49 z1.1.r4 (w64 (z1.1.r4 + (1 : Int)))).bind fun z98 =>
                            bif !z98.2 then
                              (core_Set N ({ a0 with M := z98.1 }) a1 ({ z1.1 with pc := 4 })).bind fun z99 =>
                              some z99
                            else
                              (core_Set N ({ a0 with M := z98.1 }) a1 ({ z1.1 with pc := 6 })).bind fun z100 =>
                              some z100
                        else
                          bif z1.1.pc == (6 : Int) then
                            (table_Step_Ltable_work_put_1 N (a0.M.W, a0.M.G, a0.M.bad, a0.C, a0.L, false, z1.1.op, z1.1.pc, z1.1.r0, z1.1.r1, z1.1.r2, z1.1.r3, z1.1.r4, z1.1.r5, z1.1.r6, z1.1.r7, z1.1.S, a0.M.W, a0.M.G, a0.M.bad, a0.C, a0.L, a1, z1.1.op, z1.1.pc, z1.1.r0, z1.1.r1, z1.1.r2, z1.1.r3, z1.1.r4, z1.1.r5, z1.1.r6, z1.1.r7, z1.1.S, false, y24.F, y24.V, y24.E, y24.x0, y24.x1, y24.x2, y24.Ret)).bind fun l101 =>
                            brS l101 (fun l101a =>
                              (core_Back N (⟨⟨l101a.2.2.2.2.2.2.2.2.2.2.2.2.2.2.2.2.2.1, l101a.2.2.2.2.2.2.2.2.2.2.2.2.2.2.2.2.2.2.1, l101a.2.2.2.2.2.2.2.2.2.2.2.2.2.2.2.2.2.2.2.1⟩, l101a.2.2.2.2.2.2.2.2.2.2.2.2.2.2.2.2.2.2.2.2.1, l101a.2.2.2.2.2.2.2.2.2.2.2.2.2.2.2.2.2.2.2.2.2.1⟩) l101a.2.2.2.2.2.2.2.2.2.2.2.2.2.2.2.2.2.2.2.2.2.2.1 0 0).bind fun z102 =>
                              some z102) (fun l101b =>
                              (core_Back N (⟨⟨l101b.2.2.2.2.2.2.2.2.2.2.2.2.2.2.2.2.2.1, l101b.2.2.2.2.2.2.2.2.2.2.2.2.2.2.2.2.2.2.1, l101b.2.2.2.2.2.2.2.2.2.2.2.2.2.2.2.2.2.2.2.1⟩, l101b.2.2.2.2.2.2.2.2.2.2.2.2.2.2.2.2.2.2.2.2.1, l101b.2.2.2.2.2.2.2.2.2.2.2.2.2.2.2.2.2.2.2.2.2.1⟩) l101b.2.2.2.2.2.2.2.2.2.2.2.2.2.2.2.2.2.2.2.2.2.2.1 0 0).bind fun z103 =>
                              some z103)
                          else
                            some a0
                      else
                        bif z1.1.pc == (5 : Int) then
                          bif z1.1.pc == (4 : Int) then
                            (mem_Load N a0.M 49).bind fun z104 =>
                            (core_Set N ({ a0 with M := z104.1 }) a1 ({ z1.1 with pc := 5, r4 := z104.2 })).bind fun z105 =>
                            some z105
                          else
                            (mem_Cas N a0.M 49 z1.1.r4 (w64 (z1.1.r4 + (1 : Int)))).bind fun z106 =>
                            bif !z106.2 then
                              (core_Set N ({ a0 with M := z106.1 }) a1 ({ z1.1 with pc := 4 })).bind fun z107 =>
                              some z107
                            else
                              (core_Set N ({ a0 with M := z106.1 }) a1 ({ z1.1 with pc := 6 })).bind fun z108 =>
                              some z108
                        else
                          bif z1.1.pc == (6 : Int) then
                            (table_Step_Ltable_work_put_1 N (a0.M.W, a0.M.G, a0.M.bad, a0.C, a0.L, false, z1.1.op, z1.1.pc, z1.1.r0, z1.1.r1, z1.1.r2, z1.1.r3, z1.1.r4, z1.1.r5, z1.1.r6, z1.1.r7, z1.1.S, a0.M.W, a0.M.G, a0.M.bad, a0.C, a0.L, a1, z1.1.op, z1.1.pc, z1.1.r0, z1.1.r1, z1.1.r2, z1.1.r3, z1.1.r4, z1.1.r5, z1.1.r6, z1.1.r7, z1.1.S, false, y24.F, y24.V, y24.E, y24.x0, y24.x1, y24.x2, y24.Ret)).bind fun l109 =>
                            brS l109 (fun l109a =>
                              (core_Back N (⟨⟨l109a.2.2.2.2.2.2.2.2.2.2.2.2.2.2.2.2.2.1, l109a.2.2.2.2.2.2.2.2.2.2.2.2.2.2.2.2.2.2.1, l109a.2.2.2.2.2.2.2.2.2.2.2.2.2.2.2.2.2.2.2.1⟩, l109a.2.2.2.2.2.2.2.2.2.2.2.2.2.2.2.2.2.2.2.2.1, l109a.2.2.2.2.2.2.2.2.2.2.2.2.2.2.2.2.2.2.2.2.2.1⟩) l109a.2.2.2.2.2.2.2.2.2.2.2.2.2.2.2.2.2.2.2.2.2.2.1 0 0).bind fun z110 =>
                              some z110) (fun l109b =>
                              (core_Back N (⟨⟨l109b.2.2.2.2.2.2.2.2.2.2.2.2.2.2.2.2.2.1, l109b.2.2.2.2.2.2.2.2.2.2.2.2.2.2.2.2.2.2.1, l109b.2.2.2.2.2.2.2.2.2.2.2.2.2.2.2.2.2.2.2.1⟩, l109b.2.2.2.2.2.2.2.2.2.2.2.2.2.2.2.2.2.2.2.2.1, l109b.2.2.2.2.2.2.2.2.2.2.2.2.2.2.2.2.2.2.2.2.2.1⟩) l109b.2.2.2.2.2.2.2.2.2.2.2.2.2.2.2.2.2.2.2.2.2.2.1 0 0).bind fun z111 =>
                              some z111)
                          else
                            some a0
            else
              bif z1.1.op == (17 : Int) then
                (idx a0.C a1).bind fun y112 =>
                bif z1.1.pc == (0 : Int) then
                  bif z1.1.pc == (0 : Int) then
                    (idx a0.C a1).bind fun y113 =>
                    bif z1.1.pc == (0 : Int) then
                      (mem_Load N a0.M 48).bind fun z114 =>
                      (core_Set N ({ a0 with M := z114.1 }) a1 ({ z1.1 with pc := 1, r2 := z114.2 })).bind fun z115 =>
                      some z115
                    else
                      bif z1.1.pc == (1 : Int) then
                        (rev_Bucket N z1.1.r0 z1.1.r2).bind fun z116 =>
                        (core_Set N a0 a1 ({ z1.1 with pc := (w64 (z1.1.pc + (1 : Int))) })).bind fun z117 =>
                        (core_Call N z117 a1 15 ([z116])).bind fun z118 =>
                        some z118
                      else
                        bif y113.E != (0 : Int) then
                          (core_Back N a0 a1 0 y113.E).bind fun z119 =>
                          some z119
                        else
                          (table_begins N y113.V).bind fun z120 =>
                          (rev_Ord N z1.1.r0).bind fun z121 =>
                          (core_Set N a0 a1 ({ z1.1 with pc := (w64 (z1.1.pc + (1 : Int))) })).bind fun z122 =>
                          (core_Call N z122 a1 12 ([z120, z121])).bind fun z123 =>
                          some z123
                  else
                    bif z1.1.pc == (3 : Int) then
                      (core_Back N a0 a1 y112.V y112.E).bind fun z124 =>
                      some z124
                    else
                      some a0
                else
                  bif z1.1.pc == (1 : Int) then
                    bif z1.1.pc == (1 : Int) then
                      (idx a0.C a1).bind fun y125 =>
                      bif z1.1.pc == (0 : Int) then
                        (mem_Load N a0.M 48).bind fun z126 =>
                        (core_Set N ({ a0 with M := z126.1 }) a1 ({ z1.1 with pc := 1, r2 := z126.2 })).bind fun z127 =>
                        some z127
                      else
                        bif z1.1.pc == (1 : Int) then
                          (rev_Bucket N z1.1.r0 z1.1.r2).bind fun z128 =>
                          (core_Set N a0 a1 ({ z1.1 with pc := (w64 (z1.1.pc + (1 : Int))) })).bind fun z129 =>
                          (core_Call N z129 a1 15 ([z128])).bind fun z130 =>
                          some z130
                        else
                          bif y125.E != (0 : Int) then
                            (core_Back N a0 a1 0 y125.E).bind fun z131 =>
                            some z131
                          else
                            (table_begins N y125.V).bind fun z132 =>
                            (rev_Ord N z1.1.r0).bind fun z133 =>
                            (core_Set N a0 a1 ({ z1.1 with pc := (w64 (z1.1.pc + (1 : Int))) })).bind fun z134 =>
                            (core_Call N z134 a1 12 ([z132, z133])).bind fun z135 =>
                            some z135
                    else
                      bif z1.1.pc == (3 : Int) then
                        (core_Back N a0 a1 y112.V y112.E).bind fun z136 =>
                        some z136
                      else
                        some a0
                  else
                    bif z1.1.pc == (2 : Int) then
                      (idx a0.C a1).bind fun y137 =>
                      bif z1.1.pc == (0 : Int) then
                        (mem_Load N a0.M 48).bind fun z138 =>
                        (core_Set N ({ a0 with M := z138.1 }) a1 ({ z1.1 with pc := 1, r2 := z138.2 })).bind fun z139 =>
                        some z139
                      else
                        bif z1.1.pc == (1 : Int) then
                          (rev_Bucket N z1.1.r0 z1.1.r2).bind fun z140 =>
                          (core_Set N a0 a1 ({ z1.1 with pc := (w64 (z1.1.pc + (1 : Int))) })).bind fun z141 =>
                          (core_Call N z141 a1 15 ([z140])).bind fun z142 =>
                          some z142
                        else
                          bif y137.E != (0 : Int) then
                            (core_Back N a0 a1 0 y137.E).bind fun z143 =>
                            some z143
                          else
                            (table_begins N y137.V).bind fun z144 =>
                            (rev_Ord N z1.1.r0).bind fun z145 =>
                            (core_Set N a0 a1 ({ z1.1 with pc := (w64 (z1.1.pc + (1 : Int))) })).bind fun z146 =>
                            (core_Call N z146 a1 12 ([z144, z145])).bind fun z147 =>
                            some z147
                    else
                      bif z1.1.pc == (3 : Int) then
                        (core_Back N a0 a1 y112.V y112.E).bind fun z148 =>
                        some z148
                      else
                        some a0
              else
                (idx a0.C a1).bind fun y149 =>
                bif z1.1.pc == (0 : Int) then
                  bif z1.1.pc == (0 : Int) then
                    (idx a0.C a1).bind fun y150 =>
                    bif z1.1.pc == (0 : Int) then
                      (mem_Load N a0.M 48).bind fun z151 =>
                      (core_Set N ({ a0 with M := z151.1 }) a1 ({ z1.1 with pc := 1, r2 := z151.2 })).bind fun z152 =>
                      some z152
                    else
                      bif z1.1.pc == (1 : Int) then
                        (rev_Bucket N z1.1.r0 z1.1.r2).bind fun z153 =>
                        (core_Set N a0 a1 ({ z1.1 with pc := (w64 (z1.1.pc + (1 : Int))) })).bind fun z154 =>
                        (core_Call N z154 a1 15 ([z153])).bind fun z155 =>
                        some z155
                      else
                        bif y150.E != (0 : Int) then
                          (core_Back N a0 a1 0 y150.E).bind fun z156 =>
                          some z156
                        else
                          (table_begins N y150.V).bind fun z157 =>
                          (rev_Ord N z1.1.r0).bind fun z158 =>
                          (core_Set N a0 a1 ({ z1.1 with pc := (w64 (z1.1.pc + (1 : Int))) })).bind fun z159 =>
                          (core_Call N z159 a1 14 ([z157, z158])).bind fun z160 =>
                          some z160
                  else
                    bif z1.1.pc == (3 : Int) then
                      bif y149.E != (0 : Int) then
                        (core_Back N a0 a1 0 y149.E).bind fun z161 =>
                        some z161
                      else
                        (core_Set N a0 a1 ({ z1.1 with pc := 4, r3 := y149.V })).bind fun z162 =>
                        some z162
                    else
                      bif z1.1.pc == (4 : Int) then
                        bif z1.1.pc == (4 : Int) then
                          bif z1.1.pc == (4 : Int) then
                            (mem_Load N a0.M 49).bind fun z163 =>
                            (core_Set N ({ a0 with M := z163.1 }) a1 ({ z1.1 with pc := 5, r4 := z163.2 })).bind fun z164 =>
                            some z164
                          else
                            (mem_Cas N a0.M 49 z1.1.r4 (w64 (z1.1.r4 + (-1 : Int)))).bind fun z165 =>
                            bif !z165.2 then
                              (core_Set N ({ a0 with M := z165.1 }) a1 ({ z1.1 with pc := 4 })).bind fun z166 =>
                              some z166
                            else
                              (core_Back N ({ a0 with M := z165.1 }) a1 z1.1.r3 0).bind fun z167 =>
                              some z167
                        else
                          some a0
                      else
                        bif z1.1.pc == (5 : Int) then
                          bif z1.1.pc == (4 : Int) then
                            (mem_Load N a0.M 49).bind fun z168 =>
                            (core_Set N ({ a0 with M := z168.1 }) a1 ({ z1.1 with pc := 5, r4 := z168.2 })).bind fun z169 =>
                            some z169
                          else
                            (mem_Cas N a0.M 49 z1.1.r4 (w64 (z1.1.r4 + (-1 : Int)))).bind fun z170 =>
                            bif !z170.2 then
                              (core_Set N ({ a0 with M := z170.1 }) a1 ({ z1.1 with pc := 4 })).bind fun z171 =>
                              some z171
                            else
                              (core_Back N ({ a0 with M := z170.1 }) a1 z1.1.r3 0).bind fun z172 =>
                              some z172
                        else
                          some a0
                else
                  bif z1.1.pc == (1 : Int) then
                    bif z1.1.pc == (1 : Int) then
                      (idx a0.C a1).bind fun y173 =>
                      bif z1.1.pc == (0 : Int) then
                        (mem_Load N a0.M 48).bind fun z174 =>
                        (core_Set N ({ a0 with M := z174.1 }) a1 ({ z1.1 with pc := 1, r2 := z174.2 })).bind fun z175 =>
                        some z175
                      else
                        bif z1.1.pc == (1 : Int) then
                          (rev_Bucket N z1.1.r0 z1.1.r2).bind fun z176 =>
                          (core_Set N a0 a1 ({ z1.1 with pc := (w64 (z1.1.pc + (1 : Int))) })).bind fun z177 =>
                          (core_Call N z177 a1 15 ([z176])).bind fun z178 =>
                          some z178
                        else
                          bif y173.E != (0 : Int) then
                            (core_Back N a0 a1 0 y173.E).bind fun z179 =>
                            some z179
                          else
                            (table_begins N y173.V).bind fun z180 =>
                            (rev_Ord N z1.1.r0).bind fun z181 =>
                            (core_Set N a0 a1 ({ z1.1 with pc := (w64 (z1.1.pc + (1 : Int))) })).bind fun z182 =>
                            (core_Call N z182 a1 14 ([z180, z181])).bind fun z183 =>
                            some z183
                    else
                      bif z1.1.pc == (3 : Int) then
                        bif y149.E != (0 : Int) then
                          (core_Back N a0 a1 0 y149.E).bind fun z184 =>
                          some z184
                        else
                          (core_Set N a0 a1 ({ z1.1 with pc := 4, r3 := y149.V })).bind fun z185 =>
                          some z185
                      else
                        bif z1.1.pc == (4 : Int) then
                          bif z1.1.pc == (4 : Int) then
                            bif z1.1.pc == (4 : Int) then
                              (mem_Load N a0.M 49).bind fun z186 =>
                              (core_Set N ({ a0 with M := z186.1 }) a1 ({ z1.1 with pc := 5, r4 := z186.2 })).bind fun z187 =>
                              some z187
                            else
                              (mem_Cas N a0.M 49 z1.1.r4 (w64 (z1.1.r4 + (-1 : Int)))).bind fun z188 =>
                              bif !z188.2 then
                                (core_Set N ({ a0 with M := z188.1 }) a1 ({ z1.1 with pc := 4 })).bind fun z189 =>
                                some z189
                              else
                                (core_Back N ({ a0 with M := z188.1 }) a1 z1.1.r3 0).bind fun z190 =>
                                some z190
                          else
                            some a0
                        else
                          bif z1.1.pc == (5 : Int) then
                            bif z1.1.pc == (4 : Int) then
                              (mem_Load N a0.M 49).bind fun z191 =>
                              (core_Set N ({ a0 with M := z191.1 }) a1 ({ z1.1 with pc := 5, r4 := z191.2 })).bind fun z192 =>
                              some z192
                            else
                              (mem_Cas N a0.M 49 z1.1.r4 (w64 (z1.1.r4 + (-1 : Int)))).bind fun z193 =>
                              bif !z193.2 then
                                (core_Set N ({ a0 with M := z193.1 }) a1 ({ z1.1 with pc := 4 })).bind fun z194 =>
                                some z194
                              else
                                (core_Back N ({ a0 with M := z193.1 }) a1 z1.1.r3 0).bind fun z195 =>
                                some z195
                          else
                            some a0
                  else
                    bif z1.1.pc == (2 : Int) then
                      (idx a0.C a1).bind fun y196 =>
                      bif z1.1.pc == (0 : Int) then
                        (mem_Load N a0.M 48).bind fun z197 =>
                        (core_Set N ({ a0 with M := z197.1 }) a1 ({ z1.1 with pc := 1, r2 := z197.2 })).bind fun z198 =>
                        some z198
                      else
                        bif z1.1.pc == (1 : Int) then
                          (rev_Bucket N z1.1.r0 z1.1.r2).bind fun z199 =>
                          (core_Set N a0 a1 ({ z1.1 with pc := (w64 (z1.1.pc + (1 : Int))) })).bind fun z200 =>
                          (core_Call N z200 a1 15 ([z199])).bind fun z201 =>
                          some z201
                        else
                          bif y196.E != (0 : Int) then
                            (core_Back N a0 a1 0 y196.E).bind fun z202 =>
                            some z202
                          else
                            (table_begins N y196.V).bind fun z203 =>
                            (rev_Ord N z1.1.r0).bind fun z204 =>
                            (core_Set N a0 a1 ({ z1.1 with pc := (w64 (z1.1.pc + (1 : Int))) })).bind fun z205 =>
                            (core_Call N z205 a1 14 ([z203, z204])).bind fun z206 =>
                            some z206
                    else
                      bif z1.1.pc == (3 : Int) then
                        bif y149.E != (0 : Int) then
                          (core_Back N a0 a1 0 y149.E).bind fun z207 =>
                          some z207
                        else
                          (core_Set N a0 a1 ({ z1.1 with pc := 4, r3 := y149.V })).bind fun z208 =>
                          some z208
                      else
                        bif z1.1.pc == (4 : Int) then
                          bif z1.1.pc == (4 : Int) then
                            bif z1.1.pc == (4 : Int) then
                              (mem_Load N a0.M 49).bind fun z209 =>
                              (core_Set N ({ a0 with M := z209.1 }) a1 ({ z1.1 with pc := 5, r4 := z209.2 })).bind fun z210 =>
                              some z210
                            else
                              (mem_Cas N a0.M 49 z1.1.r4 (w64 (z1.1.r4 + (-1 : Int)))).bind fun z211 =>
                              bif !z211.2 then
                                (core_Set N ({ a0 with M := z211.1 }) a1 ({ z1.1 with pc := 4 })).bind fun z212 =>
                                some z212
                              else
                                (core_Back N ({ a0 with M := z211.1 }) a1 z1.1.r3 0).bind fun z213 =>
                                some z213
                          else
                            some a0
                        else
                          bif z1.1.pc == (5 : Int) then
                            bif z1.1.pc == (4 : Int) then
                              (mem_Load N a0.M 49).bind fun z214 =>
                              (core_Set N ({ a0 with M := z214.1 }) a1 ({ z1.1 with pc := 5, r4 := z214.2 })).bind fun z215 =>
                              some z215
                            else
                              (mem_Cas N a0.M 49 z1.1.r4 (w64 (z1.1.r4 + (-1 : Int)))).bind fun z216 =>
                              bif !z216.2 then
                                (core_Set N ({ a0 with M := z216.1 }) a1 ({ z1.1 with pc := 4 })).bind fun z217 =>
                                some z217
                              else
                                (core_Back N ({ a0 with M := z216.1 }) a1 z1.1.r3 0).bind fun z218 =>
                                some z218
                          else
                            some a0
        else
          bif decide (z1.1.r0 < (0 : Int)) then some a0 else
          bif decide (z1.1.r0 ≥ (65536 : Int)) then some a0 else
          bif z1.1.op == (15 : Int) then
            (idx a0.C a1).bind fun y219 =>
            bif z1.1.pc == (0 : Int) then
              (table_Spot N z1.1.r0).bind fun z220 =>
              (mem_Load N a0.M z220).bind fun z221 =>
              bif z221.2 != (0 : Int) then
                (core_Back N ({ a0 with M := z221.1 }) a1 z221.2 0).bind fun z222 =>
                some z222
              else
                bif z1.1.r0 == (0 : Int) then
                  (core_Back N ({ a0 with M := z221.1 }) a1 0 3).bind fun z223 =>
                  some z223
                else
                  (core_Set N ({ a0 with M := z221.1 }) a1 ({ z1.1 with pc := 1, r1 := z221.2 })).bind fun z224 =>
                  some z224
            else
              bif z1.1.pc == (1 : Int) then
                (rev_Parent N z1.1.r0).bind fun z225 =>
                (core_Set N a0 a1 ({ z1.1 with pc := (w64 (z1.1.pc + (1 : Int))) })).bind fun z226 =>
                (core_Call N z226 a1 15 ([z225])).bind fun z227 =>
                some z227
              else
                bif z1.1.pc == (2 : Int) then
                  bif y219.E != (0 : Int) then
                    (core_Back N a0 a1 0 y219.E).bind fun z228 =>
                    some z228
                  else
                    (table_begins N y219.V).bind fun z229 =>
                    (rev_Sent N z1.1.r0).bind fun z230 =>
                    (core_Set N a0 a1 ({ z1.1 with pc := (w64 (z1.1.pc + (1 : Int))), r2 := y219.V })).bind fun z231 =>
                    (core_Call N z231 a1 13 ([z229, z230, 0])).bind fun z232 =>
                    some z232
                else
                  bif z1.1.pc == (3 : Int) then
                    bif y219.E == (2 : Int) then
                      (core_Back N a0 a1 0 y219.E).bind fun z233 =>
                      some z233
                    else
                      (core_Set N a0 a1 ({ z1.1 with pc := 4, r3 := y219.V })).bind fun z234 =>
                      some z234
                  else
                    bif z1.1.pc == (4 : Int) then
                      (table_Spot N z1.1.r0).bind fun z235 =>
                      (mem_Cas N a0.M z235 0 z1.1.r3).bind fun z236 =>
                      (core_Back N ({ a0 with M := z236.1 }) a1 z1.1.r3 0).bind fun z237 =>
                      some z237
                    else
                      some a0
          else
            bif z1.1.op == (16 : Int) then
              (idx a0.C a1).bind fun y238 =>
              bif z1.1.pc == (0 : Int) then
                bif z1.1.pc == (0 : Int) then
                  (idx a0.C a1).bind fun y239 =>
                  bif z1.1.pc == (0 : Int) then
                    (mem_Load N a0.M 48).bind fun z240 =>
                    (core_Set N ({ a0 with M := z240.1 }) a1 ({ z1.1 with pc := 1, r2 := z240.2 })).bind fun z241 =>
                    some z241
                  else
                    bif z1.1.pc == (1 : Int) then
                      (rev_Bucket N z1.1.r0 z1.1.r2).bind fun z242 =>
                      (core_Set N a0 a1 ({ z1.1 with pc := (w64 (z1.1.pc + (1 : Int))) })).bind fun z243 =>
                      (core_Call N z243 a1 15 ([z242])).bind fun z244 =>
                      some z244
                    else
                      bif y239.E != (0 : Int) then
                        (core_Back N a0 a1 0 y239.E).bind fun z245 =>
                        some z245
                      else
                        (table_begins N y239.V).bind fun z246 =>
                        (rev_Ord N z1.1.r0).bind fun z247 =>
                        (core_Set N a0 a1 ({ z1.1 with pc := (w64 (z1.1.pc + (1 : Int))) })).bind fun z248 =>
                        (core_Call N z248 a1 13 ([z246, z247, z1.1.r1])).bind fun z249 =>
                        some z249
                else
                  bif z1.1.pc == (3 : Int) then
                    bif y238.E != (0 : Int) then
                      (core_Back N a0 a1 0 y238.E).bind fun z250 =>
                      some z250
                    else
                      (core_Set N a0 a1 ({ z1.1 with pc := 4 })).bind fun z251 =>
                      some z251
                  else
                    bif z1.1.pc == (4 : Int) then
                      bif z1.1.pc == (4 : Int) then
                        bif z1.1.pc == (4 : Int) then
                          (mem_Load N a0.M 49).bind fun z252 =>
                          (core_Set N ({ a0 with M := z252.1 }) a1 ({ z1.1 with pc := 5, r4 := z252.2 })).bind fun z253 =>
                          some z253
                        else
                          (mem_Cas N a0.M 49 z1.1.r4 (w64 (z1.1.r4 + (1 : Int)))).bind fun z254 =>
                          bif !z254.2 then
                            (core_Set N ({ a0 with M := z254.1 }) a1 ({ z1.1 with pc := 4 })).bind fun z255 =>
                            some z255
                          else
                            (core_Set N ({ a0 with M := z254.1 }) a1 ({ z1.1 with pc := 6 })).bind fun z256 =>
                            some z256
                      else
                        bif z1.1.pc == (6 : Int) then
                          (table_Step_Ltable_work_put_1 N (a0.M.W, a0.M.G, a0.M.bad, a0.C, a0.L, false, z1.1.op, z1.1.pc, z1.1.r0, z1.1.r1, z1.1.r2, z1.1.r3, z1.1.r4, z1.1.r5, z1.1.r6, z1.1.r7, z1.1.S, a0.M.W, a0.M.G, a0.M.bad, a0.C, a0.L, a1, z1.1.op, z1.1.pc, z1.1.r0, z1.1.r1, z1.1.r2, z1.1.r3, z1.1.r4, z1.1.r5, z1.1.r6, z1.1.r7, z1.1.S, false, y238.F, y238.V, y238.E, y238.x0, y238.x1, y238.x2, y238.Ret)).bind fun l257 =>
                          brS l257 (fun l257a =>
                            (core_Back N (⟨⟨l257a.2.2.2.2.2.2.2.2.2.2.2.2.2.2.2.2.2.1, l257a.2.2.2.2.2.2.2.2.2.2.2.2.2.2.2.2.2.2.1, l257a.2.2.2.2.2.2.2.2.2.2.2.2.2.2.2.2.2.2.2.1⟩, l257a.2.2.2.2.2.2.2.2.2.2.2.2.2.2.2.2.2.2.2.2.1, l257a.2.2.2.2.2.2.2.2.2.2.2.2.2.2.2.2.2.2.2.2.2.1⟩) l257a.2.2.2.2.2.2.2.2.2.2.2.2.2.2.2.2.2.2.2.2.2.2.1 0 0).bind fun z258 =>
                            some z258) (fun l257b =>
                            (core_Back N (⟨⟨l257b.2.2.2.2.2.2.2.2.2.2.2.2.2.2.2.2.2.1, l257b.2.2.2.2.2.2.2.2.2.2.2.2.2.2.2.2.2.2.1, l257b.2.2.2.2.2.2.2.2.2.2.2.2.2.2.2.2.2.2.2.1⟩, l257b.2.2.2.2.2.2.2.2.2.2.2.2.2.2.2.2.2.2.2.2.1, l257b.2.2.2.2.2.2.2.2.2.2.2.2.2.2.2.2.2.2.2.2.2.1⟩) l257b.2.2.2.2.2.2.2.2.2.2.2.2.2.2.2.2.2.2.2.2.2.2.1 0 0).bind fun z259 =>
                            some z259)
                        else
                          some a0
                    else
                      bif z1.1.pc == (5 : Int) then
                        bif z1.1.pc == (4 : Int) then
                          (mem_Load N a0.M 49).bind fun z260 =>
                          (core_Set N ({ a0 with M := z260.1 }) a1 ({ z1.1 with pc := 5, r4 := z260.2 })).bind fun z261 =>
                          some z261
                        else
                          (mem_Cas N a0.M 49 z1.1.r4 (w64 (z1.1.r4 + (1 : Int)))).bind fun z262 =>
                          bif !z262.2 then
                            (core_Set N ({ a0 with M := z262.1 }) a1 ({ z1.1 with pc := 4 })).bind fun z263 =>
                            some z263
                          else
                            (core_Set N ({ a0 with M := z262.1 }) a1 ({ z1.1 with pc := 6 })).bind fun z264 =>
                            some z264
                      else
                        bif z1.1.pc == (6 : Int) then
                          (table_Step_Ltable_work_put_1 N (a0.M.W, a0.M.G, a0.M.bad, a0.C, a0.L, false, z1.1.op, z1.1.pc, z1.1.r0, z1.1.r1, z1.1.r2, z1.1.r3, z1.1.r4, z1.1.r5, z1.1.r6, z1.1.r7, z1.1.S, a0.M.W, a0.M.G, a0.M.bad, a0.C, a0.L, a1, z1.1.op, z1.1.pc, z1.1.r0, z1.1.r1, z1.1.r2, z1.1.r3, z1.1.r4, z1.1.r5, z1.1.r6, z1.1.r7, z1.1.S, false, y238.F, y238.V, y238.E, y238.x0, y238.x1, y238.x2, y238.Ret)).bind fun l265 =>
                          brS l265 (fun l265a =>
                            (core_Back N (⟨⟨l265a.2.2.2.2.2.2.2.2.2.2.2.2.2.2.2.2.2.1, l265a.2.2.2.2.2.2.2.2.2.2.2.2.2.2.2.2.2.2.1, l265a.2.2.2.2.2.2.2.2.2.2.2.2.2.2.2.2.2.2.2.1⟩, l265a.2.2.2.2.2.2.2.2.2.2.2.2.2.2.2.2.2.2.2.2.1, l265a.2.2.2.2.2.2.2.2.2.2.2.2.2.2.2.2.2.2.2.2.2.1⟩) l265a.2.2.2.2.2.2.2.2.2.2.2.2.2.2.2.2.2.2.2.2.2.2.1 0 0).bind fun z266 =>
                            some z266) (fun l265b =>
                            (core_Back N (⟨⟨l265b.2.2.2.2.2.2.2.2.2.2.2.2.2.2.2.2.2.1, l265b.2.2.2.2.2.2.2.2.2.2.2.2.2.2.2.2.2.2.1, l265b.2.2.2.2.2.2.2.2.2.2.2.2.2.2.2.2.2.2.2.1⟩, l265b.2.2.2.2.2.2.2.2.2.2.2.2.2.2.2.2.2.2.2.2.1, l265b.2.2.2.2.2.2.2.2.2.2.2.2.2.2.2.2.2.2.2.2.2.1⟩) l265b.2.2.2.2.2.2.2.2.2.2.2.2.2.2.2.2.2.2.2.2.2.2.1 0 0).bind fun z267 =>
                            some z267)
                        else
                          some a0
              else
                bif z1.1.pc == (1 : Int) then
                  bif z1.1.pc == (1 : Int) then
                    (idx a0.C a1).bind fun y268 =>
                    bif z1.1.pc == (0 : Int) then
                      (mem_Load N a0.M 48).bind fun z269 =>
                      (core_Set N ({ a0 with M := z269.1 }) a1 ({ z1.1 with pc := 1, r2 := z269.2 })).bind fun z270 =>
                      some z270
                    else
                      bif z1.1.pc == (1 : Int) then
                        (rev_Bucket N z1.1.r0 z1.1.r2).bind fun z271 =>
                        (core_Set N a0 a1 ({ z1.1 with pc := (w64 (z1.1.pc + (1 : Int))) })).bind fun z272 =>
                        (core_Call N z272 a1 15 ([z271])).bind fun z273 =>
                        some z273
                      else
                        bif y268.E != (0 : Int) then
                          (core_Back N a0 a1 0 y268.E).bind fun z274 =>
                          some z274
                        else
                          (table_begins N y268.V).bind fun z275 =>
                          (rev_Ord N z1.1.r0).bind fun z276 =>
                          (core_Set N a0 a1 ({ z1.1 with pc := (w64 (z1.1.pc + (1 : Int))) })).bind fun z277 =>
                          (core_Call N z277 a1 13 ([z275, z276, z1.1.r1])).bind fun z278 =>
                          some z278
                  else
                    bif z1.1.pc == (3 : Int) then
                      bif y238.E != (0 : Int) then
                        (core_Back N a0 a1 0 y238.E).bind fun z279 =>
                        some z279
                      else
                        (core_Set N a0 a1 ({ z1.1 with pc := 4 })).bind fun z280 =>
                        some z280
                    else
                      bif z1.1.pc == (4 : Int) then
                        bif z1.1.pc == (4 : Int) then
                          bif z1.1.pc == (4 : Int) then
                            (mem_Load N a0.M 49).bind fun z281 =>
                            (core_Set N ({ a0 with M := z281.1 }) a1 ({ z1.1 with pc := 5, r4 := z281.2 })).bind fun z282 =>
                            some z282
                          else
                            (mem_Cas N a0.M 49 z1.1.r4 (w64 (z1.1.r4 + (1 : Int)))).bind fun z283 =>
                            bif !z283.2 then
                              (core_Set N ({ a0 with M := z283.1 }) a1 ({ z1.1 with pc := 4 })).bind fun z284 =>
                              some z284
                            else
                              (core_Set N ({ a0 with M := z283.1 }) a1 ({ z1.1 with pc := 6 })).bind fun z285 =>
                              some z285
                        else
                          bif z1.1.pc == (6 : Int) then
                            (table_Step_Ltable_work_put_1 N (a0.M.W, a0.M.G, a0.M.bad, a0.C, a0.L, false, z1.1.op, z1.1.pc, z1.1.r0, z1.1.r1, z1.1.r2, z1.1.r3, z1.1.r4, z1.1.r5, z1.1.r6, z1.1.r7, z1.1.S, a0.M.W, a0.M.G, a0.M.bad, a0.C, a0.L, a1, z1.1.op, z1.1.pc, z1.1.r0, z1.1.r1, z1.1.r2, z1.1.r3, z1.1.r4, z1.1.r5, z1.1.r6, z1.1.r7, z1.1.S, false, y238.F, y238.V, y238.E, y238.x0, y238.x1, y238.x2, y238.Ret)).bind fun l286 =>
                            brS l286 (fun l286a =>
                              (core_Back N (⟨⟨l286a.2.2.2.2.2.2.2.2.2.2.2.2.2.2.2.2.2.1, l286a.2.2.2.2.2.2.2.2.2.2.2.2.2.2.2.2.2.2.1, l286a.2.2.2.2.2.2.2.2.2.2.2.2.2.2.2.2.2.2.2.1⟩, l286a.2.2.2.2.2.2.2.2.2.2.2.2.2.2.2.2.2.2.2.2.1, l286a.2.2.2.2.2.2.2.2.2.2.2.2.2.2.2.2.2.2.2.2.2.1⟩) l286a.2.2.2.2.2.2.2.2.2.2.2.2.2.2.2.2.2.2.2.2.2.2.1 0 0).bind fun z287 =>
                              some z287) (fun l286b =>
                              (core_Back N (⟨⟨l286b.2.2.2.2.2.2.2.2.2.2.2.2.2.2.2.2.2.1, l286b.2.2.2.2.2.2.2.2.2.2.2.2.2.2.2.2.2.2.1, l286b.2.2.2.2.2.2.2.2.2.2.2.2.2.2.2.2.2.2.2.1⟩, l286b.2.2.2.2.2.2.2.2.2.2.2.2.2.2.2.2.2.2.2.2.1, l286b.2.2.2.2.2.2.2.2.2.2.2.2.2.2.2.2.2.2.2.2.2.1⟩) l286b.2.2.2.2.2.2.2.2.2.2.2.2.2.2.2.2.2.2.2.2.2.2.1 0 0).bind fun z288 =>
                              some z288)
                          else
                            some a0
                      else
                        bif z1.1.pc == (5 : Int) then
                          bif z1.1.pc == (4 : Int) then
                            (mem_Load N a0.M 49).bind fun z289 =>
                            (core_Set N ({ a0 with M := z289.1 }) a1 ({ z1.1 with pc := 5, r4 := z289.2 })).bind fun z290 =>
                            some z290
                          else
                            (mem_Cas N a0.M 49 z1.1.r4 (w64 (z1.1.r4 + (1 : Int)))).bind fun z291 =>
                            bif !z291.2 then
                              (core_Set N ({ a0 with M := z291.1 }) a1 ({ z1.1 with pc := 4 })).bind fun z292 =>
                              some z292
                            else
                              (core_Set N ({ a0 with M := z291.1 }) a1 ({ z1.1 with pc := 6 })).bind fun z293 =>
                              some z293
                        else
                          bif z1.1.pc == (6 : Int) then
                            (table_Step_Ltable_work_put_1 N (a0.M.W, a0.M.G, a0.M.bad, a0.C, a0.L, false, z1.1.op, z1.1.pc, z1.1.r0, z1.1.r1, z1.1.r2, z1.1.r3, z1.1.r4, z1.1.r5, z1.1.r6, z1.1.r7, z1.1.S, a0.M.W, a0.M.G, a0.M.bad, a0.C, a0.L, a1, z1.1.op, z1.1.pc, z1.1.r0, z1.1.r1, z1.1.r2, z1.1.r3, z1.1.r4, z1.1.r5, z1.1.r6, z1.1.r7, z1.1.S, false, y238.F, y238.V, y238.E, y238.x0, y238.x1, y238.x2, y238.Ret)).bind fun l294 =>
                            brS l294 (fun l294a =>
                              (core_Back N (⟨⟨l294a.2.2.2.2.2.2.2.2.2.2.2.2.2.2.2.2.2.1, l294a.2.2.2.2.2.2.2.2.2.2.2.2.2.2.2.2.2.2.1, l294a.2.2.2.2.2.2.2.2.2.2.2.2.2.2.2.2.2.2.2.1⟩, l294a.2.2.2.2.2.2.2.2.2.2.2.2.2.2.2.2.2.2.2.2.1, l294a.2.2.2.2.2.2.2.2.2.2.2.2.2.2.2.2.2.2.2.2.2.1⟩) l294a.2.2.2.2.2.2.2.2.2.2.2.2.2.2.2.2.2.2.2.2.2.2.1 0 0).bind fun z295 =>
                              some z295) (fun l294b =>
                              (core_Back N (⟨⟨l294b.2.2.2.2.2.2.2.2.2.2.2.2.2.2.2.2.2.1, l294b.2.2.2.2.2.2.2.2.2.2.2.2.2.2.2.2.2.2.1, l294b.2.2.2.2.2.2.2.2.2.2.2.2.2.2.2.2.2.2.2.1⟩, l294b.2.2.2.2.2.2.2.2.2.2.2.2.2.2.2.2.2.2.2.2.1, l294b.2.2.2.2.2.2.2.2.2.2.2.2.2.2.2.2.2.2.2.2.2.1⟩) l294b.2.2.2.2.2.2.2.2.2.2.2.2.2.2.2.2.2.2.2.2.2.2.1 0 0).bind fun z296 =>
                              some z296)
                          else
                            some a0
                else
                  bif z1.1.pc == (2 : Int) then
                    (idx a0.C a1).bind fun y297 =>
                    bif z1.1.pc == (0 : Int) then
                      (mem_Load N a0.M 48).bind fun z298 =>
                      (core_Set N ({ a0 with M := z298.1 }) a1 ({ z1.1 with pc := 1, r2 := z298.2 })).bind fun z299 =>
                      some z299
                    else
                      bif z1.1.pc == (1 : Int) then
                        (rev_Bucket N z1.1.r0 z1.1.r2).bind fun z300 =>
                        (core_Set N a0 a1 ({ z1.1 with pc := (w64 (z1.1.pc + (1 : Int))) })).bind fun z301 =>
                        (core_Call N z301 a1 15 ([z300])).bind fun z302 =>
                        some z302
                      else
                        bif y297.E != (0 : Int) then
                          (core_Back N a0 a1 0 y297.E).bind fun z303 =>
                          some z303
                        else
                          (table_begins N y297.V).bind fun z304 =>
                          (rev_Ord N z1.1.r0).bind fun z305 =>
                          (core_Set N a0 a1 ({ z1.1 with pc := (w64 (z1.1.pc + (1 : Int))) })).bind fun z306 =>
                          (core_Call N z306 a1 13 ([z304, z305, z1.1.r1])).bind fun z307 =>
                          some z307
                  else
                    bif z1.1.pc == (3 : Int) then
                      bif y238.E != (0 : Int) then
                        (core_Back N a0 a1 0 y238.E).bind fun z308 =>
                        some z308
                      else
                        (core_Set N a0 a1 ({ z1.1 with pc := 4 })).bind fun z309 =>
                        some z309
                    else
                      bif z1.1.pc == (4 : Int) then
                        bif z1.1.pc == (4 : Int) then
                          bif z1.1.pc == (4 : Int) then
                            (mem_Load N a0.M 49).bind fun z310 =>
                            (core_Set N ({ a0 with M := z310.1 }) a1 ({ z1.1 with pc := 5, r4 := z310.2 })).bind fun z311 =>
                            some z311
                          else
                            (mem_Cas N a0.M 49 z1.1.r4 (w64 (z1.1.r4 + (1 : Int)))).bind fun z312 =>
                            bif !z312.2 then
                              (core_Set N ({ a0 with M := z312.1 }) a1 ({ z1.1 with pc := 4 })).bind fun z313 =>
                              some z313
                            else
                              (core_Set N ({ a0 with M := z312.1 }) a1 ({ z1.1 with pc := 6 })).bind fun z314 =>
                              some z314
                        else
                          bif z1.1.pc == (6 : Int) then
                            (table_Step_Ltable_work_put_1 N (a0.M.W, a0.M.G, a0.M.bad, a0.C, a0.L, false, z1.1.op, z1.1.pc, z1.1.r0, z1.1.r1, z1.1.r2, z1.1.r3, z1.1.r4, z1.1.r5, z1.1.r6, z1.1.r7, z1.1.S, a0.M.W, a0.M.G, a0.M.bad, a0.C, a0.L, a1, z1.1.op, z1.1.pc, z1.1.r0, z1.1.r1, z1.1.r2, z1.1.r3, z1.1.r4, z1.1.r5, z1.1.r6, z1.1.r7, z1.1.S, false, y238.F, y238.V, y238.E, y238.x0, y238.x1, y238.x2, y238.Ret)).bind fun l315 =>
                            brS l315 (fun l315a =>
                              (core_Back N (⟨⟨l315a.2.2.2.2.2.2.2.2.2.2.2.2.2.2.2.2.2.1, l315a.2.2.2.2.2.2.2.2.2.2.2.2.2.2.2.2.2.2.1, l315a.2.2.2.2.2.2.2.2.2.2.2.2.2.2.2.2.2.2.2.1⟩, l315a.2.2.2.2.2.2.2.2.2.2.2.2.2.2.2.2.2.2.2.2.1, l315a.2.2.2.2.2.2.2.2.2.2.2.2.2.2.2.2.2.2.2.2.2.1⟩) l315a.2.2.2.2.2.2.2.2.2.2.2.2.2.2.2.2.2.2.2.2.2.2.1 0 0).bind fun z316 =>
                              some z316) (fun l315b =>
                              (core_Back N (⟨⟨l315b.2.2.2.2.2.2.2.2.2.2.2.2.2.2.2.2.2.1, l315b.2.2.2.2.2.2.2.2.2.2.2.2.2.2.2.2.2.2.1, l315b.2.2.2.2.2.2.2.2.2.2.2.2.2.2.2.2.2.2.2.1⟩, l315b.2.2.2.2.2.2.2.2.2.2.2.2.2.2.2.2.2.2.2.2.1, l315b.2.2.2.2.2.2.2.2.2.2.2.2.2.2.2.2.2.2.2.2.2.1⟩) l315b.2.2.2.2.2.2.2.2.2.2.2.2.2.2.2.2.2.2.2.2.2.2.1 0 0).bind fun z317 =>
                              some z317)
                          else
                            some a0
                      else
                        bif z1.1.pc == (5 : Int) then
                          bif z1.1.pc == (4 : Int) then
                            (mem_Load N a0.M 49).bind fun z318 =>
                            (core_Set N ({ a0 with M := z318.1 }) a1 ({ z1.1 with pc := 5, r4 := z318.2 })).bind fun z319 =>
                            some z319
                          else
                            (mem_Cas N a0.M 49 z1.1.r4 (w64 (z1.1.r4 + (1 : Int)))).bind fun z320 =>
                            bif !z320.2 then
                              (core_Set N ({ a0 with M := z320.1 }) a1 ({ z1.1 with pc := 4 })).bind fun z321 =>
                              some z321
                            else
                              (core_Set N ({ a0 with M := z320.1 }) a1 ({ z1.1 with pc := 6 })).bind fun z322 =>
                              some z322
                        else
                          bif z1.1.pc == (6 : Int) then
                            (table_Step_Ltable_work_put_1 N (a0.M.W, a0.M.G, a0.M.bad, a0.C, a0.L, false, z1.1.op, z1.1.pc, z1.1.r0, z1.1.r1, z1.1.r2, z1.1.r3, z1.1.r4, z1.1.r5, z1.1.r6, z1.1.r7, z1.1.S, a0.M.W, a0.M.G, a0.M.bad, a0.C, a0.L, a1, z1.1.op, z1.1.pc, z1.1.r0, z1.1.r1, z1.1.r2, z1.1.r3, z1.1.r4, z1.1.r5, z1.1.r6, z1.1.r7, z1.1.S, false, y238.F, y238.V, y238.E, y238.x0, y238.x1, y238.x2, y238.Ret)).bind fun l323 =>
                            brS l323 (fun l323a =>
                              (core_Back N (⟨⟨l323a.2.2.2.2.2.2.2.2.2.2.2.2.2.2.2.2.2.1, l323a.2.2.2.2.2.2.2.2.2.2.2.2.2.2.2.2.2.2.1, l323a.2.2.2.2.2.2.2.2.2.2.2.2.2.2.2.2.2.2.2.1⟩, l323a.2.2.2.2.2.2.2.2.2.2.2.2.2.2.2.2.2.2.2.2.1, l323a.2.2.2.2.2.2.2.2.2.2.2.2.2.2.2.2.2.2.2.2.2.1⟩) l323a.2.2.2.2.2.2.2.2.2.2.2.2.2.2.2.2.2.2.2.2.2.2.1 0 0).bind fun z324 =>
                              some z324) (fun l323b =>
                              (core_Back N (⟨⟨l323b.2.2.2.2.2.2.2.2.2.2.2.2.2.2.2.2.2.1, l323b.2.2.2.2.2.2.2.2.2.2.2.2.2.2.2.2.2.2.1, l323b.2.2.2.2.2.2.2.2.2.2.2.2.2.2.2.2.2.2.2.1⟩, l323b.2.2.2.2.2.2.2.2.2.2.2.2.2.2.2.2.2.2.2.2.1, l323b.2.2.2.2.2.2.2.2.2.2.2.2.2.2.2.2.2.2.2.2.2.1⟩) l323b.2.2.2.2.2.2.2.2.2.2.2.2.2.2.2.2.2.2.2.2.2.2.1 0 0).bind fun z325 =>
                              some z325)
                          else
                            some a0
            else
              bif z1.1.op == (17 : Int) then
                (idx a0.C a1).bind fun y326 =>
                bif z1.1.pc == (0 : Int) then
                  bif z1.1.pc == (0 : Int) then
                    (idx a0.C a1).bind fun y327 =>
                    bif z1.1.pc == (0 : Int) then
                      (mem_Load N a0.M 48).bind fun z328 =>
                      (core_Set N ({ a0 with M := z328.1 }) a1 ({ z1.1 with pc := 1, r2 := z328.2 })).bind fun z329 =>
                      some z329
                    else
                      bif z1.1.pc == (1 : Int) then
                        (rev_Bucket N z1.1.r0 z1.1.r2).bind fun z330 =>
                        (core_Set N a0 a1 ({ z1.1 with pc := (w64 (z1.1.pc + (1 : Int))) })).bind fun z331 =>
                        (core_Call N z331 a1 15 ([z330])).bind fun z332 =>
                        some z332
                      else
                        bif y327.E != (0 : Int) then
                          (core_Back N a0 a1 0 y327.E).bind fun z333 =>
                          some z333
                        else
                          (table_begins N y327.V).bind fun z334 =>
                          (rev_Ord N z1.1.r0).bind fun z335 =>
                          (core_Set N a0 a1 ({ z1.1 with pc := (w64 (z1.1.pc + (1 : Int))) })).bind fun z336 =>
                          (core_Call N z336 a1 12 ([z334, z335])).bind fun z337 =>
                          some z337
                  else
                    bif z1.1.pc == (3 : Int) then
                      (core_Back N a0 a1 y326.V y326.E).bind fun z338 =>
                      some z338
                    else
                      some a0
                else
                  bif z1.1.pc == (1 : Int) then
                    bif z1.1.pc == (1 : Int) then
                      (idx a0.C a1).bind fun y339 =>
                      bif z1.1.pc == (0 : Int) then
                        (mem_Load N a0.M 48).bind fun z340 =>
                        (core_Set N ({ a0 with M := z340.1 }) a1 ({ z1.1 with pc := 1, r2 := z340.2 })).bind fun z341 =>
                        some z341
                      else
                        bif z1.1.pc == (1 : Int) then
                          (rev_Bucket N z1.1.r0 z1.1.r2).bind fun z342 =>
                          (core_Set N a0 a1 ({ z1.1 with pc := (w64 (z1.1.pc + (1 : Int))) })).bind fun z343 =>
                          (core_Call N z343 a1 15 ([z342])).bind fun z344 =>
                          some z344
                        else
                          bif y339.E != (0 : Int) then
                            (core_Back N a0 a1 0 y339.E).bind fun z345 =>
                            some z345
                          else
                            (table_begins N y339.V).bind fun z346 =>
                            (rev_Ord N z1.1.r0).bind fun z347 =>
                            (core_Set N a0 a1 ({ z1.1 with pc := (w64 (z1.1.pc + (1 : Int))) })).bind fun z348 =>
                            (core_Call N z348 a1 12 ([z346, z347])).bind fun z349 =>
                            some z349
                    else
                      bif z1.1.pc == (3 : Int) then
                        (core_Back N a0 a1 y326.V y326.E).bind fun z350 =>
                        some z350
                      else
                        some a0
                  else
                    bif z1.1.pc == (2 : Int) then
                      (idx a0.C a1).bind fun y351 =>
                      bif z1.1.pc == (0 : Int) then
                        (mem_Load N a0.M 48).bind fun z352 =>
                        (core_Set N ({ a0 with M := z352.1 }) a1 ({ z1.1 with pc := 1, r2 := z352.2 })).bind fun z353 =>
                        some z353
                      else
                        bif z1.1.pc == (1 : Int) then
                          (rev_Bucket N z1.1.r0 z1.1.r2).bind fun z354 =>
                          (core_Set N a0 a1 ({ z1.1 with pc := (w64 (z1.1.pc + (1 : Int))) })).bind fun z355 =>
                          (core_Call N z355 a1 15 ([z354])).bind fun z356 =>
                          some z356
                        else
                          bif y351.E != (0 : Int) then
                            (core_Back N a0 a1 0 y351.E).bind fun z357 =>
                            some z357
                          else
                            (table_begins N y351.V).bind fun z358 =>
                            (rev_Ord N z1.1.r0).bind fun z359 =>
                            (core_Set N a0 a1 ({ z1.1 with pc := (w64 (z1.1.pc + (1 : Int))) })).bind fun z360 =>
                            (core_Call N z360 a1 12 ([z358, z359])).bind fun z361 =>
                            some z361
                    else
                      bif z1.1.pc == (3 : Int) then
                        (core_Back N a0 a1 y326.V y326.E).bind fun z362 =>
                        some z362
                      else
                        some a0
              else
                (idx a0.C a1).bind fun y363 =>
                bif z1.1.pc == (0 : Int) then
                  bif z1.1.pc == (0 : Int) then
                    (idx a0.C a1).bind fun y364 =>
                    bif z1.1.pc == (0 : Int) then
                      (mem_Load N a0.M 48).bind fun z365 =>
                      (core_Set N ({ a0 with M := z365.1 }) a1 ({ z1.1 with pc := 1, r2 := z365.2 })).bind fun z366 =>
                      some z366
                    else
                      bif z1.1.pc == (1 : Int) then
                        (rev_Bucket N z1.1.r0 z1.1.r2).bind fun z367 =>
                        (core_Set N a0 a1 ({ z1.1 with pc := (w64 (z1.1.pc + (1 : Int))) })).bind fun z368 =>
                        (core_Call N z368 a1 15 ([z367])).bind fun z369 =>
                        some z369
                      else
                        bif y364.E != (0 : Int) then
                          (core_Back N a0 a1 0 y364.E).bind fun z370 =>
                          some z370
                        else
                          (table_begins N y364.V).bind fun z371 =>
                          (rev_Ord N z1.1.r0).bind fun z372 =>
                          (core_Set N a0 a1 ({ z1.1 with pc := (w64 (z1.1.pc + (1 : Int))) })).bind fun z373 =>
                          (core_Call N z373 a1 14 ([z371, z372])).bind fun z374 =>
                          some z374
                  else
                    bif z1.1.pc == (3 : Int) then
                      bif y363.E != (0 : Int) then
                        (core_Back N a0 a1 0 y363.E).bind fun z375 =>
                        some z375
                      else
                        (core_Set N a0 a1 ({ z1.1 with pc := 4, r3 := y363.V })).bind fun z376 =>
                        some z376
                    else
                      bif z1.1.pc == (4 : Int) then
                        bif z1.1.pc == (4 : Int) then
                          bif z1.1.pc == (4 : Int) then
                            (mem_Load N a0.M 49).bind fun z377 =>
                            (core_Set N ({ a0 with M := z377.1 }) a1 ({ z1.1 with pc := 5, r4 := z377.2 })).bind fun z378 =>
                            some z378
                          else
                            (mem_Cas N a0.M 49 z1.1.r4 (w64 (z1.1.r4 + (-1 : Int)))).bind fun z379 =>
                            bif !z379.2 then
                              (core_Set N ({ a0 with M := z379.1 }) a1 ({ z1.1 with pc := 4 })).bind fun z380 =>
                              some z380
                            else
                              (core_Back N ({ a0 with M := z379.1 }) a1 z1.1.r3 0).bind fun z381 =>
                              some z381
                        else
                          some a0
                      else
                        bif z1.1.pc == (5 : Int) then
                          bif z1.1.pc == (4 : Int) then
                            (mem_Load N a0.M 49).bind fun z382 =>
                            (core_Set N ({ a0 with M := z382.1 }) a1 ({ z1.1 with pc := 5, r4 := z382.2 })).bind fun z383 =>
                            some z383
                          else
                            (mem_Cas N a0.M 49 z1.1.r4 (w64 (z1.1.r4 + (-1 : Int)))).bind fun z384 =>
                            bif !z384.2 then
                              (core_Set N ({ a0 with M := z384.1 }) a1 ({ z1.1 with pc := 4 })).bind fun z385 =>
                              some z385
                            else
                              (core_Back N ({ a0 with M := z384.1 }) a1 z1.1.r3 0).bind fun z386 =>
                              some z386
                        else
                          some a0
                else
                  bif z1.1.pc == (1 : Int) then
                    bif z1.1.pc == (1 : Int) then
                      (idx a0.C a1).bind fun y387 =>
                      bif z1.1.pc == (0 : Int) then
                        (mem_Load N a0.M 48).bind fun z388 =>
                        (core_Set N ({ a0 with M := z388.1 }) a1 ({ z1.1 with pc := 1, r2 := z388.2 })).bind fun z389 =>
                        some z389
                      else
                        bif z1.1.pc == (1 : Int) then
                          (rev_Bucket N z1.1.r0 z1.1.r2).bind fun z390 =>
                          (core_Set N a0 a1 ({ z1.1 with pc := (w64 (z1.1.pc + (1 : Int))) })).bind fun z391 =>
                          (core_Call N z391 a1 15 ([z390])).bind fun z392 =>
                          some z392
                        else
                          bif y387.E != (0 : Int) then
                            (core_Back N a0 a1 0 y387.E).bind fun z393 =>
                            some z393
                          else
                            (table_begins N y387.V).bind fun z394 =>
                            (rev_Ord N z1.1.r0).bind fun z395 =>
                            (core_Set N a0 a1 ({ z1.1 with pc := (w64 (z1.1.pc + (1 : Int))) })).bind fun z396 =>
                            (core_Call N z396 a1 14 ([z394, z395])).bind fun z397 =>
                            some z397
                    else
                      bif z1.1.pc == (3 : Int) then
                        bif y363.E != (0 : Int) then
                          (core_Back N a0 a1 0 y363.E).bind fun z398 =>
                          some z398
                        else
                          (core_Set N a0 a1 ({ z1.1 with pc := 4, r3 := y363.V })).bind fun z399 =>
                          some z399
                      else
                        bif z1.1.pc == (4 : Int) then
                          bif z1.1.pc == (4 : Int) then
                            bif z1.1.pc == (4 : Int) then
                              (mem_Load N a0.M 49).bind fun z400 =>
                              (core_Set N ({ a0 with M := z400.1 }) a1 ({ z1.1 with pc := 5, r4 := z400.2 })).bind fun z401 =>
                              some z401
                            else
                              (mem_Cas N a0.M 49 z1.1.r4 (w64 (z1.1.r4 + (-1 : Int)))).bind fun z402 =>
                              bif !z402.2 then
                                (core_Set N ({ a0 with M := z402.1 }) a1 ({ z1.1 with pc := 4 })).bind fun z403 =>
                                some z403
                              else
                                (core_Back N ({ a0 with M := z402.1 }) a1 z1.1.r3 0).bind fun z404 =>
                                some z404
                          else
                            some a0
                        else
                          bif z1.1.pc == (5 : Int) then
                            bif z1.1.pc == (4 : Int) then
                              (mem_Load N a0.M 49).bind fun z405 =>
                              (core_Set N ({ a0 with M := z405.1 }) a1 ({ z1.1 with pc := 5, r4 := z405.2 })).bind fun z406 =>
                              some z406
                            else
                              (mem_Cas N a0.M 49 z1.1.r4 (w64 (z1.1.r4 + (-1 : Int)))).bind fun z407 =>
                              bif !z407.2 then
                                (core_Set N ({ a0 with M := z407.1 }) a1 ({ z1.1 with pc := 4 })).bind fun z408 =>
                                some z408
                              else
                                (core_Back N ({ a0 with M := z407.1 }) a1 z1.1.r3 0).bind fun z409 =>
                                some z409
                          else
                            some a0
                  else
                    bif z1.1.pc == (2 : Int) then
                      (idx a0.C a1).bind fun y410 =>
                      bif z1.1.pc == (0 : Int) then
                        (mem_Load N a0.M 48).bind fun z411 =>
                        (core_Set N ({ a0 with M := z411.1 }) a1 ({ z1.1 with pc := 1, r2 := z411.2 })).bind fun z412 =>
                        some z412
                      else
                        bif z1.1.pc == (1 : Int) then
                          (rev_Bucket N z1.1.r0 z1.1.r2).bind fun z413 =>
                          (core_Set N a0 a1 ({ z1.1 with pc := (w64 (z1.1.pc + (1 : Int))) })).bind fun z414 =>
                          (core_Call N z414 a1 15 ([z413])).bind fun z415 =>
                          some z415
                        else
                          bif y410.E != (0 : Int) then
                            (core_Back N a0 a1 0 y410.E).bind fun z416 =>
                            some z416
                          else
                            (table_begins N y410.V).bind fun z417 =>
                            (rev_Ord N z1.1.r0).bind fun z418 =>
                            (core_Set N a0 a1 ({ z1.1 with pc := (w64 (z1.1.pc + (1 : Int))) })).bind fun z419 =>
                            (core_Call N z419 a1 14 ([z417, z418])).bind fun z420 =>
                            some z420
                    else
                      bif z1.1.pc == (3 : Int) then
                        bif y363.E != (0 : Int) then
                          (core_Back N a0 a1 0 y363.E).bind fun z421 =>
                          some z421
                        else
                          (core_Set N a0 a1 ({ z1.1 with pc := 4, r3 := y363.V })).bind fun z422 =>
                          some z422
                      else
                        bif z1.1.pc == (4 : Int) then
                          bif z1.1.pc == (4 : Int) then
                            bif z1.1.pc == (4 : Int) then
                              (mem_Load N a0.M 49).bind fun z423 =>
                              (core_Set N ({ a0 with M := z423.1 }) a1 ({ z1.1 with pc := 5, r4 := z423.2 })).bind fun z424 =>
                              some z424
                            else
                              (mem_Cas N a0.M 49 z1.1.r4 (w64 (z1.1.r4 + (-1 : Int)))).bind fun z425 =>
                              bif !z425.2 then
                                (core_Set N ({ a0 with M := z425.1 }) a1 ({ z1.1 with pc := 4 })).bind fun z426 =>
                                some z426
                              else
                                (core_Back N ({ a0 with M := z425.1 }) a1 z1.1.r3 0).bind fun z427 =>
                                some z427
                          else
                            some a0
                        else
                          bif z1.1.pc == (5 : Int) then
                            bif z1.1.pc == (4 : Int) then
                              (mem_Load N a0.M 49).bind fun z428 =>
                              (core_Set N ({ a0 with M := z428.1 }) a1 ({ z1.1 with pc := 5, r4 := z428.2 })).bind fun z429 =>
                              some z429
                            else
                              (mem_Cas N a0.M 49 z1.1.r4 (w64 (z1.1.r4 + (-1 : Int)))).bind fun z430 =>
                              bif !z430.2 then
                                (core_Set N ({ a0 with M := z430.1 }) a1 ({ z1.1 with pc := 4 })).bind fun z431 =>
                                some z431
                              else
                                (core_Back N ({ a0 with M := z430.1 }) a1 z1.1.r3 0).bind fun z432 =>
                                some z432
                          else
                            some a0

/- hazel/event.isEvent -/
def event_isEvent (N : Nat) (a0 : Int) : Option (Bool) :=
  bif decide (a0 ≥ (0 : Int)) then some (decide (a0 < (16 : Int))) else
  some false

/- hazel/event.Spot -/
def event_Spot (N : Nat) (a0 : Int) : Option (Int) :=
  some (w64 ((80 : Int) + a0))

/- hazel/event.Step -/
def event_Step (N : Nat) (a0 : SysD) (a1 : Int) : Option (SysD) :=
  (core_Top N a0 a1).bind fun z1 =>
  bif !z1.2 then
    (table_Step N a0 a1).bind fun z2 =>
    some z2
  else
    bif decide (z1.1.op < (19 : Int)) then
      (table_Step N a0 a1).bind fun z3 =>
      some z3
    else
      bif decide (z1.1.op > (21 : Int)) then
        (table_Step N a0 a1).bind fun z4 =>
        some z4
      else
        (event_isEvent N z1.1.r0).bind fun z5 =>
        bif !z5 then some a0 else
        bif z1.1.pc != (0 : Int) then
          bif z1.1.pc != (1 : Int) then some a0 else
          bif z1.1.pc == (0 : Int) then
            (event_Spot N z1.1.r0).bind fun z6 =>
            (mem_Load N a0.M z6).bind fun z7 =>
            bif z1.1.op != (21 : Int) then
              (core_Set N ({ a0 with M := z7.1 }) a1 ({ z1.1 with pc := 1, r1 := z7.2 })).bind fun z8 =>
              some z8
            else
              (pack_Index N z7.2).bind fun z9 =>
              bif z9 == (0 : Int) then
                (core_Log N ({ a0 with M := z7.1 }) a1 12 z1.1.r0 0 0).bind fun z10 =>
                (core_Back N z10 a1 0 0).bind fun z11 =>
                some z11
              else
                (pack_Mark N z7.2).bind fun z12 =>
                bif z12 == (0 : Int) then
                  (core_Log N ({ a0 with M := z7.1 }) a1 12 z1.1.r0 0 1).bind fun z13 =>
                  (core_Back N z13 a1 1 0).bind fun z14 =>
                  some z14
                else
                  (core_Set N ({ a0 with M := z7.1 }) a1 ({ z1.1 with pc := 1, r1 := z7.2 })).bind fun z15 =>
                  some z15
          else
            (pack_Mark N z1.1.r1).bind fun z16 =>
            bif z1.1.op == (21 : Int) then
              (event_Spot N z1.1.r0).bind fun z17 =>
              (pack_Next N z1.1.r1 0 1).bind fun z18 =>
              (mem_Cas N a0.M z17 z1.1.r1 z18).bind fun z19 =>
              bif !z19.2 then
                (core_Set N ({ a0 with M := z19.1 }) a1 ({ z1.1 with pc := 0 })).bind fun z20 =>
                some z20
              else
                bif z1.1.op == (21 : Int) then
                  (core_Log N ({ a0 with M := z19.1 }) a1 12 z1.1.r0 0 1).bind fun z21 =>
                  (core_Back N z21 a1 1 0).bind fun z22 =>
                  some z22
                else
                  (core_Log N ({ a0 with M := z19.1 }) a1 12 z1.1.r0 0 0).bind fun z23 =>
                  (core_Back N z23 a1 0 0).bind fun z24 =>
                  some z24
            else
              (event_Spot N z1.1.r0).bind fun z25 =>
              (pack_Next N z1.1.r1 (((tmapGet z1.1.op (tmapSet (20 : Int) (⟨0, 11⟩ : PairD) (tmapSet (19 : Int) (⟨1, 10⟩ : PairD) ([])))).getD (⟨0, 0⟩ : PairD)).a) z16).bind fun z26 =>
              (mem_Cas N a0.M z25 z1.1.r1 z26).bind fun z27 =>
              bif !z27.2 then
                (core_Set N ({ a0 with M := z27.1 }) a1 ({ z1.1 with pc := 0 })).bind fun z28 =>
                some z28
              else
                bif z1.1.op == (21 : Int) then
                  (core_Log N ({ a0 with M := z27.1 }) a1 12 z1.1.r0 0 1).bind fun z29 =>
                  (core_Back N z29 a1 1 0).bind fun z30 =>
                  some z30
                else
                  (core_Log N ({ a0 with M := z27.1 }) a1 (((tmapGet z1.1.op (tmapSet (20 : Int) (⟨0, 11⟩ : PairD) (tmapSet (19 : Int) (⟨1, 10⟩ : PairD) ([])))).getD (⟨0, 0⟩ : PairD)).b) z1.1.r0 0 0).bind fun z31 =>
                  (core_Back N z31 a1 0 0).bind fun z32 =>
                  some z32
        else
          bif z1.1.pc == (0 : Int) then
            (event_Spot N z1.1.r0).bind fun z33 =>
            (mem_Load N a0.M z33).bind fun z34 =>
            bif z1.1.op != (21 : Int) then
              (core_Set N ({ a0 with M := z34.1 }) a1 ({ z1.1 with pc := 1, r1 := z34.2 })).bind fun z35 =>
              some z35
            else
              (pack_Index N z34.2).bind fun z36 =>
              bif z36 == (0 : Int) then
                (core_Log N ({ a0 with M := z34.1 }) a1 12 z1.1.r0 0 0).bind fun z37 =>
                (core_Back N z37 a1 0 0).bind fun z38 =>
                some z38
              else
                (pack_Mark N z34.2).bind fun z39 =>
                bif z39 == (0 : Int) then
                  (core_Log N ({ a0 with M := z34.1 }) a1 12 z1.1.r0 0 1).bind fun z40 =>
                  (core_Back N z40 a1 1 0).bind fun z41 =>
                  some z41
                else
                  (core_Set N ({ a0 with M := z34.1 }) a1 ({ z1.1 with pc := 1, r1 := z34.2 })).bind fun z42 =>
                  some z42
          else
            (pack_Mark N z1.1.r1).bind fun z43 =>
            bif z1.1.op == (21 : Int) then
              (event_Spot N z1.1.r0).bind fun z44 =>
              (pack_Next N z1.1.r1 0 1).bind fun z45 =>
              (mem_Cas N a0.M z44 z1.1.r1 z45).bind fun z46 =>
              bif !z46.2 then
                (core_Set N ({ a0 with M := z46.1 }) a1 ({ z1.1 with pc := 0 })).bind fun z47 =>
                some z47
              else
                bif z1.1.op == (21 : Int) then
                  (core_Log N ({ a0 with M := z46.1 }) a1 12 z1.1.r0 0 1).bind fun z48 =>
                  (core_Back N z48 a1 1 0).bind fun z49 =>
                  some z49
                else
                  (core_Log N ({ a0 with M := z46.1 }) a1 12 z1.1.r0 0 0).bind fun z50 =>
                  (core_Back N z50 a1 0 0).bind fun z51 =>
                  some z51
            else
              (event_Spot N z1.1.r0).bind fun z52 =>
              (pack_Next N z1.1.r1 (((tmapGet z1.1.op (tmapSet (20 : Int) (⟨0, 11⟩ : PairD) (tmapSet (19 : Int) (⟨1, 10⟩ : PairD) ([])))).getD (⟨0, 0⟩ : PairD)).a) z43).bind fun z53 =>
              (mem_Cas N a0.M z52 z1.1.r1 z53).bind fun z54 =>
              bif !z54.2 then
                (core_Set N ({ a0 with M := z54.1 }) a1 ({ z1.1 with pc := 0 })).bind fun z55 =>
                some z55
              else
                bif z1.1.op == (21 : Int) then
                  (core_Log N ({ a0 with M := z54.1 }) a1 12 z1.1.r0 0 1).bind fun z56 =>
                  (core_Back N z56 a1 1 0).bind fun z57 =>
                  some z57
                else
                  (core_Log N ({ a0 with M := z54.1 }) a1 (((tmapGet z1.1.op (tmapSet (20 : Int) (⟨0, 11⟩ : PairD) (tmapSet (19 : Int) (⟨1, 10⟩ : PairD) ([])))).getD (⟨0, 0⟩ : PairD)).b) z1.1.r0 0 0).bind fun z58 =>
                  (core_Back N z58 a1 0 0).bind fun z59 =>
                  some z59

/- hazel/thr.Step -/
def thr_Step (N : Nat) (a0 : SysD) (a1 : Int) : Option (SysD) :=
  (core_Top N a0 a1).bind fun z1 =>
  bif decide (z1.1.op = (22 : Int)) then
    bif !z1.2 then
      (event_Step N a0 a1).bind fun z2 =>
      some z2
    else
      (thr_below N z1.1.r0 16).bind fun z3 =>
      bif !z3 then some a0 else
      (thr_below N z1.1.r1 8).bind fun z4 =>
      bif !z4 then some a0 else
      (thr_below N z1.1.pc 2).bind fun z5 =>
      bif !z5 then some a0 else
      bif z1.1.pc == (0 : Int) then
        (mem_Load N a0.M (w64 ((112 : Int) + z1.1.r1))).bind fun z6 =>
        (core_Set N ({ a0 with M := z6.1 }) a1 ({ z1.1 with pc := 1, r2 := z6.2 })).bind fun z7 =>
        some z7
      else
        bif decide ((0 : Int) ≤ z1.1.r0) then
          (mem_Cas N a0.M (w64 ((112 : Int) + z1.1.r1)) z1.1.r2 (bor .i64 z1.1.r2 (shlI .i64 (1 : Int) z1.1.r0))).bind fun z8 =>
          bif !z8.2 then
            (core_Set N ({ a0 with M := z8.1 }) a1 ({ z1.1 with pc := 0 })).bind fun z9 =>
            some z9
          else
            (core_Back N ({ a0 with M := z8.1 }) a1 z1.1.r0 0).bind fun z10 =>
            some z10
        else none
  else
    bif decide (z1.1.op = (23 : Int)) then
      bif !z1.2 then
        (event_Step N a0 a1).bind fun z11 =>
        some z11
      else
        (thr_below N z1.1.r0 8).bind fun z12 =>
        bif !z12 then some a0 else
        (thr_below N z1.1.pc 2).bind fun z13 =>
        bif z13 then
          bif z1.1.pc == (0 : Int) then
            (mem_Load N a0.M (w64 ((112 : Int) + z1.1.r0))).bind fun z14 =>
            bif decide ((lowestX z14.2) < (0 : Int)) then
              (core_Back N ({ a0 with M := z14.1 }) a1 0 3).bind fun z15 =>
              some z15
            else
              (core_Set N ({ a0 with M := z14.1 }) a1 ({ z1.1 with pc := 1, r2 := z14.2 })).bind fun z16 =>
              some z16
          else
            bif decide ((lowestX z1.1.r2) < (0 : Int)) then some a0 else
            bif decide ((0 : Int) ≤ (lowestX z1.1.r2)) then
              (mem_Cas N a0.M (w64 ((112 : Int) + z1.1.r0)) z1.1.r2 (bandn .i64 z1.1.r2 (shlI .i64 (1 : Int) (lowestX z1.1.r2)))).bind fun z17 =>
              bif !z17.2 then
                (core_Set N ({ a0 with M := z17.1 }) a1 ({ z1.1 with pc := 0 })).bind fun z18 =>
                some z18
              else
                (core_Set N ({ a0 with M := z17.1 }) a1 ({ z1.1 with pc := 2, r3 := (lowestX z1.1.r2) })).bind fun z19 =>
                some z19
            else none
        else
          (thr_below N z1.1.r3 16).bind fun z20 =>
          bif !z20 then some a0 else
          bif z1.1.pc == (2 : Int) then
            (mem_Load N a0.M (w64 ((96 : Int) + z1.1.r3))).bind fun z21 =>
            (pack_Index N z21.2).bind fun z22 =>
            bif !(z22 == (1 : Int)) then
              (core_Back N ({ a0 with M := z21.1 }) a1 0 5).bind fun z23 =>
              some z23
            else
              (core_Set N ({ a0 with M := z21.1 }) a1 ({ z1.1 with pc := 3, r4 := z21.2 })).bind fun z24 =>
              some z24
          else
            bif z1.1.pc == (3 : Int) then
              (pack_Next N z1.1.r4 2 0).bind fun z25 =>
              (mem_Cas N a0.M (w64 ((96 : Int) + z1.1.r3)) z1.1.r4 z25).bind fun z26 =>
              bif z26.2 then
                (core_Back N ({ a0 with M := z26.1 }) a1 z1.1.r3 0).bind fun z27 =>
                some z27
              else
                (core_Set N ({ a0 with M := z26.1 }) a1 ({ z1.1 with pc := 2 })).bind fun z28 =>
                some z28
            else
              some a0
    else
      bif decide (z1.1.op = (24 : Int)) then
        bif !z1.2 then
          (event_Step N a0 a1).bind fun z29 =>
          some z29
        else
          (thr_below N z1.1.r0 16).bind fun z30 =>
          bif !z30 then some a0 else
          (thr_below N z1.1.r1 8).bind fun z31 =>
          bif !z31 then some a0 else
          bif z1.1.pc == (0 : Int) then
            (mem_Load N a0.M (w64 ((96 : Int) + z1.1.r0))).bind fun z32 =>
            (pack_Index N z32.2).bind fun z33 =>
            bif !(z33 == (2 : Int)) then
              (core_Back N ({ a0 with M := z32.1 }) a1 0 5).bind fun z34 =>
              some z34
            else
              (core_Set N ({ a0 with M := z32.1 }) a1 ({ z1.1 with pc := 1, r2 := z32.2 })).bind fun z35 =>
              some z35
          else
            bif z1.1.pc == (1 : Int) then
              (pack_Next N z1.1.r2 (w64 ((8 : Int) + z1.1.r1)) 0).bind fun z36 =>
              (mem_Cas N a0.M (w64 ((96 : Int) + z1.1.r0)) z1.1.r2 z36).bind fun z37 =>
              bif z37.2 then
                (core_Set N ({ a0 with M := z37.1 }) a1 ({ z1.1 with pc := 2, r4 := z36 })).bind fun z38 =>
                some z38
              else
                (core_Set N ({ a0 with M := z37.1 }) a1 ({ z1.1 with pc := 0, r4 := z36 })).bind fun z39 =>
                some z39
            else
              bif z1.1.pc == (2 : Int) then
                bif z1.1.pc == (2 : Int) then
                  bif z1.1.pc == (2 : Int) then
                    (mem_Load N a0.M (w64 ((120 : Int) + z1.1.r1))).bind fun z40 =>
                    (core_Set N ({ a0 with M := z40.1 }) a1 ({ z1.1 with pc := 3, r3 := z40.2 })).bind fun z41 =>
                    some z41
                  else
                    bif decide ((0 : Int) ≤ z1.1.r0) then
                      (mem_Cas N a0.M (w64 ((120 : Int) + z1.1.r1)) z1.1.r3 (bor .i64 z1.1.r3 (shlI .i64 (1 : Int) z1.1.r0))).bind fun z42 =>
                      bif !z42.2 then
                        (core_Set N ({ a0 with M := z42.1 }) a1 ({ z1.1 with pc := 2 })).bind fun z43 =>
                        some z43
                      else
                        (core_Back N ({ a0 with M := z42.1 }) a1 z1.1.r4 0).bind fun z44 =>
                        some z44
                    else none
                else
                  some a0
              else
                bif z1.1.pc == (3 : Int) then
                  bif z1.1.pc == (2 : Int) then
                    (mem_Load N a0.M (w64 ((120 : Int) + z1.1.r1))).bind fun z45 =>
                    (core_Set N ({ a0 with M := z45.1 }) a1 ({ z1.1 with pc := 3, r3 := z45.2 })).bind fun z46 =>
                    some z46
                  else
                    bif decide ((0 : Int) ≤ z1.1.r0) then
                      (mem_Cas N a0.M (w64 ((120 : Int) + z1.1.r1)) z1.1.r3 (bor .i64 z1.1.r3 (shlI .i64 (1 : Int) z1.1.r0))).bind fun z47 =>
                      bif !z47.2 then
                        (core_Set N ({ a0 with M := z47.1 }) a1 ({ z1.1 with pc := 2 })).bind fun z48 =>
                        some z48
                      else
                        (core_Back N ({ a0 with M := z47.1 }) a1 z1.1.r4 0).bind fun z49 =>
                        some z49
                    else none
                else
                  some a0
      else
        bif decide (z1.1.op = (25 : Int)) then
          bif !z1.2 then
            (event_Step N a0 a1).bind fun z50 =>
            some z50
          else
            (thr_below N z1.1.r0 16).bind fun z51 =>
            bif !z51 then some a0 else
            bif z1.1.pc != (0 : Int) then some a0 else
            (pack_Next N z1.1.r1 2 0).bind fun z52 =>
            (mem_Cas N a0.M (w64 ((96 : Int) + z1.1.r0)) z1.1.r1 z52).bind fun z53 =>
            bif z53.2 then
              (core_Back N ({ a0 with M := z53.1 }) a1 z1.1.r0 0).bind fun z54 =>
              some z54
            else
              (core_Back N ({ a0 with M := z53.1 }) a1 0 5).bind fun z55 =>
              some z55
        else
          bif decide (z1.1.op = (26 : Int)) then
            bif !z1.2 then
              (event_Step N a0 a1).bind fun z56 =>
              some z56
            else
              (thr_below N z1.1.r0 8).bind fun z57 =>
              bif !z57 then some a0 else
              (thr_below N z1.1.r1 8).bind fun z58 =>
              bif !z58 then some a0 else
              (thr_below N z1.1.pc 2).bind fun z59 =>
              bif z59 then
                bif z1.1.pc == (0 : Int) then
                  (mem_Load N a0.M (w64 ((120 : Int) + z1.1.r0))).bind fun z60 =>
                  bif decide ((lowestX z60.2) < (0 : Int)) then
                    (core_Back N ({ a0 with M := z60.1 }) a1 0 3).bind fun z61 =>
                    some z61
                  else
                    (core_Set N ({ a0 with M := z60.1 }) a1 ({ z1.1 with pc := 1, r2 := z60.2 })).bind fun z62 =>
                    some z62
                else
                  bif decide ((lowestX z1.1.r2) < (0 : Int)) then some a0 else
                  bif decide ((0 : Int) ≤ (lowestX z1.1.r2)) then
                    (mem_Cas N a0.M (w64 ((120 : Int) + z1.1.r0)) z1.1.r2 (bandn .i64 z1.1.r2 (shlI .i64 (1 : Int) (lowestX z1.1.r2)))).bind fun z63 =>
                    bif !z63.2 then
                      (core_Set N ({ a0 with M := z63.1 }) a1 ({ z1.1 with pc := 0 })).bind fun z64 =>
                      some z64
                    else
                      (core_Set N ({ a0 with M := z63.1 }) a1 ({ z1.1 with pc := 2, r3 := (lowestX z1.1.r2) })).bind fun z65 =>
                      some z65
                  else none
              else
                (thr_below N z1.1.r3 16).bind fun z66 =>
                bif !z66 then some a0 else
                bif z1.1.pc == (2 : Int) then
                  (mem_Load N a0.M (w64 ((96 : Int) + z1.1.r3))).bind fun z67 =>
                  (pack_Index N z67.2).bind fun z68 =>
                  bif z68 == (w64 ((8 : Int) + z1.1.r0)) then
                    (core_Set N ({ a0 with M := z67.1 }) a1 ({ z1.1 with pc := 3, r4 := z67.2 })).bind fun z69 =>
                    some z69
                  else
                    (core_Set N ({ a0 with M := z67.1 }) a1 ({ z1.1 with pc := 0, r4 := z67.2 })).bind fun z70 =>
                    some z70
                else
                  bif z1.1.pc == (3 : Int) then
                    (pack_Next N z1.1.r4 1 0).bind fun z71 =>
                    (mem_Cas N a0.M (w64 ((96 : Int) + z1.1.r3)) z1.1.r4 z71).bind fun z72 =>
                    bif z72.2 then
                      (core_Set N ({ a0 with M := z72.1 }) a1 ({ z1.1 with pc := 4 })).bind fun z73 =>
                      some z73
                    else
                      (core_Set N ({ a0 with M := z72.1 }) a1 ({ z1.1 with pc := 2 })).bind fun z74 =>
                      some z74
                  else
                    bif z1.1.pc == (4 : Int) then
                      (core_Set N a0 a1 ({ z1.1 with pc := 5 })).bind fun z75 =>
                      (core_Call N z75 a1 22 ([z1.1.r3, z1.1.r1])).bind fun z76 =>
                      some z76
                    else
                      bif z1.1.pc == (5 : Int) then
                        (core_Back N a0 a1 z1.1.r3 0).bind fun z77 =>
                        some z77
                      else
                        some a0
          else
            bif decide (z1.1.op = (27 : Int)) then
              bif !z1.2 then
                (event_Step N a0 a1).bind fun z78 =>
                some z78
              else
                (thr_below N z1.1.r0 16).bind fun z79 =>
                bif !z79 then some a0 else
                (thr_below N z1.1.r1 8).bind fun z80 =>
                bif !z80 then some a0 else
                bif z1.1.pc == (0 : Int) then
                  (mem_Load N a0.M (w64 ((96 : Int) + z1.1.r0))).bind fun z81 =>
                  (pack_Index N z81.2).bind fun z82 =>
                  bif !(z82 == (2 : Int)) then
                    (core_Back N ({ a0 with M := z81.1 }) a1 0 5).bind fun z83 =>
                    some z83
                  else
                    (core_Set N ({ a0 with M := z81.1 }) a1 ({ z1.1 with pc := 1, r2 := z81.2 })).bind fun z84 =>
                    some z84
                else
                  bif z1.1.pc == (1 : Int) then
                    (pack_Next N z1.1.r2 1 0).bind fun z85 =>
                    (mem_Cas N a0.M (w64 ((96 : Int) + z1.1.r0)) z1.1.r2 z85).bind fun z86 =>
                    bif z86.2 then
                      (core_Set N ({ a0 with M := z86.1 }) a1 ({ z1.1 with pc := 2 })).bind fun z87 =>
                      some z87
                    else
                      (core_Set N ({ a0 with M := z86.1 }) a1 ({ z1.1 with pc := 0 })).bind fun z88 =>
                      some z88
                  else
                    bif z1.1.pc == (2 : Int) then
                      (core_Set N a0 a1 ({ z1.1 with op := 22, pc := 0 })).bind fun z89 =>
                      some z89
                    else
                      some a0
            else
              bif !z1.2 then
                (event_Step N a0 a1).bind fun z90 =>
                some z90
              else
                (event_Step N a0 a1).bind fun z91 =>
                some z91

/- hazel/port.on -/
def port_on (N : Nat) (a0 : SysD) (a1 : Int) (a2 : FrameD) (a3 : Int) : Option (SysD) :=
  (core_Set N a0 a1 ({ a2 with pc := a3 })).bind fun z1 =>
  some z1

/- hazel/port.look -/
def port_look (N : Nat) (a0 : SysD) (a1 : Int) (a2 : FrameD) : Option (SysD) :=
  (idx a0.C a1).bind fun y1 =>
  bif a2.pc == (3 : Int) then
    (port_on N a0 a1 ({ a2 with r4 := y1.V }) (w64 (a2.pc + (1 : Int)))).bind fun z2 =>
    some z2
  else
    bif a2.pc == (4 : Int) then
      (pack_Index N a2.r4).bind fun z3 =>
      (mem_At N z3 1).bind fun z4 =>
      (mem_Load N a0.M z4).bind fun z5 =>
      (port_on N ({ a0 with M := z5.1 }) a1 ({ a2 with r5 := z5.2 }) (w64 (a2.pc + (1 : Int)))).bind fun z6 =>
      some z6
    else
      bif a2.pc == (5 : Int) then
        (haz_Place N a1 0).bind fun z7 =>
        (mem_Store N a0.M z7 0).bind fun z8 =>
        (pack_Index N a2.r5).bind fun z9 =>
        bif z9 == (0 : Int) then
          (core_Back N ({ a0 with M := z8 }) a1 0 6).bind fun z10 =>
          some z10
        else
          (port_on N ({ a0 with M := z8 }) a1 a2 (w64 (a2.pc + (1 : Int)))).bind fun z11 =>
          some z11
      else
        bif y1.E != (0 : Int) then
          (core_Back N a0 a1 0 6).bind fun z12 =>
          some z12
        else
          (port_on N a0 a1 a2 0).bind fun z13 =>
          some z13

/- hazel/port.Step -/
def port_Step (N : Nat) (a0 : SysD) (a1 : Int) : Option (SysD) :=
  (core_Top N a0 a1).bind fun z1 =>
  bif !z1.2 then
    (thr_Step N a0 a1).bind fun z2 =>
    some z2
  else
    bif z1.1.op != (28 : Int) then
      bif z1.1.op != (29 : Int) then
        (thr_Step N a0 a1).bind fun z3 =>
        some z3
      else
        bif z1.1.op == (29 : Int) then
          (port_isPort N z1.1.r0).bind fun z4 =>
          bif !z4 then some a0 else
          bif decide (z1.1.pc < (0 : Int)) then some a0 else
          bif decide (z1.1.pc ≥ (8 : Int)) then some a0 else
          bif decide (z1.1.pc = (7 : Int)) then
            (port_look N a0 a1 z1.1).bind fun z5 =>
            some z5
          else
            bif decide (z1.1.pc = (6 : Int)) then
              (idx a0.C a1).bind fun y6 =>
              (core_Set N a0 a1 ({ z1.1 with pc := (w64 (z1.1.pc + (1 : Int))) })).bind fun z7 =>
              (core_Call N z7 a1 25 ([z1.1.r1, z1.1.r3])).bind fun z8 =>
              some z8
            else
              bif decide (z1.1.pc = (5 : Int)) then
                (port_look N a0 a1 z1.1).bind fun z9 =>
                some z9
              else
                bif decide (z1.1.pc = (4 : Int)) then
                  (port_look N a0 a1 z1.1).bind fun z10 =>
                  some z10
                else
                  bif decide (z1.1.pc = (3 : Int)) then
                    (port_look N a0 a1 z1.1).bind fun z11 =>
                    some z11
                  else
                    bif decide (z1.1.pc = (2 : Int)) then
                      (idx a0.C a1).bind fun y12 =>
                      bif y12.E != (0 : Int) then
                        (core_Back N a0 a1 0 y12.E).bind fun z13 =>
                        some z13
                      else
                        (msq_Spot N z1.1.r0).bind fun z14 =>
                        (core_Set N a0 a1 ({ z1.1 with pc := (w64 (z1.1.pc + (1 : Int))), r3 := y12.V })).bind fun z15 =>
                        (core_Call N z15 a1 3 ([z14, 0])).bind fun z16 =>
                        some z16
                    else
                      bif decide (z1.1.pc = (1 : Int)) then
                        (idx a0.C a1).bind fun y17 =>
                        bif y17.E == (0 : Int) then
                          (core_Back N a0 a1 y17.V 0).bind fun z18 =>
                          some z18
                        else
                          (core_Set N a0 a1 ({ z1.1 with pc := (w64 (z1.1.pc + (1 : Int))) })).bind fun z19 =>
                          (core_Call N z19 a1 24 ([z1.1.r1, z1.1.r0])).bind fun z20 =>
                          some z20
                      else
                        bif decide (z1.1.pc = (0 : Int)) then
                          (idx a0.C a1).bind fun y21 =>
                          (core_Set N a0 a1 ({ z1.1 with pc := (w64 (z1.1.pc + (1 : Int))) })).bind fun z22 =>
                          (core_Call N z22 a1 10 ([z1.1.r0])).bind fun z23 =>
                          some z23
                        else none
        else
          (port_isPort N z1.1.r0).bind fun z24 =>
          bif !z24 then some a0 else
          bif decide (z1.1.pc < (0 : Int)) then some a0 else
          bif decide (z1.1.pc ≥ (3 : Int)) then some a0 else
          bif decide (z1.1.pc = (2 : Int)) then
            (idx a0.C a1).bind fun y25 =>
            (core_Back N a0 a1 0 0).bind fun z26 =>
            some z26
          else
            bif decide (z1.1.pc = (1 : Int)) then
              (idx a0.C a1).bind fun y27 =>
              bif y27.E != (0 : Int) then
                (core_Back N a0 a1 0 y27.E).bind fun z28 =>
                some z28
              else
                (core_Set N a0 a1 ({ z1.1 with pc := (w64 (z1.1.pc + (1 : Int))) })).bind fun z29 =>
                (core_Call N z29 a1 26 ([z1.1.r0, z1.1.r2])).bind fun z30 =>
                some z30
            else
              bif decide (z1.1.pc = (0 : Int)) then
                (idx a0.C a1).bind fun y31 =>
                (core_Set N a0 a1 ({ z1.1 with pc := (w64 (z1.1.pc + (1 : Int))) })).bind fun z32 =>
                (core_Call N z32 a1 9 ([z1.1.r0, z1.1.r1])).bind fun z33 =>
                some z33
              else none
    else
      bif z1.1.op == (29 : Int) then
        (port_isPort N z1.1.r0).bind fun z34 =>
        bif !z34 then some a0 else
        bif decide (z1.1.pc < (0 : Int)) then some a0 else
        bif decide (z1.1.pc ≥ (8 : Int)) then some a0 else
        bif decide (z1.1.pc = (7 : Int)) then
          (port_look N a0 a1 z1.1).bind fun z35 =>
          some z35
        else
          bif decide (z1.1.pc = (6 : Int)) then
            (idx a0.C a1).bind fun y36 =>
            (core_Set N a0 a1 ({ z1.1 with pc := (w64 (z1.1.pc + (1 : Int))) })).bind fun z37 =>
            (core_Call N z37 a1 25 ([z1.1.r1, z1.1.r3])).bind fun z38 =>
            some z38
          else
            bif decide (z1.1.pc = (5 : Int)) then
              (port_look N a0 a1 z1.1).bind fun z39 =>
              some z39
            else
              bif decide (z1.1.pc = (4 : Int)) then
                (port_look N a0 a1 z1.1).bind fun z40 =>
                some z40
              else
                bif decide (z1.1.pc = (3 : Int)) then
                  (port_look N a0 a1 z1.1).bind fun z41 =>
                  some z41
                else
                  bif decide (z1.1.pc = (2 : Int)) then
                    (idx a0.C a1).bind fun y42 =>
                    bif y42.E != (0 : Int) then
                      (core_Back N a0 a1 0 y42.E).bind fun z43 =>
                      some z43
                    else
                      (msq_Spot N z1.1.r0).bind fun z44 =>
                      (core_Set N a0 a1 ({ z1.1 with pc := (w64 (z1.1.pc + (1 : Int))), r3 := y42.V })).bind fun z45 =>
                      (core_Call N z45 a1 3 ([z44, 0])).bind fun z46 =>
                      some z46
                  else
                    bif decide (z1.1.pc = (1 : Int)) then
                      (idx a0.C a1).bind fun y47 =>
                      bif y47.E == (0 : Int) then
                        (core_Back N a0 a1 y47.V 0).bind fun z48 =>
                        some z48
                      else
                        (core_Set N a0 a1 ({ z1.1 with pc := (w64 (z1.1.pc + (1 : Int))) })).bind fun z49 =>
                        (core_Call N z49 a1 24 ([z1.1.r1, z1.1.r0])).bind fun z50 =>
                        some z50
                    else
                      bif decide (z1.1.pc = (0 : Int)) then
                        (idx a0.C a1).bind fun y51 =>
                        (core_Set N a0 a1 ({ z1.1 with pc := (w64 (z1.1.pc + (1 : Int))) })).bind fun z52 =>
                        (core_Call N z52 a1 10 ([z1.1.r0])).bind fun z53 =>
                        some z53
                      else none
      else
        (port_isPort N z1.1.r0).bind fun z54 =>
        bif !z54 then some a0 else
        bif decide (z1.1.pc < (0 : Int)) then some a0 else
        bif decide (z1.1.pc ≥ (3 : Int)) then some a0 else
        bif decide (z1.1.pc = (2 : Int)) then
          (idx a0.C a1).bind fun y55 =>
          (core_Back N a0 a1 0 0).bind fun z56 =>
          some z56
        else
          bif decide (z1.1.pc = (1 : Int)) then
            (idx a0.C a1).bind fun y57 =>
            bif y57.E != (0 : Int) then
              (core_Back N a0 a1 0 y57.E).bind fun z58 =>
              some z58
            else
              (core_Set N a0 a1 ({ z1.1 with pc := (w64 (z1.1.pc + (1 : Int))) })).bind fun z59 =>
              (core_Call N z59 a1 26 ([z1.1.r0, z1.1.r2])).bind fun z60 =>
              some z60
          else
            bif decide (z1.1.pc = (0 : Int)) then
              (idx a0.C a1).bind fun y61 =>
              (core_Set N a0 a1 ({ z1.1 with pc := (w64 (z1.1.pc + (1 : Int))) })).bind fun z62 =>
              (core_Call N z62 a1 9 ([z1.1.r0, z1.1.r1])).bind fun z63 =>
              some z63
            else none

/- hazel/hazelref03.With -/
def r03_With (N : Nat) (a0 : SysD) (a1 : Int) (a2 : CoreD) : Option (SysD) :=
  bif decide (0 + a0.C.length ≤ most) then
    bif (decide ((0 : Int) ≤ a1)) && (decide (a1 < (([] ++ a0.C).length : Int))) then
      (([] ++ a0.C)[a1.toNat]?).bind fun y1 =>
      some ({ a0 with C := ([] ++ a0.C).set a1.toNat a2 })
    else none
  else none

/- hazel/hazelref03.Call -/
def r03_Call (N : Nat) (a0 : SysD) (a1 : Int) (a2 : Int) (a3 : Int) (a4 : Int) (a5 : Int) : Option (SysD) :=
  bif decide (a1 < (0 : Int)) then some a0 else
  bif decide (a1 ≥ (a0.C.length : Int)) then some a0 else
  (idx a0.C a1).bind fun y1 =>
  bif decide ((y1.F.length : Int) ≥ (40 : Int)) then some a0 else
  (idx a0.C a1).bind fun y2 =>
  bif decide (0 + y2.F.length ≤ most) then
    bif decide ((([] ++ y2.F).length) + 1 ≤ most) then
      (r03_With N a0 a1 ({ y2 with F := ([] ++ y2.F) ++ ([(⟨a2, 0, a3, a4, a5, 0, 0, 0, 0, 0, []⟩ : FrameD)]) })).bind fun z3 =>
      some z3
    else none
  else none

/- hazel/hazellaw14.alone -/
def law14_alone_L0_st (N : Nat) (nx : (Int × (List Int) × (List Int) × Bool × (List CoreD) × (List EvD) × Bool) → Option (((List Int) × (List Int) × Bool × (List CoreD) × (List EvD) × Bool) ⊕ (Empty))) (x : Int × (List Int) × (List Int) × Bool × (List CoreD) × (List EvD) × Bool) : Option (((List Int) × (List Int) × Bool × (List CoreD) × (List EvD) × Bool) ⊕ (Empty)) :=
  bif decide (x.1 < (120 : Int)) then
    (port_Step N (⟨⟨x.2.1, x.2.2.1, x.2.2.2.1⟩, x.2.2.2.2.1, x.2.2.2.2.2.1⟩) 0).bind fun z1 =>
    nx (w64 (x.1 + (1 : Int)), z1.M.W, z1.M.G, z1.M.bad, z1.C, z1.L, x.2.2.2.2.2.2)
  else
    some (.inl (x.2.1, x.2.2.1, x.2.2.2.1, x.2.2.2.2.1, x.2.2.2.2.2.1, x.2.2.2.2.2.2))
def law14_alone_L0 (N : Nat) (x : Int × (List Int) × (List Int) × Bool × (List CoreD) × (List EvD) × Bool) : Option (((List Int) × (List Int) × Bool × (List CoreD) × (List EvD) × Bool) ⊕ (Empty)) := natIter (law14_alone_L0_st N) N x

def law14_alone (N : Nat) (a0 : SysD) (a1 : Int) (a2 : Int) (a3 : Int) (a4 : Int) : Option (SysD) :=
  (r03_Call N a0 0 a1 a2 a3 a4).bind fun z1 =>
  (law14_alone_L0 N ((0 : Int), z1.M.W, z1.M.G, z1.M.bad, z1.C, z1.L, false)).bind fun l2 =>
  brS l2 (fun l2a =>
    some (⟨⟨l2a.1, l2a.2.1, l2a.2.2.1⟩, l2a.2.2.2.1, l2a.2.2.2.2.1⟩)) (fun l2b =>
    none)

/- hazel/hazelref02.Ints -/
def r02_Ints_L0_st (N : Nat) (nx : ((List Int) × (List Int) × Int) → Option ((Bool) ⊕ (Unit))) (x : (List Int) × (List Int) × Int) : Option ((Bool) ⊕ (Unit)) :=
  bif decide (x.2.2 < (x.1.length : Int)) then
    (idx x.1 x.2.2).bind fun y1 =>
    (idx x.2.1 x.2.2).bind fun y2 =>
    bif y1 != y2 then some (.inl false) else
    nx (x.1, x.2.1, w64 (x.2.2 + (1 : Int)))
  else
    some (.inr ())
def r02_Ints_L0 (N : Nat) (x : (List Int) × (List Int) × Int) : Option ((Bool) ⊕ (Unit)) := natIter (r02_Ints_L0_st N) N x

def r02_Ints (N : Nat) (a0 : List Int) (a1 : List Int) : Option (Bool) :=
  bif (a0.length : Int) != (a1.length : Int) then some false else
  (r02_Ints_L0 N (a0, a1, (0 : Int))).bind fun l1 =>
  brS l1 (fun l1a =>
    some l1a) (fun l1b =>
    some true)

/- hazel/thr.State -/
def thr_State (N : Nat) (a0 : SysD) (a1 : Int) : Option (Int) :=
  (thr_below N a1 16).bind fun z1 =>
  bif !z1 then some (0 : Int) else
  (idx a0.M.W (w64 ((96 : Int) + a1))).bind fun y2 =>
  (pack_Index N y2).bind fun z3 =>
  some z3

/- hazel/port.Waits -/
def port_Waits_L0_st (N : Nat) (nx : (Int × Int × (List Int) × (List Int) × Bool × (List CoreD) × (List EvD) × (List Int)) → Option (((List Int) × (List Int) × Bool × (List CoreD) × (List EvD) × (List Int)) ⊕ (Empty))) (x : Int × Int × (List Int) × (List Int) × Bool × (List CoreD) × (List EvD) × (List Int)) : Option (((List Int) × (List Int) × Bool × (List CoreD) × (List EvD) × (List Int)) ⊕ (Empty)) :=
  bif decide (x.2.1 < (16 : Int)) then
    (port_isPort N x.1).bind fun z1 =>
    bif z1 then
      (thr_State N (⟨⟨x.2.2.1, x.2.2.2.1, x.2.2.2.2.1⟩, x.2.2.2.2.2.1, x.2.2.2.2.2.2.1⟩) x.2.1).bind fun z2 =>
      bif z2 == (w64 ((8 : Int) + x.1)) then
        bif decide (x.2.2.2.2.2.2.2.length + 1 ≤ most) then
          nx (x.1, w64 (x.2.1 + (1 : Int)), x.2.2.1, x.2.2.2.1, x.2.2.2.2.1, x.2.2.2.2.2.1, x.2.2.2.2.2.2.1, x.2.2.2.2.2.2.2 ++ ([x.2.1]))
        else none
      else
        nx (x.1, w64 (x.2.1 + (1 : Int)), x.2.2.1, x.2.2.2.1, x.2.2.2.2.1, x.2.2.2.2.2.1, x.2.2.2.2.2.2.1, x.2.2.2.2.2.2.2)
    else
      some (.inl (x.2.2.1, x.2.2.2.1, x.2.2.2.2.1, x.2.2.2.2.2.1, x.2.2.2.2.2.2.1, x.2.2.2.2.2.2.2))
  else
    some (.inl (x.2.2.1, x.2.2.2.1, x.2.2.2.2.1, x.2.2.2.2.2.1, x.2.2.2.2.2.2.1, x.2.2.2.2.2.2.2))
def port_Waits_L0 (N : Nat) (x : Int × Int × (List Int) × (List Int) × Bool × (List CoreD) × (List EvD) × (List Int)) : Option (((List Int) × (List Int) × Bool × (List CoreD) × (List EvD) × (List Int)) ⊕ (Empty)) := natIter (port_Waits_L0_st N) N x

def port_Waits (N : Nat) (a0 : SysD) (a1 : Int) : Option ((List Int)) :=
  (port_Waits_L0 N (a1, (0 : Int), a0.M.W, a0.M.G, a0.M.bad, a0.C, a0.L, [])).bind fun l1 =>
  brS l1 (fun l1a =>
    some l1a.2.2.2.2.2) (fun l1b =>
    none)

/- hazel/port.Idle$1 -/
def port_Idle_1 (N : Nat) (a0 : CoreD) : Option (Bool) :=
  some (decide ((a0.F.length : Int) > (0 : Int)))

/- hazel/port.Idle -/
def port_Idle_Lslices_IndexFunc_Core_0_st (N : Nat) (nx : ((List CoreD) × Int × Int × (List Int) × (List Int) × Bool × (List CoreD) × (List EvD)) → Option ((Int × (List Int) × (List Int) × Bool × (List CoreD) × (List EvD)) ⊕ ((List Int) × (List Int) × Bool × (List CoreD) × (List EvD)))) (x : (List CoreD) × Int × Int × (List Int) × (List Int) × Bool × (List CoreD) × (List EvD)) : Option ((Int × (List Int) × (List Int) × Bool × (List CoreD) × (List EvD)) ⊕ ((List Int) × (List Int) × Bool × (List CoreD) × (List EvD))) :=
  bif decide (x.2.2.1 < x.2.1) then
    (idx x.1 x.2.2.1).bind fun y1 =>
    (port_Idle_1 N y1).bind fun z2 =>
    bif z2 then
      some (.inl (x.2.2.1, x.2.2.2.1, x.2.2.2.2.1, x.2.2.2.2.2.1, x.2.2.2.2.2.2.1, x.2.2.2.2.2.2.2))
    else
      nx (x.1, x.2.1, w64 (x.2.2.1 + (1 : Int)), x.2.2.2.1, x.2.2.2.2.1, x.2.2.2.2.2.1, x.2.2.2.2.2.2.1, x.2.2.2.2.2.2.2)
  else
    some (.inr (x.2.2.2.1, x.2.2.2.2.1, x.2.2.2.2.2.1, x.2.2.2.2.2.2.1, x.2.2.2.2.2.2.2))
def port_Idle_Lslices_IndexFunc_Core_0 (N : Nat) (x : (List CoreD) × Int × Int × (List Int) × (List Int) × Bool × (List CoreD) × (List EvD)) : Option ((Int × (List Int) × (List Int) × Bool × (List CoreD) × (List EvD)) ⊕ ((List Int) × (List Int) × Bool × (List CoreD) × (List EvD))) := natIter (port_Idle_Lslices_IndexFunc_Core_0_st N) N x

def port_Idle (N : Nat) (a0 : SysD) : Option (Bool) :=
  (port_Idle_Lslices_IndexFunc_Core_0 N (a0.C, (a0.C.length : Int), (0 : Int), a0.M.W, a0.M.G, a0.M.bad, a0.C, a0.L)).bind fun l1 =>
  brS l1 (fun l1a =>
    some (!(decide (l1a.1 ≥ (0 : Int))))) (fun l1b =>
    some true)

/- hazel/hazellaw14.shown -/
def law14_shown (N : Nat) : Option (Bool) :=
  (r04_Fill N (⟨List.replicate 164 (0 : Int), [0, 0, 0, 0, 0, 0, 0, 0, 0, 0], false⟩)).bind fun z1 =>
  (r03_Mem N (⟨⟨List.replicate 164 (0 : Int), [0, 0, 0, 0, 0, 0, 0, 0, 0, 0], false⟩, [(⟨[], 0, 0, 0, 0, 0, []⟩ : CoreD)], []⟩) z1).bind fun z2 =>
  (r08_Make N z2 2).bind fun z3 =>
  (r13_Make N z3.1 5 0).bind fun z4 =>
  (law14_alone N z4.1 23 0 0 0).bind fun z5 =>
  (law14_alone N z5 29 2 5 0).bind fun z6 =>
  (law14_alone N z6 28 2 77 0).bind fun z7 =>
  (law14_alone N z7 23 0 0 0).bind fun z8 =>
  (law14_alone N z8 29 2 5 0).bind fun z9 =>
  bif (z6.C.length : Int) != (1 : Int) then some false else
  bif (z7.C.length : Int) != (1 : Int) then some false else
  bif (z9.C.length : Int) != (1 : Int) then some false else
  (idx z6.C (0 : Int)).bind fun y10 =>
  (idx z7.C (0 : Int)).bind fun y11 =>
  (idx z9.C (0 : Int)).bind fun y12 =>
  bif decide ((w64 ((w64 ((y10.F.length : Int) + (y11.F.length : Int))) + (y12.F.length : Int))) > (0 : Int)) then some false else
  (idx z6.C (0 : Int)).bind fun y13 =>
  bif y13.E == (6 : Int) then
    (port_Waits N z6 2).bind fun z14 =>
    (r02_Ints N z14 ([5])).bind fun z15 =>
    bif z15 then
      (idx z7.C (0 : Int)).bind fun y16 =>
      bif y16.E == (0 : Int) then
        (port_Waits N z7 2).bind fun z17 =>
        bif (z17.length : Int) == (0 : Int) then
          (idx z9.C (0 : Int)).bind fun y18 =>
          bif y18.E == (0 : Int) then
            (idx z9.C (0 : Int)).bind fun y19 =>
            bif y19.V == (77 : Int) then
              (port_Idle N z9).bind fun z20 =>
              bif z20 then some true else
              some false
            else
              some false
          else
            some false
        else
          some false
      else
        some false
    else
      some false
  else
    some false

/- hazel/hazelref13.State -/
def r13_State (N : Nat) (a0 : SysD) (a1 : Int) : Option (Int) :=
  bif decide (a1 < (0 : Int)) then some (0 : Int) else
  bif decide (a1 > (15 : Int)) then some (0 : Int) else
  (idx a0.M.W (w64 ((96 : Int) + a1))).bind fun y1 =>
  (r01_Index N y1).bind fun z2 =>
  some z2

/- hazel/hazelref13.Mask -/
def r13_Mask_L0_st (N : Nat) (nx : (Int × Int × (List Int) × (List Int) × Bool × (List CoreD) × (List EvD) × (List Int)) → Option (((List Int) × (List Int) × Bool × (List CoreD) × (List EvD) × (List Int)) ⊕ (Empty))) (x : Int × Int × (List Int) × (List Int) × Bool × (List CoreD) × (List EvD) × (List Int)) : Option (((List Int) × (List Int) × Bool × (List CoreD) × (List EvD) × (List Int)) ⊕ (Empty)) :=
  bif decide (x.2.1 < (16 : Int)) then
    bif decide (x.1 ≥ (0 : Int)) then
      bif decide (x.1 < (x.2.2.1.length : Int)) then
        (idx x.2.2.1 x.1).bind fun y1 =>
        (r13_Has N y1 x.2.1).bind fun z2 =>
        bif z2 then
          bif decide (x.2.2.2.2.2.2.2.length + 1 ≤ most) then
            nx (x.1, w64 (x.2.1 + (1 : Int)), x.2.2.1, x.2.2.2.1, x.2.2.2.2.1, x.2.2.2.2.2.1, x.2.2.2.2.2.2.1, x.2.2.2.2.2.2.2 ++ ([x.2.1]))
          else none
        else
          nx (x.1, w64 (x.2.1 + (1 : Int)), x.2.2.1, x.2.2.2.1, x.2.2.2.2.1, x.2.2.2.2.2.1, x.2.2.2.2.2.2.1, x.2.2.2.2.2.2.2)
      else
        some (.inl (x.2.2.1, x.2.2.2.1, x.2.2.2.2.1, x.2.2.2.2.2.1, x.2.2.2.2.2.2.1, x.2.2.2.2.2.2.2))
    else
      some (.inl (x.2.2.1, x.2.2.2.1, x.2.2.2.2.1, x.2.2.2.2.2.1, x.2.2.2.2.2.2.1, x.2.2.2.2.2.2.2))
  else
    some (.inl (x.2.2.1, x.2.2.2.1, x.2.2.2.2.1, x.2.2.2.2.2.1, x.2.2.2.2.2.2.1, x.2.2.2.2.2.2.2))
def r13_Mask_L0 (N : Nat) (x : Int × Int × (List Int) × (List Int) × Bool × (List CoreD) × (List EvD) × (List Int)) : Option (((List Int) × (List Int) × Bool × (List CoreD) × (List EvD) × (List Int)) ⊕ (Empty)) := natIter (r13_Mask_L0_st N) N x

def r13_Mask (N : Nat) (a0 : SysD) (a1 : Int) : Option ((List Int)) :=
  (r13_Mask_L0 N (a1, (0 : Int), a0.M.W, a0.M.G, a0.M.bad, a0.C, a0.L, [])).bind fun l1 =>
  brS l1 (fun l1a =>
    some l1a.2.2.2.2.2) (fun l1b =>
    none)

/- hazel/hazellaw14.PortPairs -/
def law14_PortPairs (N : Nat) (a0 : Int) (a1 : Int) (a2 : Bool) : Option (Bool) :=
  (law14_shown N).bind fun z1 =>
  bif decide (a1 < (-1099511627776 : Int)) then some z1 else
  bif decide (a1 > (1099511627776 : Int)) then some z1 else
  (r04_Fill N (⟨List.replicate 164 (0 : Int), [0, 0, 0, 0, 0, 0, 0, 0, 0, 0], false⟩)).bind fun z2 =>
  (r03_Mem N (⟨⟨List.replicate 164 (0 : Int), [0, 0, 0, 0, 0, 0, 0, 0, 0, 0], false⟩, [(⟨[], 0, 0, 0, 0, 0, []⟩ : CoreD)], []⟩) z2).bind fun z3 =>
  (r08_Make N z3 (Int.tmod (w64 (a0)) (8 : Int))).bind fun z4 =>
  (r13_Make N z4.1 0 0).bind fun z5 =>
  (r13_Make N z5.1 1 0).bind fun z6 =>
  (law14_alone N z6.1 23 0 0 0).bind fun z7 =>
  (law14_alone N z7 23 0 0 0).bind fun z8 =>
  bif z4.2 != (0 : Int) then some false else
  bif (z8.C.length : Int) != (1 : Int) then some false else
  bif a2 then
    (law14_alone N z8 28 (Int.tmod (w64 (a0)) (8 : Int)) a1 0).bind fun z9 =>
    (law14_alone N z9 29 (Int.tmod (w64 (a0)) (8 : Int)) 0 0).bind fun z10 =>
    bif z1 then
      bif (z10.C.length : Int) == (1 : Int) then
        (idx z10.C (0 : Int)).bind fun y11 =>
        bif y11.E == (0 : Int) then
          (idx z10.C (0 : Int)).bind fun y12 =>
          bif y12.V == a1 then
            (r13_State N z10 0).bind fun z13 =>
            some (z13 == (2 : Int))
          else
            some false
        else
          some false
      else
        some false
    else
      some false
  else
    (law14_alone N z8 29 (Int.tmod (w64 (a0)) (8 : Int)) 0 0).bind fun z14 =>
    (law14_alone N z14 28 (Int.tmod (w64 (a0)) (8 : Int)) a1 0).bind fun z15 =>
    bif (z14.C.length : Int) != (1 : Int) then some false else
    bif (z15.C.length : Int) != (1 : Int) then some false else
    (idx z14.C (0 : Int)).bind fun y16 =>
    bif y16.E != (6 : Int) then some false else
    (port_Waits N z14 (Int.tmod (w64 (a0)) (8 : Int))).bind fun z17 =>
    (r02_Ints N z17 ([0])).bind fun z18 =>
    bif !z18 then some false else
    (port_Waits N z15 (Int.tmod (w64 (a0)) (8 : Int))).bind fun z19 =>
    bif decide ((z19.length : Int) > (0 : Int)) then some false else
    (r13_Mask N z15 112).bind fun z20 =>
    (r02_Ints N z20 ([0])).bind fun z21 =>
    bif !z21 then some false else
    (law14_alone N z15 23 0 0 0).bind fun z22 =>
    (law14_alone N z22 29 (Int.tmod (w64 (a0)) (8 : Int)) 0 0).bind fun z23 =>
    bif z1 then
      bif (z23.C.length : Int) == (1 : Int) then
        (idx z23.C (0 : Int)).bind fun y24 =>
        bif y24.E == (0 : Int) then
          (idx z23.C (0 : Int)).bind fun y25 =>
          bif y25.V == a1 then
            (port_Idle N z23).bind fun z26 =>
            some z26
          else
            some false
        else
          some false
      else
        some false
    else
      some false

/- hazel/hazelref02.Small -/
def r02_Small (N : Nat) (a0 : MemD) (a1 : Int) : Option (Bool) :=
  bif decide ((a0.G.length : Int) ≤ (w64 (a1 + (1 : Int)))) then some (decide ((a0.W.length : Int) ≤ (w64 ((128 : Int) + (w64 ((4 : Int) * a1)))))) else
  some false

/- hazel/hazelref03.Small -/
def r03_Small_L2_st (N : Nat) (nx : (Int × Int × (List Int) × (List Int) × Bool × (List CoreD) × (List EvD)) → Option ((Bool) ⊕ (Int × (List Int) × (List Int) × Bool × (List CoreD) × (List EvD)))) (x : Int × Int × (List Int) × (List Int) × Bool × (List CoreD) × (List EvD)) : Option ((Bool) ⊕ (Int × (List Int) × (List Int) × Bool × (List CoreD) × (List EvD))) :=
  (idx x.2.2.2.2.2.1 x.1).bind fun y1 =>
  bif decide (x.2.1 < (y1.F.length : Int)) then
    (idx x.2.2.2.2.2.1 x.1).bind fun y2 =>
    (idx y2.F x.2.1).bind fun y3 =>
    bif decide ((y3.S.length : Int) > (30 : Int)) then some (.inl false) else
    nx (x.1, w64 (x.2.1 + (1 : Int)), x.2.2.1, x.2.2.2.1, x.2.2.2.2.1, x.2.2.2.2.2.1, x.2.2.2.2.2.2)
  else
    some (.inr (x.1, x.2.2.1, x.2.2.2.1, x.2.2.2.2.1, x.2.2.2.2.2.1, x.2.2.2.2.2.2))
def r03_Small_L2 (N : Nat) (x : Int × Int × (List Int) × (List Int) × Bool × (List CoreD) × (List EvD)) : Option ((Bool) ⊕ (Int × (List Int) × (List Int) × Bool × (List CoreD) × (List EvD))) := natIter (r03_Small_L2_st N) N x

def r03_Small_L0_st (N : Nat) (nx : (Int × (List Int) × (List Int) × Bool × (List CoreD) × (List EvD)) → Option ((Bool) ⊕ ((List Int) × (List Int) × Bool × (List CoreD) × (List EvD)))) (x : Int × (List Int) × (List Int) × Bool × (List CoreD) × (List EvD)) : Option ((Bool) ⊕ ((List Int) × (List Int) × Bool × (List CoreD) × (List EvD))) :=
  bif decide (x.1 < (x.2.2.2.2.1.length : Int)) then
    (idx x.2.2.2.2.1 x.1).bind fun y1 =>
    bif decide ((y1.F.length : Int) > (45 : Int)) then some (.inl false) else
    (idx x.2.2.2.2.1 x.1).bind fun y2 =>
    bif decide ((y2.Ret.length : Int) > (210 : Int)) then some (.inl false) else
    (r03_Small_L2 N (x.1, (0 : Int), x.2.1, x.2.2.1, x.2.2.2.1, x.2.2.2.2.1, x.2.2.2.2.2)).bind fun l3 =>
    brS l3 (fun l3a =>
      some (.inl l3a)) (fun l3b =>
      nx (w64 (l3b.1 + (1 : Int)), l3b.2.1, l3b.2.2.1, l3b.2.2.2.1, l3b.2.2.2.2.1, l3b.2.2.2.2.2))
  else
    some (.inr (x.2.1, x.2.2.1, x.2.2.2.1, x.2.2.2.2.1, x.2.2.2.2.2))
def r03_Small_L0 (N : Nat) (x : Int × (List Int) × (List Int) × Bool × (List CoreD) × (List EvD)) : Option ((Bool) ⊕ ((List Int) × (List Int) × Bool × (List CoreD) × (List EvD))) := natIter (r03_Small_L0_st N) N x

def r03_Small (N : Nat) (a0 : SysD) (a1 : Int) : Option (Bool) :=
  (r02_Small N a0.M a1).bind fun z1 =>
  bif !z1 then some false else
  bif decide ((a0.C.length : Int) > (9 : Int)) then some false else
  bif decide ((a0.L.length : Int) > (200 : Int)) then some false else
  (r03_Small_L0 N ((0 : Int), a0.M.W, a0.M.G, a0.M.bad, a0.C, a0.L)).bind fun l2 =>
  brS l2 (fun l2a =>
    some l2a) (fun l2b =>
    some true)

/- hazel/hazelref02.Right -/
def r02_Right_L0_st (N : Nat) (nx : (Int × Int × (List Int) × (List Int) × Bool) → Option ((Bool) ⊕ ((List Int) × (List Int) × Bool))) (x : Int × Int × (List Int) × (List Int) × Bool) : Option ((Bool) ⊕ ((List Int) × (List Int) × Bool)) :=
  bif decide (x.2.1 ≤ x.1) then
    (idx x.2.2.2.1 x.2.1).bind fun y1 =>
    bif decide (y1 < (0 : Int)) then some (.inl false) else
    (idx x.2.2.2.1 x.2.1).bind fun y2 =>
    bif decide (y2 > (2 : Int)) then some (.inl false) else
    nx (x.1, w64 (x.2.1 + (1 : Int)), x.2.2.1, x.2.2.2.1, x.2.2.2.2)
  else
    some (.inr (x.2.2.1, x.2.2.2.1, x.2.2.2.2))
def r02_Right_L0 (N : Nat) (x : Int × Int × (List Int) × (List Int) × Bool) : Option ((Bool) ⊕ ((List Int) × (List Int) × Bool)) := natIter (r02_Right_L0_st N) N x

def r02_Right (N : Nat) (a0 : MemD) : Option (Bool) :=
  bif decide ((w64 ((a0.G.length : Int) - (1 : Int))) < (1 : Int)) then some false else
  bif decide ((w64 ((a0.G.length : Int) - (1 : Int))) > (200 : Int)) then some false else
  bif (a0.W.length : Int) != (w64 ((128 : Int) + (w64 ((4 : Int) * (w64 ((a0.G.length : Int) - (1 : Int))))))) then some false else
  (idx a0.G (0 : Int)).bind fun y1 =>
  bif y1 != (0 : Int) then some false else
  (r02_Right_L0 N (w64 ((a0.G.length : Int) - (1 : Int)), (0 : Int), a0.W, a0.G, a0.bad)).bind fun l2 =>
  brS l2 (fun l2a =>
    some l2a) (fun l2b =>
    some true)

/- hazel/hazelref03.near -/
def r03_near (N : Nat) (a0 : Int) : Option (Bool) :=
  bif decide (a0 ≥ (-2305843009213693952 : Int)) then some (decide (a0 ≤ (2305843009213693952 : Int))) else
  some false

/- hazel/hazelref03.core -/
def r03_core_L0_st (N : Nat) (nx : (Int × (List FrameD) × Int × Int × Int × Int × Int × (List Int)) → Option ((Bool) ⊕ ((List FrameD) × Int × Int × Int × Int × Int × (List Int)))) (x : Int × (List FrameD) × Int × Int × Int × Int × Int × (List Int)) : Option ((Bool) ⊕ ((List FrameD) × Int × Int × Int × Int × Int × (List Int))) :=
  bif decide (x.1 < (x.2.1.length : Int)) then
    (idx x.2.1 x.1).bind fun y1 =>
    (r03_near N y1.r0).bind fun z2 =>
    bif !z2 then some (.inl false) else
    (idx x.2.1 x.1).bind fun y3 =>
    (r03_near N y3.r1).bind fun z4 =>
    bif !z4 then some (.inl false) else
    (idx x.2.1 x.1).bind fun y5 =>
    (r03_near N y5.r2).bind fun z6 =>
    bif !z6 then some (.inl false) else
    (idx x.2.1 x.1).bind fun y7 =>
    (r03_near N y7.r3).bind fun z8 =>
    bif !z8 then some (.inl false) else
    (idx x.2.1 x.1).bind fun y9 =>
    (r03_near N y9.r4).bind fun z10 =>
    bif !z10 then some (.inl false) else
    (idx x.2.1 x.1).bind fun y11 =>
    (r03_near N y11.r5).bind fun z12 =>
    bif !z12 then some (.inl false) else
    (idx x.2.1 x.1).bind fun y13 =>
    (r03_near N y13.r6).bind fun z14 =>
    bif !z14 then some (.inl false) else
    (idx x.2.1 x.1).bind fun y15 =>
    (r03_near N y15.r7).bind fun z16 =>
    bif !z16 then some (.inl false) else
    nx (w64 (x.1 + (1 : Int)), x.2.1, x.2.2.1, x.2.2.2.1, x.2.2.2.2.1, x.2.2.2.2.2.1, x.2.2.2.2.2.2.1, x.2.2.2.2.2.2.2)
  else
    some (.inr (x.2.1, x.2.2.1, x.2.2.2.1, x.2.2.2.2.1, x.2.2.2.2.2.1, x.2.2.2.2.2.2.1, x.2.2.2.2.2.2.2))
def r03_core_L0 (N : Nat) (x : Int × (List FrameD) × Int × Int × Int × Int × Int × (List Int)) : Option ((Bool) ⊕ ((List FrameD) × Int × Int × Int × Int × Int × (List Int))) := natIter (r03_core_L0_st N) N x

def r03_core (N : Nat) (a0 : CoreD) : Option (Bool) :=
  (r03_near N a0.V).bind fun z1 =>
  bif !z1 then some false else
  (r03_near N a0.x0).bind fun z2 =>
  bif !z2 then some false else
  (r03_near N a0.x1).bind fun z3 =>
  bif !z3 then some false else
  (r03_near N a0.x2).bind fun z4 =>
  bif !z4 then some false else
  (r03_core_L0 N ((0 : Int), a0.F, a0.V, a0.E, a0.x0, a0.x1, a0.x2, a0.Ret)).bind fun l5 =>
  brS l5 (fun l5a =>
    some l5a) (fun l5b =>
    some true)

/- hazel/hazelref03.Right -/
def r03_Right_L2_st (N : Nat) (nx : (Int × Int × (List Int) × (List Int) × Bool × (List CoreD) × (List EvD)) → Option ((Bool) ⊕ (Int × (List Int) × (List Int) × Bool × (List CoreD) × (List EvD)))) (x : Int × Int × (List Int) × (List Int) × Bool × (List CoreD) × (List EvD)) : Option ((Bool) ⊕ (Int × (List Int) × (List Int) × Bool × (List CoreD) × (List EvD))) :=
  (idx x.2.2.2.2.2.1 x.1).bind fun y1 =>
  bif decide (x.2.1 < (y1.F.length : Int)) then
    (idx x.2.2.2.2.2.1 x.1).bind fun y2 =>
    (idx y2.F x.2.1).bind fun y3 =>
    bif decide ((y3.S.length : Int) > (24 : Int)) then some (.inl false) else
    nx (x.1, w64 (x.2.1 + (1 : Int)), x.2.2.1, x.2.2.2.1, x.2.2.2.2.1, x.2.2.2.2.2.1, x.2.2.2.2.2.2)
  else
    some (.inr (x.1, x.2.2.1, x.2.2.2.1, x.2.2.2.2.1, x.2.2.2.2.2.1, x.2.2.2.2.2.2))
def r03_Right_L2 (N : Nat) (x : Int × Int × (List Int) × (List Int) × Bool × (List CoreD) × (List EvD)) : Option ((Bool) ⊕ (Int × (List Int) × (List Int) × Bool × (List CoreD) × (List EvD))) := natIter (r03_Right_L2_st N) N x

def r03_Right_L0_st (N : Nat) (nx : (Int × (List Int) × (List Int) × Bool × (List CoreD) × (List EvD)) → Option ((Bool) ⊕ ((List Int) × (List Int) × Bool × (List CoreD) × (List EvD)))) (x : Int × (List Int) × (List Int) × Bool × (List CoreD) × (List EvD)) : Option ((Bool) ⊕ ((List Int) × (List Int) × Bool × (List CoreD) × (List EvD))) :=
  bif decide (x.1 < (x.2.2.2.2.1.length : Int)) then
    (idx x.2.2.2.2.1 x.1).bind fun y1 =>
    (r03_core N y1).bind fun z2 =>
    bif !z2 then some (.inl false) else
    (idx x.2.2.2.2.1 x.1).bind fun y3 =>
    bif decide ((y3.F.length : Int) > (40 : Int)) then some (.inl false) else
    (idx x.2.2.2.2.1 x.1).bind fun y4 =>
    bif decide ((y4.Ret.length : Int) > (200 : Int)) then some (.inl false) else
    (r03_Right_L2 N (x.1, (0 : Int), x.2.1, x.2.2.1, x.2.2.2.1, x.2.2.2.2.1, x.2.2.2.2.2)).bind fun l5 =>
    brS l5 (fun l5a =>
      some (.inl l5a)) (fun l5b =>
      nx (w64 (l5b.1 + (1 : Int)), l5b.2.1, l5b.2.2.1, l5b.2.2.2.1, l5b.2.2.2.2.1, l5b.2.2.2.2.2))
  else
    some (.inr (x.2.1, x.2.2.1, x.2.2.2.1, x.2.2.2.2.1, x.2.2.2.2.2))
def r03_Right_L0 (N : Nat) (x : Int × (List Int) × (List Int) × Bool × (List CoreD) × (List EvD)) : Option ((Bool) ⊕ ((List Int) × (List Int) × Bool × (List CoreD) × (List EvD))) := natIter (r03_Right_L0_st N) N x

def r03_Right (N : Nat) (a0 : SysD) : Option (Bool) :=
  (r02_Right N a0.M).bind fun z1 =>
  bif !z1 then some false else
  bif decide ((a0.C.length : Int) < (1 : Int)) then some false else
  bif decide ((a0.C.length : Int) > (8 : Int)) then some false else
  (r03_Right_L0 N ((0 : Int), a0.M.W, a0.M.G, a0.M.bad, a0.C, a0.L)).bind fun l2 =>
  brS l2 (fun l2a =>
    some l2a) (fun l2b =>
    some true)

/- hazel/hazelref03.May -/
def r03_May (N : Nat) (a0 : SysD) (a1 : Int) : Option (Bool) :=
  (r03_Small N a0 a1).bind fun z1 =>
  bif z1 then
    (r03_Right N a0).bind fun z2 =>
    some z2
  else
    some false

/- hazel/hazelref04.In -/
def r04_In_L0_st (N : Nat) (nx : ((List Int) × Int × Int) → Option ((Bool) ⊕ (Unit))) (x : (List Int) × Int × Int) : Option ((Bool) ⊕ (Unit)) :=
  bif decide (x.2.2 < (x.1.length : Int)) then
    (idx x.1 x.2.2).bind fun y1 =>
    bif y1 == x.2.1 then some (.inl true) else
    nx (x.1, x.2.1, w64 (x.2.2 + (1 : Int)))
  else
    some (.inr ())
def r04_In_L0 (N : Nat) (x : (List Int) × Int × Int) : Option ((Bool) ⊕ (Unit)) := natIter (r04_In_L0_st N) N x

def r04_In (N : Nat) (a0 : List Int) (a1 : Int) : Option (Bool) :=
  (r04_In_L0 N (a0, a1, (0 : Int))).bind fun l1 =>
  brS l1 (fun l1a =>
    some l1a) (fun l1b =>
    some false)

/- hazel/hazellaw14.PortCounts -/
def law14_PortCounts_L2_st (N : Nat) (nx : (Bool × Int × Int × Int × (List Int) × (List Int) × Bool × (List CoreD) × (List EvD)) → Option ((Bool × Int × Int × (List Int) × (List Int) × Bool × (List CoreD) × (List EvD)) ⊕ (Empty))) (x : Bool × Int × Int × Int × (List Int) × (List Int) × Bool × (List CoreD) × (List EvD)) : Option ((Bool × Int × Int × (List Int) × (List Int) × Bool × (List CoreD) × (List EvD)) ⊕ (Empty)) :=
  bif decide (x.2.2.2.1 < (9 : Int)) then
    (port_Waits N (⟨⟨x.2.2.2.2.1, x.2.2.2.2.2.1, x.2.2.2.2.2.2.1⟩, x.2.2.2.2.2.2.2.1, x.2.2.2.2.2.2.2.2⟩) x.2.2.2.1).bind fun z1 =>
    (r04_In N z1 x.2.1).bind fun z2 =>
    bif z2 then
      nx (x.1, x.2.1, w64 (x.2.2.1 + (1 : Int)), w64 (x.2.2.2.1 + (1 : Int)), x.2.2.2.2.1, x.2.2.2.2.2.1, x.2.2.2.2.2.2.1, x.2.2.2.2.2.2.2.1, x.2.2.2.2.2.2.2.2)
    else
      nx (x.1, x.2.1, x.2.2.1, w64 (x.2.2.2.1 + (1 : Int)), x.2.2.2.2.1, x.2.2.2.2.2.1, x.2.2.2.2.2.2.1, x.2.2.2.2.2.2.2.1, x.2.2.2.2.2.2.2.2)
  else
    some (.inl (x.1, x.2.1, x.2.2.1, x.2.2.2.2.1, x.2.2.2.2.2.1, x.2.2.2.2.2.2.1, x.2.2.2.2.2.2.2.1, x.2.2.2.2.2.2.2.2))
def law14_PortCounts_L2 (N : Nat) (x : Bool × Int × Int × Int × (List Int) × (List Int) × Bool × (List CoreD) × (List EvD)) : Option ((Bool × Int × Int × (List Int) × (List Int) × Bool × (List CoreD) × (List EvD)) ⊕ (Empty)) := natIter (law14_PortCounts_L2_st N) N x

def law14_PortCounts_L0_st (N : Nat) (nx : (Bool × Int × (List Int) × (List Int) × Bool × (List CoreD) × (List EvD)) → Option ((Bool) ⊕ (Bool × (List Int) × (List Int) × Bool × (List CoreD) × (List EvD)))) (x : Bool × Int × (List Int) × (List Int) × Bool × (List CoreD) × (List EvD)) : Option ((Bool) ⊕ (Bool × (List Int) × (List Int) × Bool × (List CoreD) × (List EvD))) :=
  bif decide (x.2.1 < (16 : Int)) then
    (law14_PortCounts_L2 N (x.1, x.2.1, (0 : Int), (-1 : Int), x.2.2.1, x.2.2.2.1, x.2.2.2.2.1, x.2.2.2.2.2.1, x.2.2.2.2.2.2)).bind fun l1 =>
    brS l1 (fun l1a =>
      (r13_State N (⟨⟨l1a.2.2.2.1, l1a.2.2.2.2.1, l1a.2.2.2.2.2.1⟩, l1a.2.2.2.2.2.2.1, l1a.2.2.2.2.2.2.2⟩) l1a.2.1).bind fun z2 =>
      bif decide (l1a.2.2.1 > (1 : Int)) then some (.inl false) else
      bif decide (z2 ≥ (8 : Int)) then
        bif !((l1a.2.2.1 == (1 : Int)) == (decide (z2 < (16 : Int)))) then some (.inl false) else
        nx (l1a.1, w64 (l1a.2.1 + (1 : Int)), l1a.2.2.2.1, l1a.2.2.2.2.1, l1a.2.2.2.2.2.1, l1a.2.2.2.2.2.2.1, l1a.2.2.2.2.2.2.2)
      else
        bif !((l1a.2.2.1 == (1 : Int)) == false) then some (.inl false) else
        nx (l1a.1, w64 (l1a.2.1 + (1 : Int)), l1a.2.2.2.1, l1a.2.2.2.2.1, l1a.2.2.2.2.2.1, l1a.2.2.2.2.2.2.1, l1a.2.2.2.2.2.2.2)) (fun l1b =>
      none)
  else
    some (.inr (x.1, x.2.2.1, x.2.2.2.1, x.2.2.2.2.1, x.2.2.2.2.2.1, x.2.2.2.2.2.2))
def law14_PortCounts_L0 (N : Nat) (x : Bool × Int × (List Int) × (List Int) × Bool × (List CoreD) × (List EvD)) : Option ((Bool) ⊕ (Bool × (List Int) × (List Int) × Bool × (List CoreD) × (List EvD))) := natIter (law14_PortCounts_L0_st N) N x

def law14_PortCounts (N : Nat) (a0 : SysD) : Option (Bool) :=
  (law14_shown N).bind fun z1 =>
  (r03_May N a0 60).bind fun z2 =>
  bif !z2 then some z1 else
  (law14_PortCounts_L0 N (z1, (0 : Int), a0.M.W, a0.M.G, a0.M.bad, a0.C, a0.L)).bind fun l3 =>
  brS l3 (fun l3a =>
    some l3a) (fun l3b =>
    bif l3b.1 then
      (port_Waits N (⟨⟨l3b.2.1, l3b.2.2.1, l3b.2.2.2.1⟩, l3b.2.2.2.2.1, l3b.2.2.2.2.2⟩) 8).bind fun z4 =>
      some ((z4.length : Int) == (0 : Int))
    else
      some false)


end Go.Hz
