/- The functions that range over functions, as plain Lean functions: lowest, Mask, last. -/
import Derived.Test.YthdmhibmokhpgaaGreatAEDec
set_option linter.unusedVariables false
set_option linter.unusedSimpArgs false
namespace Go.AE

def maskBit (m : Int) (t : Nat) : Bool := band .i64 (shrI .i64 m t) 1 == 1

/-- The threads of a mask. -/
def maskOf (m : Int) : List Int := ((List.range 16).filter (maskBit m)).map fun (t : Nat) => (t : Int)

def lowestX (m : Int) : Int := (maskOf m).headD (-1)

def maskX (s : SysD) (i : Int) : List Int := if 0 ≤ i ∧ i < s.M.W.length then maskOf (s.M.W.getD i.toNat 0) else []

def lastFrom (id : Int) (fr : Int) : Nat → List EvD → Int
  | _, [] => -1
  | n, x :: r => if (n : Int) ≥ fr ∧ x.core = id ∧ x.kind ≠ 9 then n else lastFrom id fr (n - 1) r

/-- The place of the last event of a core, from a place on. -/
def lastX (s : SysD) (id fr : Int) : Int := lastFrom id fr (s.L.length - 1) s.L.reverse

end Go.AE
