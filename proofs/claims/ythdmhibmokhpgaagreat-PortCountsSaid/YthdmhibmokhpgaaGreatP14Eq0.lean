/- The evaluator comes to the plain functions. Printed by g2.py. -/
import Derived.Test.YthdmhibmokhpgaaGreatP14Defs
set_option linter.unusedSimpArgs false
set_option maxRecDepth 100000
set_option linter.unusedVariables false
namespace Go.Hz
open Go Go.AE Go.Proofs

theorem e_list_Step (N : Nat) (a0 : SysD) (a1 : Int) : evFn (c_list_Step N) 300 126 [(eSysD a0), (.i .i64 a1)] dSysD = list_Step N a0 a1 := by kernel_rfl
end Go.Hz
