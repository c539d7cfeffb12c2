/- What is proved by hand, at this seat. -/
import Derived.Test.YthdmhibmokhpgaaGreatP14Defs
import Derived.Test.YthdmhibmokhpgaaGreatAEHand3
import Derived.Test.YthdmhibmokhpgaaGreatP14Told
set_option linter.unusedSimpArgs false
set_option maxRecDepth 100000
set_option linter.unusedVariables false
namespace Go.Hz
open Go Go.AE Go.Proofs

theorem clone_90 : CloneOk Tryz.prog 90 43 .frame := clone_ok (T := 46) (B := 4) (e := 43) a_90 (by kernel_rfl) (by kernel_rfl) (by kernel_rfl) (by kernel_rfl) (tysOk 43 _ rfl) rfl rfl (by decide)
theorem clone_195 : CloneOk Tryz.prog 195 50 .core := clone_ok (T := 29) (B := 4) (e := 50) a_195 (by kernel_rfl) (by kernel_rfl) (by kernel_rfl) (by kernel_rfl) (tysOk 50 _ rfl) rfl rfl (by decide)
theorem clone_197 : CloneOk Tryz.prog 197 3 .int := clone_ok (T := 26) (B := 4) (e := 3) a_197 (by kernel_rfl) (by kernel_rfl) (by kernel_rfl) (by kernel_rfl) (tysOk 3 _ rfl) rfl rfl (by decide)
theorem grow_199 : GrowOk Tryz.prog 199 3 .int := grow_ok (T := 26) (I := 3) (B := 4) (S := 9) (A := 20) (e := 3) a_199 (by kernel_rfl) (by kernel_rfl) (by kernel_rfl) (by kernel_rfl) (by kernel_rfl) (tysOk 3 _ rfl) rfl rfl (by decide)
noncomputable def cfgSet : Cfg := ⟨tyTab, styTab, [(89, Tryz.f89)], [], [], [(90, 43, .frame)], [], [], [], [], [], 0⟩
theorem o_set : CfgOk Tryz.prog cfgSet := cfgOk_of mixed tysOk ⟨a_89, trivial⟩ trivial trivial ⟨clone_90, trivial⟩ trivial trivial trivial
theorem set_eq : SetEq cfgSet 89 43 := fun c y K => by kernel_rfl
theorem set_89 : SetOk Tryz.prog 89 := set_ok o_set set_eq
theorem eq_34 : EqOk Tryz.prog 34 := eqOk_of (by kernel_rfl)
end Go.Hz
