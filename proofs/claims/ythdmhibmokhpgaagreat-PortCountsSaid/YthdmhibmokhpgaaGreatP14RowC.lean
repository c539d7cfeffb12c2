/- The row of PortCounts, joined: for every input the law returns true, and its argument reads behind the call as it read before. -/
import Derived.Test.YthdmhibmokhpgaaGreatRows
import Derived.Test.YthdmhibmokhpgaaGreatAEOpen
import Derived.Test.YthdmhibmokhpgaaGreatP14Specs
import Derived.Test.YthdmhibmokhpgaaGreatP14LawB
import Derived.Test.YthdmhibmokhpgaaGreatP14LawC
set_option linter.unusedVariables false
set_option linter.unusedSimpArgs false
namespace Go.Proofs.YthdmhibmokhpgaaGreat
open Go.ChangeShapes Go.WideShapes Go.ChangeAt Go.RowKit Go.AE Go.Hz

theorem Tryz.own2 : ownKnob Tryz.prog.godebug = none := by kernel_rfl
theorem Tryz.laidOut2 : laidOutB Tryz.prog = true := by kernel_rfl

theorem leaf_sys : leafK Tryz.prog styTab 8 32 = some [.sl .int, .sl .int, .b, .sl .core, .sl .ev] := by kernel_rfl

set_option maxRecDepth 100000 in
theorem PortCounts_lifted (os : Os) (started : os.Started) (H : Type) (enc : TypeId × Value → H) :
    ReturnsInHanded {} Tryz.checked os 5 .any (Rows.portCountsSpec.pre6 enc Tryz.prog Tryz.f5 Rows.portCountsRow.domain false) (Rows.portCountsSpec.post enc Tryz.prog Tryz.f5 false true false false) := by
  refine returnsInHanded_of_change (C := Tryz.checked) Tryz.own2 started (by kernel_rfl) Tryz.func5
    (ChangeSpec.witness6 (enc := enc) (C := Tryz.checked) false ⟨#[], #[.agg #[.slice none 0 0, .slice none 0 0, .bool false, .slice none 0 0, .slice none 0 0]], []⟩ 8 (by kernel_rfl) (by kernel_rfl) (by kernel_rfl) (by kernel_rfl)) ?_
  intro W base args ds gs before _ hW hcnd _
  have hW' := hW
  obtain ⟨p, q, hA0, hV, rfl, hfz, hnd⟩ := hW
  obtain ⟨rfl, rfl⟩ := trodVars_none hV
  have hA : DataW.TrodAll enc Tryz.prog W 0 (fun _ => true) true Tryz.f5.params.toList args.toList ds p := hA0
  rw [Tryz.params5] at hA
  obtain ⟨v0, d0, rfl, rfl, h0⟩ := trodAll_one hA
  obtain ⟨vs, hr, hf⟩ := open_agg leaf_sys (by decide) h0
  obtain ⟨s, hs⟩ := fit_sys hf
  rw [← hs] at hr
  refine (calls_true (k_law14_PortCounts 1000000) (vs := [eSysD s]) (us := [v0]) (y := true) ?_ rfl (rs_one hr)).mono fun e W' ⟨he, hw⟩ => ?_
  · show some (law14_PortCounts 1000000 s) = _
    rw [counts_true 1000000 (by decide) shown14 s]
    rfl
  · exact ⟨_, he, post_true (P := Tryz.prog) (f := Tryz.f5) (tb := 4) Tryz.laidOut2 rfl rfl (by kernel_rfl) (by kernel_rfl) (of_decide_eq_true (by kernel_rfl)) hW' hw⟩

theorem PortCounts_holds : Rows.PortCountsSaid :=
  OpenClaim.holds_of_wide 5 Tryz.f5 rfl rfl rfl rfl rfl rfl rfl ⟨rfl, rfl, rfl, rfl, rfl⟩ rfl rfl rfl rfl rfl (by kernel_rfl) Tryz.func5 (by kernel_rfl)
    (of_decide_eq_true (by kernel_rfl)) (by unfold Func.isWrapper; first | (rw [if_pos (by decide +kernel)]; kernel_rfl) | (rw [if_neg (by decide +kernel)]; exact ⟨rfl, rfl⟩))
    (fun os started H enc _ => PortCounts_lifted os started H enc)

end Go.Proofs.YthdmhibmokhpgaaGreat
