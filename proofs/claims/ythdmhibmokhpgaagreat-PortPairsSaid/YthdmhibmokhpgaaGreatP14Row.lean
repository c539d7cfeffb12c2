/- The rows of the laws of package hazellaw14, joined. -/
import Derived.Test.YthdmhibmokhpgaaGreatRows
import Derived.Test.YthdmhibmokhpgaaGreatAERow
import Derived.Test.YthdmhibmokhpgaaGreatP14Specs
import Derived.Test.YthdmhibmokhpgaaGreatP14LawB
set_option linter.unusedVariables false
set_option linter.unusedSimpArgs false
namespace Go.Proofs.YthdmhibmokhpgaaGreat
open Go.ChangeShapes Go.WideShapes Go.ChangeAt Go.RowKit Go.AE Go.Hz

theorem Tryz.own : ownKnob Tryz.prog.godebug = none := by kernel_rfl
theorem Tryz.laidOut : laidOutB Tryz.prog = true := by kernel_rfl



set_option maxRecDepth 100000 in
theorem PortPairs_lifted (os : Os) (started : os.Started) (H : Type) (enc : TypeId × Value → H) :
    ReturnsInHanded {} Tryz.checked os 4 .any (Rows.portPairsSpec.pre6 enc Tryz.prog Tryz.f4 Rows.portPairsRow.domain false) (Rows.portPairsSpec.post enc Tryz.prog Tryz.f4 false true false false) := by
  refine returnsInHanded_of_change (C := Tryz.checked) Tryz.own started (by kernel_rfl) Tryz.func4
    (ChangeSpec.witness6 (enc := enc) (C := Tryz.checked) false ⟨#[], #[.int .u8 0, .int .i64 0, .bool false], []⟩ 8 (by kernel_rfl) (by kernel_rfl) (by kernel_rfl) (by kernel_rfl)) ?_
  intro W base args ds gs before hval0 hW hcnd _
  have hW' := hW
  obtain ⟨p, q, hA0, hV, rfl, hfz, hnd⟩ := hW
  obtain ⟨rfl, rfl⟩ := trodVars_none hV
  have hval : ∀ (j : Nat) t v, Tryz.f4.params[j]? = some t → args[j]? = some v → Value.okWide Tryz.prog W .any base t v := hval0
  have hA : DataW.TrodAll enc Tryz.prog W 0 (fun _ => true) true Tryz.f4.params.toList args.toList ds p := hA0
  rw [Tryz.params4] at hA hval
  obtain ⟨v0, v1, v2, d0, d1, d2, p0, p1, p2, rfl, rfl, rfl, h0, h1, h2⟩ := trodAll_three hA
  obtain ⟨a, rfl, rfl, rfl, wa⟩ := open_int (P := Tryz.prog) (k := .u8) (by rfl) (hval 0 _ v0 rfl rfl) h0
  obtain ⟨b, rfl, rfl, rfl, wb⟩ := open_int (P := Tryz.prog) (k := .i64) (by rfl) (hval 1 _ v1 rfl rfl) h1
  obtain ⟨c, rfl, rfl, rfl⟩ := open_bool (P := Tryz.prog) (by rfl) (hval 2 _ v2 rfl rfl) h2
  refine (calls_true (k_law14_PortPairs 1000000) (vs := [.i .u8 a, .i .i64 b, .b c]) (us := [.int .u8 a, .int .i64 b, .bool c]) (y := true) ?_ rfl (Rs.cons (.i _ _) (Rs.cons (.i _ _) (Rs.cons (.b _) Rs.nil)))).mono fun e W' ⟨he, hw⟩ => ?_
  · show some (law14_PortPairs 1000000 a b c) = _
    rw [pairs_true a b c wa]
    rfl
  · exact ⟨_, he, post_true (P := Tryz.prog) (f := Tryz.f4) (tb := 4) Tryz.laidOut rfl rfl (by kernel_rfl) (by kernel_rfl) (of_decide_eq_true (by kernel_rfl)) hW' hw⟩

theorem PortPairs_holds : Rows.PortPairsSaid :=
  OpenClaim.holds_of_wide 4 Tryz.f4 rfl rfl rfl rfl rfl rfl rfl ⟨rfl, rfl, rfl, rfl, rfl⟩ rfl rfl rfl rfl rfl (by kernel_rfl) Tryz.func4 (by kernel_rfl)
    (of_decide_eq_true (by kernel_rfl)) (by unfold Func.isWrapper; first | (rw [if_pos (by decide +kernel)]; kernel_rfl) | (rw [if_neg (by decide +kernel)]; exact ⟨rfl, rfl⟩))
    (fun os started H enc _ => PortPairs_lifted os started H enc)

end Go.Proofs.YthdmhibmokhpgaaGreat
