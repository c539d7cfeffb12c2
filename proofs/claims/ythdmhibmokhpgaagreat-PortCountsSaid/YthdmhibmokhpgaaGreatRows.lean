/-
  No cell of these rows narrows 'for every input' (looked for: loops, veiled, ifaces, maps, wideKeys, modest, calm, conditions, laid).
  DERIVED. THE GIVEN ROWS OF THIS SEAT. 3 by the template 'for every input the law returns true; each argument reads behind the call as it read before'; 0 by the template 'total and deterministic' (their statements: YthdmhibmokhpgaaGreatTotals.lean).
  GIVEN WITH THE SEED: the statements are not yours to turn. If you find one false, say at which input.
  Laid BY PROGRAM, IN A SANDBOX (cutbox-rows.mjs): the forced cells as the released guide's own fill.sh prints them over the translation ae9b6b855a2932bd… (all of the seat's roots in one cut). By AI agents, Wed Nov 11 2026. No macro, syntax, notation, axiom, sorry.
-/
import Derived.Test.YthdmhibmokhpgaaGreatChecked
import GoSem.Claim
import GoSem.ClaimJoined
import GoSem.ClaimMapViews
import Derived.JoinedTies
import Derived.KernelRfl
namespace Go.Proofs.YthdmhibmokhpgaaGreat
/- THE CELL 'sum', in the pinned program and in every row, IS THE sha256 OF THE DUMP (.gsa) THAT YthdmhibmokhpgaaGreatProg.lean LOADS. Nothing in Lean hashes anything: it is a label: what it is worth is what the hold of that sum in a sandbox is worth. -/
noncomputable def Tryz.pinned : Pinned := { name := "ythdmhibmokhpgaagreat", sum := "ae9b6b855a2932bd6effa56b3291b57c40b39bb35835c36ce230ac6f06ff7aac", checked := Tryz.checked }
namespace Rows
def none {H : Type} : Left H := { results := [], args := [] }

/-- 'hazellaw14.PortOnce': WHATEVER THE INPUT: true; the input reads as it did. -/
def portOnceSpec : ChangeSpec := { name := "portOnce", fn := fun _ => fun
  | [d] => { results := [.lit (.bool true)], args := [d] }
  | _ => none }
def portOnceRow : OpenClaim := { program := "ythdmhibmokhpgaagreat", sum := "ae9b6b855a2932bd6effa56b3291b57c40b39bb35835c36ce230ac6f06ff7aac", func := "hazel/hazellaw14.PortOnce", spec := "portOnce", unfollowed := true, recurses := true, apart := false }
def PortOnceSaid : Prop := portOnceRow.holds Tryz.pinned (OpenSpec.ofChange portOnceSpec)

/-- ITS FALSE NEIGHBOUR: 'it returns false'. Refute it at one input. -/
def portOnceWrong : ChangeSpec := { name := "portOnce", fn := fun _ => fun
  | [d] => { results := [.lit (.bool false)], args := [d] }
  | _ => none }
def PortOnceWrongFalsely : Prop := portOnceRow.holds Tryz.pinned (OpenSpec.ofChange portOnceWrong)

/-- 'hazellaw14.PortPairs': WHATEVER THE INPUT: true; the input reads as it did. -/
def portPairsSpec : ChangeSpec := { name := "portPairs", fn := fun _ => fun
  | [d1, d2, d3] => { results := [.lit (.bool true)], args := [d1, d2, d3] }
  | _ => none }
def portPairsRow : OpenClaim := { program := "ythdmhibmokhpgaagreat", sum := "ae9b6b855a2932bd6effa56b3291b57c40b39bb35835c36ce230ac6f06ff7aac", func := "hazel/hazellaw14.PortPairs", spec := "portPairs", unfollowed := true, recurses := true, apart := false }
def PortPairsSaid : Prop := portPairsRow.holds Tryz.pinned (OpenSpec.ofChange portPairsSpec)

/-- ITS FALSE NEIGHBOUR: 'it returns false'. Refute it at one input. -/
def portPairsWrong : ChangeSpec := { name := "portPairs", fn := fun _ => fun
  | [d1, d2, d3] => { results := [.lit (.bool false)], args := [d1, d2, d3] }
  | _ => none }
def PortPairsWrongFalsely : Prop := portPairsRow.holds Tryz.pinned (OpenSpec.ofChange portPairsWrong)

/-- 'hazellaw14.PortCounts': WHATEVER THE INPUT: true; the input reads as it did. -/
def portCountsSpec : ChangeSpec := { name := "portCounts", fn := fun _ => fun
  | [d] => { results := [.lit (.bool true)], args := [d] }
  | _ => none }
def portCountsRow : OpenClaim := { program := "ythdmhibmokhpgaagreat", sum := "ae9b6b855a2932bd6effa56b3291b57c40b39bb35835c36ce230ac6f06ff7aac", func := "hazel/hazellaw14.PortCounts", spec := "portCounts", unfollowed := true, recurses := true, apart := false }
def PortCountsSaid : Prop := portCountsRow.holds Tryz.pinned (OpenSpec.ofChange portCountsSpec)

/-- ITS FALSE NEIGHBOUR: 'it returns false'. Refute it at one input. -/
def portCountsWrong : ChangeSpec := { name := "portCounts", fn := fun _ => fun
  | [d] => { results := [.lit (.bool false)], args := [d] }
  | _ => none }
def PortCountsWrongFalsely : Prop := portCountsRow.holds Tryz.pinned (OpenSpec.ofChange portCountsWrong)

/- THE SECOND FORM. 'bulk': how many values and letters a reading holds, each counted each time it is reached (what is shared counts as often as it is met; a slice's spare places count too). A statement '..UptoSaid' is the law's where the arguments, and the package variables that the reading takes, are together of bulk at most 1048576: NARROWER than '..Said'. Prove '..Said' where nothing that the law and all that it calls make is longer than what came in: it says more and counts as full. Else prove '..UptoSaid'. A law counts once. -/
mutual
def uptoBulk {H : Type} : DataW H → Nat
  | .lit (.string bytes) => bytes.length + 1
  | .lit _ => 1
  | .nil => 1
  | .ptr d => uptoBulk d + 1
  | .slice elems spare => uptoBulkAll elems + uptoBulkAll spare + 1
  | .agg parts => uptoBulkAll parts + 1
  | .iface _ d => uptoBulk d + 1
  | .map entries => uptoBulkEntries entries + 1
  | .held _ => 1
def uptoBulkAll {H : Type} : List (DataW H) → Nat
  | [] => 0
  | d :: r => uptoBulk d + uptoBulkAll r
def uptoBulkEntries {H : Type} : List (Lit × DataW H) → Nat
  | [] => 0
  | x :: r => uptoBulkEntry x + uptoBulkEntries r
def uptoBulkEntry {H : Type} : Lit × DataW H → Nat
  | (.string bytes, d) => bytes.length + uptoBulk d + 1
  | (_, d) => uptoBulk d + 1
 end
def uptoSmall : (H : Type) → List (DataW H) → Bool := fun _ ds => decide (uptoBulkAll ds ≤ 1048576)
def OpenSpec.upto (s : _root_.Go.ChangeSpec) : _root_.Go.OpenSpec := { _root_.Go.OpenSpec.ofChange s with cond := some uptoSmall }

/-- 'hazellaw14.PortOnce', WHERE WHAT IT READS IS OF BULK AT MOST 1048576: true; the input reads as it did. -/
def portOnceUptoRow : OpenClaim := { program := "ythdmhibmokhpgaagreat", sum := "ae9b6b855a2932bd6effa56b3291b57c40b39bb35835c36ce230ac6f06ff7aac", func := "hazel/hazellaw14.PortOnce", spec := "portOnce", unfollowed := true, recurses := true, apart := false, narrowed := true }
def PortOnceUptoSaid : Prop := portOnceUptoRow.holds Tryz.pinned (OpenSpec.upto portOnceSpec)

/-- 'hazellaw14.PortPairs', WHERE WHAT IT READS IS OF BULK AT MOST 1048576: true; the input reads as it did. -/
def portPairsUptoRow : OpenClaim := { program := "ythdmhibmokhpgaagreat", sum := "ae9b6b855a2932bd6effa56b3291b57c40b39bb35835c36ce230ac6f06ff7aac", func := "hazel/hazellaw14.PortPairs", spec := "portPairs", unfollowed := true, recurses := true, apart := false, narrowed := true }
def PortPairsUptoSaid : Prop := portPairsUptoRow.holds Tryz.pinned (OpenSpec.upto portPairsSpec)

/-- 'hazellaw14.PortCounts', WHERE WHAT IT READS IS OF BULK AT MOST 1048576: true; the input reads as it did. -/
def portCountsUptoRow : OpenClaim := { program := "ythdmhibmokhpgaagreat", sum := "ae9b6b855a2932bd6effa56b3291b57c40b39bb35835c36ce230ac6f06ff7aac", func := "hazel/hazellaw14.PortCounts", spec := "portCounts", unfollowed := true, recurses := true, apart := false, narrowed := true }
def PortCountsUptoSaid : Prop := portCountsUptoRow.holds Tryz.pinned (OpenSpec.upto portCountsSpec)

end Rows
end Go.Proofs.YthdmhibmokhpgaaGreat
