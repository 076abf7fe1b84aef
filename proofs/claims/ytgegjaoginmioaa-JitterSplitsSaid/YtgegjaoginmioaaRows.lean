/-
  No cell of these rows narrows 'for every input' (looked for: loops, veiled, ifaces, maps, wideKeys, modest, calm, conditions, laid).
  DERIVED. THE GIVEN ROWS OF THIS SEAT. 6 by the template 'for every input the law returns true; each argument reads behind the call as it read before'; 0 by the template 'total and deterministic' (their statements: YtgegjaoginmioaaTotals.lean).
  GIVEN WITH THE SEED: the statements are not yours to turn. If you find one false, say at which input.
  Laid BY PROGRAM, IN A SANDBOX (cutbox-rows.mjs): the forced cells as the released guide's own fill.sh prints them over the translation 140909bfc1ad8b91… (all of the seat's roots in one cut). By AI agents, Wed Nov 11 2026. No macro, syntax, notation, axiom, sorry.
-/
import Derived.Test.YtgegjaoginmioaaChecked
import GoSem.Claim
import GoSem.ClaimJoined
import GoSem.ClaimMapViews
import Derived.JoinedTies
import Derived.KernelRfl
namespace Go.Proofs.Ytgegjaoginmioaa
/- THE CELL 'sum', in the pinned program and in every row, IS THE sha256 OF THE DUMP (.gsa) THAT YtgegjaoginmioaaProg.lean LOADS. Nothing in Lean hashes anything: it is a label: what it is worth is what the hold of that sum in a sandbox is worth. -/
noncomputable def Try.pinned : Pinned := { name := "ytgegjaoginmioaa", sum := "140909bfc1ad8b914ac1250b13bef269df37422f96d4d083681144abcd0fc48c", checked := Try.checked }
namespace Rows
def none {H : Type} : Left H := { results := [], args := [] }

/-- 'afterimagelaw14.JitterSteps': WHATEVER THE INPUT: true; the input reads as it did. -/
def jitterStepsSpec : ChangeSpec := { name := "jitterSteps", fn := fun _ => fun
  | [d1, d2] => { results := [.lit (.bool true)], args := [d1, d2] }
  | _ => none }
def jitterStepsRow : OpenClaim := { program := "ytgegjaoginmioaa", sum := "140909bfc1ad8b914ac1250b13bef269df37422f96d4d083681144abcd0fc48c", func := "afterimage/afterimagelaw14.JitterSteps", spec := "jitterSteps", apart := false }
def JitterStepsSaid : Prop := jitterStepsRow.holds Try.pinned (OpenSpec.ofChange jitterStepsSpec)

/-- ITS FALSE NEIGHBOUR: 'it returns false'. Refute it at one input. -/
def jitterStepsWrong : ChangeSpec := { name := "jitterSteps", fn := fun _ => fun
  | [d1, d2] => { results := [.lit (.bool false)], args := [d1, d2] }
  | _ => none }
def JitterStepsWrongFalsely : Prop := jitterStepsRow.holds Try.pinned (OpenSpec.ofChange jitterStepsWrong)

/-- 'afterimagelaw14.JitterStays': WHATEVER THE INPUT: true; the input reads as it did. -/
def jitterStaysSpec : ChangeSpec := { name := "jitterStays", fn := fun _ => fun
  | [d1, d2] => { results := [.lit (.bool true)], args := [d1, d2] }
  | _ => none }
def jitterStaysRow : OpenClaim := { program := "ytgegjaoginmioaa", sum := "140909bfc1ad8b914ac1250b13bef269df37422f96d4d083681144abcd0fc48c", func := "afterimage/afterimagelaw14.JitterStays", spec := "jitterStays", apart := false }
def JitterStaysSaid : Prop := jitterStaysRow.holds Try.pinned (OpenSpec.ofChange jitterStaysSpec)

/-- ITS FALSE NEIGHBOUR: 'it returns false'. Refute it at one input. -/
def jitterStaysWrong : ChangeSpec := { name := "jitterStays", fn := fun _ => fun
  | [d1, d2] => { results := [.lit (.bool false)], args := [d1, d2] }
  | _ => none }
def JitterStaysWrongFalsely : Prop := jitterStaysRow.holds Try.pinned (OpenSpec.ofChange jitterStaysWrong)

/-- 'afterimagelaw14.JitterOrder': WHATEVER THE INPUT: true; the input reads as it did. -/
def jitterOrderSpec : ChangeSpec := { name := "jitterOrder", fn := fun _ => fun
  | [d1, d2, d3] => { results := [.lit (.bool true)], args := [d1, d2, d3] }
  | _ => none }
def jitterOrderRow : OpenClaim := { program := "ytgegjaoginmioaa", sum := "140909bfc1ad8b914ac1250b13bef269df37422f96d4d083681144abcd0fc48c", func := "afterimage/afterimagelaw14.JitterOrder", spec := "jitterOrder", apart := false }
def JitterOrderSaid : Prop := jitterOrderRow.holds Try.pinned (OpenSpec.ofChange jitterOrderSpec)

/-- ITS FALSE NEIGHBOUR: 'it returns false'. Refute it at one input. -/
def jitterOrderWrong : ChangeSpec := { name := "jitterOrder", fn := fun _ => fun
  | [d1, d2, d3] => { results := [.lit (.bool false)], args := [d1, d2, d3] }
  | _ => none }
def JitterOrderWrongFalsely : Prop := jitterOrderRow.holds Try.pinned (OpenSpec.ofChange jitterOrderWrong)

/-- 'afterimagelaw14.JitterBounds': WHATEVER THE INPUT: true; the input reads as it did. -/
def jitterBoundsSpec : ChangeSpec := { name := "jitterBounds", fn := fun _ => fun
  | [d] => { results := [.lit (.bool true)], args := [d] }
  | _ => none }
def jitterBoundsRow : OpenClaim := { program := "ytgegjaoginmioaa", sum := "140909bfc1ad8b914ac1250b13bef269df37422f96d4d083681144abcd0fc48c", func := "afterimage/afterimagelaw14.JitterBounds", spec := "jitterBounds", unfollowed := true, recurses := true, apart := false }
def JitterBoundsSaid : Prop := jitterBoundsRow.holds Try.pinned (OpenSpec.ofChange jitterBoundsSpec)

/-- ITS FALSE NEIGHBOUR: 'it returns false'. Refute it at one input. -/
def jitterBoundsWrong : ChangeSpec := { name := "jitterBounds", fn := fun _ => fun
  | [d] => { results := [.lit (.bool false)], args := [d] }
  | _ => none }
def JitterBoundsWrongFalsely : Prop := jitterBoundsRow.holds Try.pinned (OpenSpec.ofChange jitterBoundsWrong)

/-- 'afterimagelaw14.JitterAdds': WHATEVER THE INPUT: true; the input reads as it did. -/
def jitterAddsSpec : ChangeSpec := { name := "jitterAdds", fn := fun _ => fun
  | [d] => { results := [.lit (.bool true)], args := [d] }
  | _ => none }
def jitterAddsRow : OpenClaim := { program := "ytgegjaoginmioaa", sum := "140909bfc1ad8b914ac1250b13bef269df37422f96d4d083681144abcd0fc48c", func := "afterimage/afterimagelaw14.JitterAdds", spec := "jitterAdds", unfollowed := true, recurses := true, apart := false }
def JitterAddsSaid : Prop := jitterAddsRow.holds Try.pinned (OpenSpec.ofChange jitterAddsSpec)

/-- ITS FALSE NEIGHBOUR: 'it returns false'. Refute it at one input. -/
def jitterAddsWrong : ChangeSpec := { name := "jitterAdds", fn := fun _ => fun
  | [d] => { results := [.lit (.bool false)], args := [d] }
  | _ => none }
def JitterAddsWrongFalsely : Prop := jitterAddsRow.holds Try.pinned (OpenSpec.ofChange jitterAddsWrong)

/-- 'afterimagelaw14.JitterSplits': WHATEVER THE INPUT: true; the input reads as it did. -/
def jitterSplitsSpec : ChangeSpec := { name := "jitterSplits", fn := fun _ => fun
  | [d1, d2] => { results := [.lit (.bool true)], args := [d1, d2] }
  | _ => none }
def jitterSplitsRow : OpenClaim := { program := "ytgegjaoginmioaa", sum := "140909bfc1ad8b914ac1250b13bef269df37422f96d4d083681144abcd0fc48c", func := "afterimage/afterimagelaw14.JitterSplits", spec := "jitterSplits", unfollowed := true, recurses := true, apart := false }
def JitterSplitsSaid : Prop := jitterSplitsRow.holds Try.pinned (OpenSpec.ofChange jitterSplitsSpec)

/-- ITS FALSE NEIGHBOUR: 'it returns false'. Refute it at one input. -/
def jitterSplitsWrong : ChangeSpec := { name := "jitterSplits", fn := fun _ => fun
  | [d1, d2] => { results := [.lit (.bool false)], args := [d1, d2] }
  | _ => none }
def JitterSplitsWrongFalsely : Prop := jitterSplitsRow.holds Try.pinned (OpenSpec.ofChange jitterSplitsWrong)

/- THE SECOND FORM. 'bulk': how many values and letters a reading holds, each counted each time it is reached (what is shared counts as often as it is met; a slice's spare places count too). A statement '..UptoSaid' is the law's where the arguments, and the package variables that the reading takes, are together of bulk at most 1048576: NARROWER than '..Said'. Prove '..Said' where nothing that the law and all that it calls make is longer than what came in: it says more and counts as full. Else prove '..UptoSaid'. A law counts once. -/
mutual
def uptoBulk {H : Type} : DataW H → Nat
  | .lit (.string bytes) => bytes.length + 1
  | .lit _ => 1
  | .nil => 1
  | .ptr d => uptoBulk d + 1
  | .slice elems spare => uptoBulkAll elems + uptoBulkAll spare + 1
  | .agg parts => uptoBulkAll parts + 1
  | .iface _ d => uptoBulk d + 1
  | .map entries => uptoBulkEntries entries + 1
  | .held _ => 1
def uptoBulkAll {H : Type} : List (DataW H) → Nat
  | [] => 0
  | d :: r => uptoBulk d + uptoBulkAll r
def uptoBulkEntries {H : Type} : List (Lit × DataW H) → Nat
  | [] => 0
  | x :: r => uptoBulkEntry x + uptoBulkEntries r
def uptoBulkEntry {H : Type} : Lit × DataW H → Nat
  | (.string bytes, d) => bytes.length + uptoBulk d + 1
  | (_, d) => uptoBulk d + 1
 end
def uptoSmall : (H : Type) → List (DataW H) → Bool := fun _ ds => decide (uptoBulkAll ds ≤ 1048576)
def OpenSpec.upto (s : _root_.Go.ChangeSpec) : _root_.Go.OpenSpec := { _root_.Go.OpenSpec.ofChange s with cond := some uptoSmall }

/-- 'afterimagelaw14.JitterSteps', WHERE WHAT IT READS IS OF BULK AT MOST 1048576: true; the input reads as it did. -/
def jitterStepsUptoRow : OpenClaim := { program := "ytgegjaoginmioaa", sum := "140909bfc1ad8b914ac1250b13bef269df37422f96d4d083681144abcd0fc48c", func := "afterimage/afterimagelaw14.JitterSteps", spec := "jitterSteps", apart := false, narrowed := true }
def JitterStepsUptoSaid : Prop := jitterStepsUptoRow.holds Try.pinned (OpenSpec.upto jitterStepsSpec)

/-- 'afterimagelaw14.JitterStays', WHERE WHAT IT READS IS OF BULK AT MOST 1048576: true; the input reads as it did. -/
def jitterStaysUptoRow : OpenClaim := { program := "ytgegjaoginmioaa", sum := "140909bfc1ad8b914ac1250b13bef269df37422f96d4d083681144abcd0fc48c", func := "afterimage/afterimagelaw14.JitterStays", spec := "jitterStays", apart := false, narrowed := true }
def JitterStaysUptoSaid : Prop := jitterStaysUptoRow.holds Try.pinned (OpenSpec.upto jitterStaysSpec)

/-- 'afterimagelaw14.JitterOrder', WHERE WHAT IT READS IS OF BULK AT MOST 1048576: true; the input reads as it did. -/
def jitterOrderUptoRow : OpenClaim := { program := "ytgegjaoginmioaa", sum := "140909bfc1ad8b914ac1250b13bef269df37422f96d4d083681144abcd0fc48c", func := "afterimage/afterimagelaw14.JitterOrder", spec := "jitterOrder", apart := false, narrowed := true }
def JitterOrderUptoSaid : Prop := jitterOrderUptoRow.holds Try.pinned (OpenSpec.upto jitterOrderSpec)

/-- 'afterimagelaw14.JitterBounds', WHERE WHAT IT READS IS OF BULK AT MOST 1048576: true; the input reads as it did. -/
def jitterBoundsUptoRow : OpenClaim := { program := "ytgegjaoginmioaa", sum := "140909bfc1ad8b914ac1250b13bef269df37422f96d4d083681144abcd0fc48c", func := "afterimage/afterimagelaw14.JitterBounds", spec := "jitterBounds", unfollowed := true, recurses := true, apart := false, narrowed := true }
def JitterBoundsUptoSaid : Prop := jitterBoundsUptoRow.holds Try.pinned (OpenSpec.upto jitterBoundsSpec)

/-- 'afterimagelaw14.JitterAdds', WHERE WHAT IT READS IS OF BULK AT MOST 1048576: true; the input reads as it did. -/
def jitterAddsUptoRow : OpenClaim := { program := "ytgegjaoginmioaa", sum := "140909bfc1ad8b914ac1250b13bef269df37422f96d4d083681144abcd0fc48c", func := "afterimage/afterimagelaw14.JitterAdds", spec := "jitterAdds", unfollowed := true, recurses := true, apart := false, narrowed := true }
def JitterAddsUptoSaid : Prop := jitterAddsUptoRow.holds Try.pinned (OpenSpec.upto jitterAddsSpec)

/-- 'afterimagelaw14.JitterSplits', WHERE WHAT IT READS IS OF BULK AT MOST 1048576: true; the input reads as it did. -/
def jitterSplitsUptoRow : OpenClaim := { program := "ytgegjaoginmioaa", sum := "140909bfc1ad8b914ac1250b13bef269df37422f96d4d083681144abcd0fc48c", func := "afterimage/afterimagelaw14.JitterSplits", spec := "jitterSplits", unfollowed := true, recurses := true, apart := false, narrowed := true }
def JitterSplitsUptoSaid : Prop := jitterSplitsUptoRow.holds Try.pinned (OpenSpec.upto jitterSplitsSpec)

end Rows
end Go.Proofs.Ytgegjaoginmioaa
