/-
  No cell of these rows narrows 'for every input' (looked for: loops, veiled, ifaces, maps, wideKeys, modest, calm, conditions, laid).
  DERIVED. THE GIVEN ROWS OF THIS SEAT. 3 by the template 'for every input the law returns true; each argument reads behind the call as it read before'; 0 by the template 'total and deterministic' (their statements: YtekdkckgmleofaaGreatTotals.lean).
  GIVEN WITH THE SEED: the statements are not yours to turn. If you find one false, say at which input.
  Laid BY PROGRAM, IN A SANDBOX (cutbox-rows.mjs): the forced cells as the released guide's own fill.sh prints them over the translation ae1bb429b1289a09… (all of the seat's roots in one cut). By AI agents, Wed Nov 11 2026. No macro, syntax, notation, axiom, sorry.
-/
import Derived.Test.YtekdkckgmleofaaGreatChecked
import GoSem.Claim
import GoSem.ClaimJoined
import GoSem.ClaimMapViews
import Derived.JoinedTies
import Derived.KernelRfl
namespace Go.Proofs.YtekdkckgmleofaaGreat
/- THE CELL 'sum', in the pinned program and in every row, IS THE sha256 OF THE DUMP (.gsa) THAT YtekdkckgmleofaaGreatProg.lean LOADS. Nothing in Lean hashes anything: it is a label: what it is worth is what the hold of that sum in a sandbox is worth. -/
noncomputable def Tryz.pinned : Pinned := { name := "ytekdkckgmleofaagreat", sum := "ae1bb429b1289a09bb4d6a8d00fe8d091ac57608e78132edb891e6faa2b6269e", checked := Tryz.checked }
namespace Rows
def none {H : Type} : Left H := { results := [], args := [] }

/-- 'afterimagetop.TopLives': WHATEVER THE INPUT: true; the input reads as it did. -/
def topLivesSpec : ChangeSpec := { name := "topLives", fn := fun _ => fun
  | [d1, d2] => { results := [.lit (.bool true)], args := [d1, d2] }
  | _ => none }
def topLivesRow : OpenClaim := { program := "ytekdkckgmleofaagreat", sum := "ae1bb429b1289a09bb4d6a8d00fe8d091ac57608e78132edb891e6faa2b6269e", func := "afterimage/afterimagetop.TopLives", spec := "topLives", inPlace := ["slices.overlaps[afterimage/ring.one[afterimage/api.Snap]]"], unfollowed := true, recurses := true, named := ["math/bits.divideError", "math/bits.overflowError"], apart := false }
def TopLivesSaid : Prop := topLivesRow.holds Tryz.pinned (OpenSpec.ofChange topLivesSpec)

/-- ITS FALSE NEIGHBOUR: 'it returns false'. Refute it at one input. -/
def topLivesWrong : ChangeSpec := { name := "topLives", fn := fun _ => fun
  | [d1, d2] => { results := [.lit (.bool false)], args := [d1, d2] }
  | _ => none }
def TopLivesWrongFalsely : Prop := topLivesRow.holds Tryz.pinned (OpenSpec.ofChange topLivesWrong)

/-- 'afterimagetop.TopStill': WHATEVER THE INPUT: true; the input reads as it did. -/
def topStillSpec : ChangeSpec := { name := "topStill", fn := fun _ => fun
  | [d1, d2, d3] => { results := [.lit (.bool true)], args := [d1, d2, d3] }
  | _ => none }
def topStillRow : OpenClaim := { program := "ytekdkckgmleofaagreat", sum := "ae1bb429b1289a09bb4d6a8d00fe8d091ac57608e78132edb891e6faa2b6269e", func := "afterimage/afterimagetop.TopStill", spec := "topStill", inPlace := ["slices.overlaps[afterimage/ring.one[afterimage/api.Snap]]"], unfollowed := true, recurses := true, named := ["math/bits.divideError", "math/bits.overflowError"], apart := false }
def TopStillSaid : Prop := topStillRow.holds Tryz.pinned (OpenSpec.ofChange topStillSpec)

/-- ITS FALSE NEIGHBOUR: 'it returns false'. Refute it at one input. -/
def topStillWrong : ChangeSpec := { name := "topStill", fn := fun _ => fun
  | [d1, d2, d3] => { results := [.lit (.bool false)], args := [d1, d2, d3] }
  | _ => none }
def TopStillWrongFalsely : Prop := topStillRow.holds Tryz.pinned (OpenSpec.ofChange topStillWrong)

/-- 'afterimagetop.TopForward': WHATEVER THE INPUT: true; the input reads as it did. -/
def topForwardSpec : ChangeSpec := { name := "topForward", fn := fun _ => fun
  | [d1, d2] => { results := [.lit (.bool true)], args := [d1, d2] }
  | _ => none }
def topForwardRow : OpenClaim := { program := "ytekdkckgmleofaagreat", sum := "ae1bb429b1289a09bb4d6a8d00fe8d091ac57608e78132edb891e6faa2b6269e", func := "afterimage/afterimagetop.TopForward", spec := "topForward", inPlace := ["slices.overlaps[afterimage/ring.one[afterimage/api.Snap]]"], unfollowed := true, recurses := true, named := ["math/bits.divideError", "math/bits.overflowError"], apart := false }
def TopForwardSaid : Prop := topForwardRow.holds Tryz.pinned (OpenSpec.ofChange topForwardSpec)

/-- ITS FALSE NEIGHBOUR: 'it returns false'. Refute it at one input. -/
def topForwardWrong : ChangeSpec := { name := "topForward", fn := fun _ => fun
  | [d1, d2] => { results := [.lit (.bool false)], args := [d1, d2] }
  | _ => none }
def TopForwardWrongFalsely : Prop := topForwardRow.holds Tryz.pinned (OpenSpec.ofChange topForwardWrong)

/- THE SECOND FORM. 'bulk': how many values and letters a reading holds, each counted each time it is reached (what is shared counts as often as it is met; a slice's spare places count too). A statement '..UptoSaid' is the law's where the arguments, and the package variables that the reading takes, are together of bulk at most 1048576: NARROWER than '..Said'. Prove '..Said' where nothing that the law and all that it calls make is longer than what came in: it says more and counts as full. Else prove '..UptoSaid'. A law counts once. -/
mutual
def uptoBulk {H : Type} : DataW H → Nat
  | .lit (.string bytes) => bytes.length + 1
  | .lit _ => 1
  | .nil => 1
  | .ptr d => uptoBulk d + 1
  | .slice elems spare => uptoBulkAll elems + uptoBulkAll spare + 1
  | .agg parts => uptoBulkAll parts + 1
  | .iface _ d => uptoBulk d + 1
  | .map entries => uptoBulkEntries entries + 1
  | .held _ => 1
def uptoBulkAll {H : Type} : List (DataW H) → Nat
  | [] => 0
  | d :: r => uptoBulk d + uptoBulkAll r
def uptoBulkEntries {H : Type} : List (Lit × DataW H) → Nat
  | [] => 0
  | x :: r => uptoBulkEntry x + uptoBulkEntries r
def uptoBulkEntry {H : Type} : Lit × DataW H → Nat
  | (.string bytes, d) => bytes.length + uptoBulk d + 1
  | (_, d) => uptoBulk d + 1
 end
def uptoSmall : (H : Type) → List (DataW H) → Bool := fun _ ds => decide (uptoBulkAll ds ≤ 1048576)
def OpenSpec.upto (s : _root_.Go.ChangeSpec) : _root_.Go.OpenSpec := { _root_.Go.OpenSpec.ofChange s with cond := some uptoSmall }

/-- 'afterimagetop.TopLives', WHERE WHAT IT READS IS OF BULK AT MOST 1048576: true; the input reads as it did. -/
def topLivesUptoRow : OpenClaim := { program := "ytekdkckgmleofaagreat", sum := "ae1bb429b1289a09bb4d6a8d00fe8d091ac57608e78132edb891e6faa2b6269e", func := "afterimage/afterimagetop.TopLives", spec := "topLives", inPlace := ["slices.overlaps[afterimage/ring.one[afterimage/api.Snap]]"], unfollowed := true, recurses := true, named := ["math/bits.divideError", "math/bits.overflowError"], apart := false, narrowed := true }
def TopLivesUptoSaid : Prop := topLivesUptoRow.holds Tryz.pinned (OpenSpec.upto topLivesSpec)

/-- 'afterimagetop.TopStill', WHERE WHAT IT READS IS OF BULK AT MOST 1048576: true; the input reads as it did. -/
def topStillUptoRow : OpenClaim := { program := "ytekdkckgmleofaagreat", sum := "ae1bb429b1289a09bb4d6a8d00fe8d091ac57608e78132edb891e6faa2b6269e", func := "afterimage/afterimagetop.TopStill", spec := "topStill", inPlace := ["slices.overlaps[afterimage/ring.one[afterimage/api.Snap]]"], unfollowed := true, recurses := true, named := ["math/bits.divideError", "math/bits.overflowError"], apart := false, narrowed := true }
def TopStillUptoSaid : Prop := topStillUptoRow.holds Tryz.pinned (OpenSpec.upto topStillSpec)

/-- 'afterimagetop.TopForward', WHERE WHAT IT READS IS OF BULK AT MOST 1048576: true; the input reads as it did. -/
def topForwardUptoRow : OpenClaim := { program := "ytekdkckgmleofaagreat", sum := "ae1bb429b1289a09bb4d6a8d00fe8d091ac57608e78132edb891e6faa2b6269e", func := "afterimage/afterimagetop.TopForward", spec := "topForward", inPlace := ["slices.overlaps[afterimage/ring.one[afterimage/api.Snap]]"], unfollowed := true, recurses := true, named := ["math/bits.divideError", "math/bits.overflowError"], apart := false, narrowed := true }
def TopForwardUptoSaid : Prop := topForwardUptoRow.holds Tryz.pinned (OpenSpec.upto topForwardSpec)

end Rows
end Go.Proofs.YtekdkckgmleofaaGreat
