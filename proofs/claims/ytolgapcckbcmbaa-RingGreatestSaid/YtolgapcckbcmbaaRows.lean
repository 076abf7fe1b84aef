/-
  No cell of these rows narrows 'for every input' (looked for: loops, veiled, ifaces, maps, wideKeys, modest, calm, conditions, laid).
  DERIVED. THE GIVEN ROWS OF THIS SEAT. 6 by the template 'for every input the law returns true; each argument reads behind the call as it read before'; 0 by the template 'total and deterministic' (their statements: YtolgapcckbcmbaaTotals.lean).
  GIVEN WITH THE SEED: the statements are not yours to turn. If you find one false, say at which input.
  Laid BY PROGRAM, IN A SANDBOX (cutbox-rows.mjs): the forced cells as the released guide's own fill.sh prints them over the translation 7f00b0dc126e87eb… (all of the seat's roots in one cut). By AI agents, Wed Nov 11 2026. No macro, syntax, notation, axiom, sorry.
-/
import Derived.Test.YtolgapcckbcmbaaChecked
import GoSem.Claim
import GoSem.ClaimJoined
import GoSem.ClaimMapViews
import Derived.JoinedTies
import Derived.KernelRfl
namespace Go.Proofs.Ytolgapcckbcmbaa
/- THE CELL 'sum', in the pinned program and in every row, IS THE sha256 OF THE DUMP (.gsa) THAT YtolgapcckbcmbaaProg.lean LOADS. Nothing in Lean hashes anything: it is a label: what it is worth is what the hold of that sum in a sandbox is worth. -/
noncomputable def Try.pinned : Pinned := { name := "ytolgapcckbcmbaa", sum := "7f00b0dc126e87eb6b22b24daf05f9f0c06bb9767f0b315f33f2269c19f8589c", checked := Try.checked }
namespace Rows
def none {H : Type} : Left H := { results := [], args := [] }

/-- 'afterimagelaw11.RingTypes': WHATEVER THE INPUT: true; the input reads as it did. -/
def ringTypesSpec : ChangeSpec := { name := "ringTypes", fn := fun _ => fun
  | [d1, d2] => { results := [.lit (.bool true)], args := [d1, d2] }
  | _ => none }
def ringTypesRow : OpenClaim := { program := "ytolgapcckbcmbaa", sum := "7f00b0dc126e87eb6b22b24daf05f9f0c06bb9767f0b315f33f2269c19f8589c", func := "afterimage/afterimagelaw11.RingTypes", spec := "ringTypes", inPlace := ["slices.overlaps[afterimage/ring.one[string]]", "slices.overlaps[afterimage/ring.one[int64]]"], unfollowed := true, recurses := true, apart := false }
def RingTypesSaid : Prop := ringTypesRow.holds Try.pinned (OpenSpec.ofChange ringTypesSpec)

/-- ITS FALSE NEIGHBOUR: 'it returns false'. Refute it at one input. -/
def ringTypesWrong : ChangeSpec := { name := "ringTypes", fn := fun _ => fun
  | [d1, d2] => { results := [.lit (.bool false)], args := [d1, d2] }
  | _ => none }
def RingTypesWrongFalsely : Prop := ringTypesRow.holds Try.pinned (OpenSpec.ofChange ringTypesWrong)

/-- 'afterimagelaw11.RingRising': WHATEVER THE INPUT: true; the input reads as it did. -/
def ringRisingSpec : ChangeSpec := { name := "ringRising", fn := fun _ => fun
  | [d1, d2] => { results := [.lit (.bool true)], args := [d1, d2] }
  | _ => none }
def ringRisingRow : OpenClaim := { program := "ytolgapcckbcmbaa", sum := "7f00b0dc126e87eb6b22b24daf05f9f0c06bb9767f0b315f33f2269c19f8589c", func := "afterimage/afterimagelaw11.RingRising", spec := "ringRising", inPlace := ["slices.overlaps[afterimage/ring.one[string]]", "slices.overlaps[afterimage/ring.one[int]]"], unfollowed := true, recurses := true, apart := false }
def RingRisingSaid : Prop := ringRisingRow.holds Try.pinned (OpenSpec.ofChange ringRisingSpec)

/-- ITS FALSE NEIGHBOUR: 'it returns false'. Refute it at one input. -/
def ringRisingWrong : ChangeSpec := { name := "ringRising", fn := fun _ => fun
  | [d1, d2] => { results := [.lit (.bool false)], args := [d1, d2] }
  | _ => none }
def RingRisingWrongFalsely : Prop := ringRisingRow.holds Try.pinned (OpenSpec.ofChange ringRisingWrong)

/-- 'afterimagelaw11.RingGreatest': WHATEVER THE INPUT: true; the input reads as it did. -/
def ringGreatestSpec : ChangeSpec := { name := "ringGreatest", fn := fun _ => fun
  | [d1, d2] => { results := [.lit (.bool true)], args := [d1, d2] }
  | _ => none }
def ringGreatestRow : OpenClaim := { program := "ytolgapcckbcmbaa", sum := "7f00b0dc126e87eb6b22b24daf05f9f0c06bb9767f0b315f33f2269c19f8589c", func := "afterimage/afterimagelaw11.RingGreatest", spec := "ringGreatest", inPlace := ["slices.overlaps[afterimage/ring.one[string]]", "slices.overlaps[afterimage/ring.one[int]]"], unfollowed := true, recurses := true, apart := false }
def RingGreatestSaid : Prop := ringGreatestRow.holds Try.pinned (OpenSpec.ofChange ringGreatestSpec)

/-- ITS FALSE NEIGHBOUR: 'it returns false'. Refute it at one input. -/
def ringGreatestWrong : ChangeSpec := { name := "ringGreatest", fn := fun _ => fun
  | [d1, d2] => { results := [.lit (.bool false)], args := [d1, d2] }
  | _ => none }
def RingGreatestWrongFalsely : Prop := ringGreatestRow.holds Try.pinned (OpenSpec.ofChange ringGreatestWrong)

/-- 'afterimagelaw11.RingSeeks': WHATEVER THE INPUT: true; the input reads as it did. -/
def ringSeeksSpec : ChangeSpec := { name := "ringSeeks", fn := fun _ => fun
  | [d1, d2, d3] => { results := [.lit (.bool true)], args := [d1, d2, d3] }
  | _ => none }
def ringSeeksRow : OpenClaim := { program := "ytolgapcckbcmbaa", sum := "7f00b0dc126e87eb6b22b24daf05f9f0c06bb9767f0b315f33f2269c19f8589c", func := "afterimage/afterimagelaw11.RingSeeks", spec := "ringSeeks", inPlace := ["slices.overlaps[afterimage/ring.one[string]]"], unfollowed := true, recurses := true, apart := false }
def RingSeeksSaid : Prop := ringSeeksRow.holds Try.pinned (OpenSpec.ofChange ringSeeksSpec)

/-- ITS FALSE NEIGHBOUR: 'it returns false'. Refute it at one input. -/
def ringSeeksWrong : ChangeSpec := { name := "ringSeeks", fn := fun _ => fun
  | [d1, d2, d3] => { results := [.lit (.bool false)], args := [d1, d2, d3] }
  | _ => none }
def RingSeeksWrongFalsely : Prop := ringSeeksRow.holds Try.pinned (OpenSpec.ofChange ringSeeksWrong)

/-- 'afterimagelaw11.RingActs': WHATEVER THE INPUT: true; the input reads as it did. -/
def ringActsSpec : ChangeSpec := { name := "ringActs", fn := fun _ => fun
  | [d1, d2] => { results := [.lit (.bool true)], args := [d1, d2] }
  | _ => none }
def ringActsRow : OpenClaim := { program := "ytolgapcckbcmbaa", sum := "7f00b0dc126e87eb6b22b24daf05f9f0c06bb9767f0b315f33f2269c19f8589c", func := "afterimage/afterimagelaw11.RingActs", spec := "ringActs", inPlace := ["slices.overlaps[afterimage/ring.one[string]]"], unfollowed := true, recurses := true, apart := false }
def RingActsSaid : Prop := ringActsRow.holds Try.pinned (OpenSpec.ofChange ringActsSpec)

/-- ITS FALSE NEIGHBOUR: 'it returns false'. Refute it at one input. -/
def ringActsWrong : ChangeSpec := { name := "ringActs", fn := fun _ => fun
  | [d1, d2] => { results := [.lit (.bool false)], args := [d1, d2] }
  | _ => none }
def RingActsWrongFalsely : Prop := ringActsRow.holds Try.pinned (OpenSpec.ofChange ringActsWrong)

/-- 'afterimagelaw11.RingNone': WHATEVER THE INPUT: true; the input reads as it did. -/
def ringNoneSpec : ChangeSpec := { name := "ringNone", fn := fun _ => fun
  | [d1, d2, d3] => { results := [.lit (.bool true)], args := [d1, d2, d3] }
  | _ => none }
def ringNoneRow : OpenClaim := { program := "ytolgapcckbcmbaa", sum := "7f00b0dc126e87eb6b22b24daf05f9f0c06bb9767f0b315f33f2269c19f8589c", func := "afterimage/afterimagelaw11.RingNone", spec := "ringNone", inPlace := ["slices.overlaps[afterimage/ring.one[string]]", "slices.overlaps[afterimage/ring.one[int]]"], unfollowed := true, recurses := true, apart := false }
def RingNoneSaid : Prop := ringNoneRow.holds Try.pinned (OpenSpec.ofChange ringNoneSpec)

/-- ITS FALSE NEIGHBOUR: 'it returns false'. Refute it at one input. -/
def ringNoneWrong : ChangeSpec := { name := "ringNone", fn := fun _ => fun
  | [d1, d2, d3] => { results := [.lit (.bool false)], args := [d1, d2, d3] }
  | _ => none }
def RingNoneWrongFalsely : Prop := ringNoneRow.holds Try.pinned (OpenSpec.ofChange ringNoneWrong)

/- THE SECOND FORM. 'bulk': how many values and letters a reading holds, each counted each time it is reached (what is shared counts as often as it is met; a slice's spare places count too). A statement '..UptoSaid' is the law's where the arguments, and the package variables that the reading takes, are together of bulk at most 1048576: NARROWER than '..Said'. Prove '..Said' where nothing that the law and all that it calls make is longer than what came in: it says more and counts as full. Else prove '..UptoSaid'. A law counts once. -/
mutual
def uptoBulk {H : Type} : DataW H → Nat
  | .lit (.string bytes) => bytes.length + 1
  | .lit _ => 1
  | .nil => 1
  | .ptr d => uptoBulk d + 1
  | .slice elems spare => uptoBulkAll elems + uptoBulkAll spare + 1
  | .agg parts => uptoBulkAll parts + 1
  | .iface _ d => uptoBulk d + 1
  | .map entries => uptoBulkEntries entries + 1
  | .held _ => 1
def uptoBulkAll {H : Type} : List (DataW H) → Nat
  | [] => 0
  | d :: r => uptoBulk d + uptoBulkAll r
def uptoBulkEntries {H : Type} : List (Lit × DataW H) → Nat
  | [] => 0
  | x :: r => uptoBulkEntry x + uptoBulkEntries r
def uptoBulkEntry {H : Type} : Lit × DataW H → Nat
  | (.string bytes, d) => bytes.length + uptoBulk d + 1
  | (_, d) => uptoBulk d + 1
 end
def uptoSmall : (H : Type) → List (DataW H) → Bool := fun _ ds => decide (uptoBulkAll ds ≤ 1048576)
def OpenSpec.upto (s : _root_.Go.ChangeSpec) : _root_.Go.OpenSpec := { _root_.Go.OpenSpec.ofChange s with cond := some uptoSmall }

/-- 'afterimagelaw11.RingTypes', WHERE WHAT IT READS IS OF BULK AT MOST 1048576: true; the input reads as it did. -/
def ringTypesUptoRow : OpenClaim := { program := "ytolgapcckbcmbaa", sum := "7f00b0dc126e87eb6b22b24daf05f9f0c06bb9767f0b315f33f2269c19f8589c", func := "afterimage/afterimagelaw11.RingTypes", spec := "ringTypes", inPlace := ["slices.overlaps[afterimage/ring.one[string]]", "slices.overlaps[afterimage/ring.one[int64]]"], unfollowed := true, recurses := true, apart := false, narrowed := true }
def RingTypesUptoSaid : Prop := ringTypesUptoRow.holds Try.pinned (OpenSpec.upto ringTypesSpec)

/-- 'afterimagelaw11.RingRising', WHERE WHAT IT READS IS OF BULK AT MOST 1048576: true; the input reads as it did. -/
def ringRisingUptoRow : OpenClaim := { program := "ytolgapcckbcmbaa", sum := "7f00b0dc126e87eb6b22b24daf05f9f0c06bb9767f0b315f33f2269c19f8589c", func := "afterimage/afterimagelaw11.RingRising", spec := "ringRising", inPlace := ["slices.overlaps[afterimage/ring.one[string]]", "slices.overlaps[afterimage/ring.one[int]]"], unfollowed := true, recurses := true, apart := false, narrowed := true }
def RingRisingUptoSaid : Prop := ringRisingUptoRow.holds Try.pinned (OpenSpec.upto ringRisingSpec)

/-- 'afterimagelaw11.RingGreatest', WHERE WHAT IT READS IS OF BULK AT MOST 1048576: true; the input reads as it did. -/
def ringGreatestUptoRow : OpenClaim := { program := "ytolgapcckbcmbaa", sum := "7f00b0dc126e87eb6b22b24daf05f9f0c06bb9767f0b315f33f2269c19f8589c", func := "afterimage/afterimagelaw11.RingGreatest", spec := "ringGreatest", inPlace := ["slices.overlaps[afterimage/ring.one[string]]", "slices.overlaps[afterimage/ring.one[int]]"], unfollowed := true, recurses := true, apart := false, narrowed := true }
def RingGreatestUptoSaid : Prop := ringGreatestUptoRow.holds Try.pinned (OpenSpec.upto ringGreatestSpec)

/-- 'afterimagelaw11.RingSeeks', WHERE WHAT IT READS IS OF BULK AT MOST 1048576: true; the input reads as it did. -/
def ringSeeksUptoRow : OpenClaim := { program := "ytolgapcckbcmbaa", sum := "7f00b0dc126e87eb6b22b24daf05f9f0c06bb9767f0b315f33f2269c19f8589c", func := "afterimage/afterimagelaw11.RingSeeks", spec := "ringSeeks", inPlace := ["slices.overlaps[afterimage/ring.one[string]]"], unfollowed := true, recurses := true, apart := false, narrowed := true }
def RingSeeksUptoSaid : Prop := ringSeeksUptoRow.holds Try.pinned (OpenSpec.upto ringSeeksSpec)

/-- 'afterimagelaw11.RingActs', WHERE WHAT IT READS IS OF BULK AT MOST 1048576: true; the input reads as it did. -/
def ringActsUptoRow : OpenClaim := { program := "ytolgapcckbcmbaa", sum := "7f00b0dc126e87eb6b22b24daf05f9f0c06bb9767f0b315f33f2269c19f8589c", func := "afterimage/afterimagelaw11.RingActs", spec := "ringActs", inPlace := ["slices.overlaps[afterimage/ring.one[string]]"], unfollowed := true, recurses := true, apart := false, narrowed := true }
def RingActsUptoSaid : Prop := ringActsUptoRow.holds Try.pinned (OpenSpec.upto ringActsSpec)

/-- 'afterimagelaw11.RingNone', WHERE WHAT IT READS IS OF BULK AT MOST 1048576: true; the input reads as it did. -/
def ringNoneUptoRow : OpenClaim := { program := "ytolgapcckbcmbaa", sum := "7f00b0dc126e87eb6b22b24daf05f9f0c06bb9767f0b315f33f2269c19f8589c", func := "afterimage/afterimagelaw11.RingNone", spec := "ringNone", inPlace := ["slices.overlaps[afterimage/ring.one[string]]", "slices.overlaps[afterimage/ring.one[int]]"], unfollowed := true, recurses := true, apart := false, narrowed := true }
def RingNoneUptoSaid : Prop := ringNoneUptoRow.holds Try.pinned (OpenSpec.upto ringNoneSpec)

end Rows
end Go.Proofs.Ytolgapcckbcmbaa
