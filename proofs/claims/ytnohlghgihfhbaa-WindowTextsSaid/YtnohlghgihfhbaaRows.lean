/-
  No cell of these rows narrows 'for every input' (looked for: loops, veiled, ifaces, maps, wideKeys, modest, calm, conditions, laid).
  DERIVED. THE GIVEN ROWS OF THIS SEAT. 6 by the template 'for every input the law returns true; each argument reads behind the call as it read before'; 0 by the template 'total and deterministic' (their statements: YtnohlghgihfhbaaTotals.lean).
  GIVEN WITH THE SEED: the statements are not yours to turn. If you find one false, say at which input.
  Laid BY PROGRAM, IN A SANDBOX (cutbox-rows.mjs): the forced cells as the released guide's own fill.sh prints them over the translation 831983f707602adc… (all of the seat's roots in one cut). By AI agents, Wed Nov 11 2026. No macro, syntax, notation, axiom, sorry.
-/
import Derived.Test.YtnohlghgihfhbaaChecked
import GoSem.Claim
import GoSem.ClaimJoined
import GoSem.ClaimMapViews
import Derived.JoinedTies
import Derived.KernelRfl
namespace Go.Proofs.Ytnohlghgihfhbaa
/- THE CELL 'sum', in the pinned program and in every row, IS THE sha256 OF THE DUMP (.gsa) THAT YtnohlghgihfhbaaProg.lean LOADS. Nothing in Lean hashes anything: it is a label: what it is worth is what the hold of that sum in a sandbox is worth. -/
noncomputable def Try.pinned : Pinned := { name := "ytnohlghgihfhbaa", sum := "831983f707602adce1b8b2b6532007bfd7960ccb74af98f52857340df31956ac", checked := Try.checked }
namespace Rows
def none {H : Type} : Left H := { results := [], args := [] }

/-- 'afterimagelaw13.WindowTexts': WHATEVER THE INPUT: true; the input reads as it did. -/
def windowTextsSpec : ChangeSpec := { name := "windowTexts", fn := fun _ => fun
  | [d1, d2] => { results := [.lit (.bool true)], args := [d1, d2] }
  | _ => none }
def windowTextsRow : OpenClaim := { program := "ytnohlghgihfhbaa", sum := "831983f707602adce1b8b2b6532007bfd7960ccb74af98f52857340df31956ac", func := "afterimage/afterimagelaw13.WindowTexts", spec := "windowTexts", unfollowed := true, recurses := true, apart := false }
def WindowTextsSaid : Prop := windowTextsRow.holds Try.pinned (OpenSpec.ofChange windowTextsSpec)

/-- ITS FALSE NEIGHBOUR: 'it returns false'. Refute it at one input. -/
def windowTextsWrong : ChangeSpec := { name := "windowTexts", fn := fun _ => fun
  | [d1, d2] => { results := [.lit (.bool false)], args := [d1, d2] }
  | _ => none }
def WindowTextsWrongFalsely : Prop := windowTextsRow.holds Try.pinned (OpenSpec.ofChange windowTextsWrong)

/-- 'afterimagelaw13.WindowFalls': WHATEVER THE INPUT: true; the input reads as it did. -/
def windowFallsSpec : ChangeSpec := { name := "windowFalls", fn := fun _ => fun
  | [d1, d2] => { results := [.lit (.bool true)], args := [d1, d2] }
  | _ => none }
def windowFallsRow : OpenClaim := { program := "ytnohlghgihfhbaa", sum := "831983f707602adce1b8b2b6532007bfd7960ccb74af98f52857340df31956ac", func := "afterimage/afterimagelaw13.WindowFalls", spec := "windowFalls", unfollowed := true, recurses := true, apart := false }
def WindowFallsSaid : Prop := windowFallsRow.holds Try.pinned (OpenSpec.ofChange windowFallsSpec)

/-- ITS FALSE NEIGHBOUR: 'it returns false'. Refute it at one input. -/
def windowFallsWrong : ChangeSpec := { name := "windowFalls", fn := fun _ => fun
  | [d1, d2] => { results := [.lit (.bool false)], args := [d1, d2] }
  | _ => none }
def WindowFallsWrongFalsely : Prop := windowFallsRow.holds Try.pinned (OpenSpec.ofChange windowFallsWrong)

/-- 'afterimagelaw13.WindowMirrors': WHATEVER THE INPUT: true; the input reads as it did. -/
def windowMirrorsSpec : ChangeSpec := { name := "windowMirrors", fn := fun _ => fun
  | [d1, d2] => { results := [.lit (.bool true)], args := [d1, d2] }
  | _ => none }
def windowMirrorsRow : OpenClaim := { program := "ytnohlghgihfhbaa", sum := "831983f707602adce1b8b2b6532007bfd7960ccb74af98f52857340df31956ac", func := "afterimage/afterimagelaw13.WindowMirrors", spec := "windowMirrors", unfollowed := true, recurses := true, apart := false }
def WindowMirrorsSaid : Prop := windowMirrorsRow.holds Try.pinned (OpenSpec.ofChange windowMirrorsSpec)

/-- ITS FALSE NEIGHBOUR: 'it returns false'. Refute it at one input. -/
def windowMirrorsWrong : ChangeSpec := { name := "windowMirrors", fn := fun _ => fun
  | [d1, d2] => { results := [.lit (.bool false)], args := [d1, d2] }
  | _ => none }
def WindowMirrorsWrongFalsely : Prop := windowMirrorsRow.holds Try.pinned (OpenSpec.ofChange windowMirrorsWrong)

/-- 'afterimagelaw13.WindowForgets': WHATEVER THE INPUT: true; the input reads as it did. -/
def windowForgetsSpec : ChangeSpec := { name := "windowForgets", fn := fun _ => fun
  | [d1, d2, d3] => { results := [.lit (.bool true)], args := [d1, d2, d3] }
  | _ => none }
def windowForgetsRow : OpenClaim := { program := "ytnohlghgihfhbaa", sum := "831983f707602adce1b8b2b6532007bfd7960ccb74af98f52857340df31956ac", func := "afterimage/afterimagelaw13.WindowForgets", spec := "windowForgets", unfollowed := true, recurses := true, apart := false }
def WindowForgetsSaid : Prop := windowForgetsRow.holds Try.pinned (OpenSpec.ofChange windowForgetsSpec)

/-- ITS FALSE NEIGHBOUR: 'it returns false'. Refute it at one input. -/
def windowForgetsWrong : ChangeSpec := { name := "windowForgets", fn := fun _ => fun
  | [d1, d2, d3] => { results := [.lit (.bool false)], args := [d1, d2, d3] }
  | _ => none }
def WindowForgetsWrongFalsely : Prop := windowForgetsRow.holds Try.pinned (OpenSpec.ofChange windowForgetsWrong)

/-- 'afterimagelaw13.WindowAdds': WHATEVER THE INPUT: true; the input reads as it did. -/
def windowAddsSpec : ChangeSpec := { name := "windowAdds", fn := fun _ => fun
  | [d1, d2] => { results := [.lit (.bool true)], args := [d1, d2] }
  | _ => none }
def windowAddsRow : OpenClaim := { program := "ytnohlghgihfhbaa", sum := "831983f707602adce1b8b2b6532007bfd7960ccb74af98f52857340df31956ac", func := "afterimage/afterimagelaw13.WindowAdds", spec := "windowAdds", unfollowed := true, recurses := true, apart := false }
def WindowAddsSaid : Prop := windowAddsRow.holds Try.pinned (OpenSpec.ofChange windowAddsSpec)

/-- ITS FALSE NEIGHBOUR: 'it returns false'. Refute it at one input. -/
def windowAddsWrong : ChangeSpec := { name := "windowAdds", fn := fun _ => fun
  | [d1, d2] => { results := [.lit (.bool false)], args := [d1, d2] }
  | _ => none }
def WindowAddsWrongFalsely : Prop := windowAddsRow.holds Try.pinned (OpenSpec.ofChange windowAddsWrong)

/-- 'afterimagelaw13.WindowNone': WHATEVER THE INPUT: true; the input reads as it did. -/
def windowNoneSpec : ChangeSpec := { name := "windowNone", fn := fun _ => fun
  | [d1, d2] => { results := [.lit (.bool true)], args := [d1, d2] }
  | _ => none }
def windowNoneRow : OpenClaim := { program := "ytnohlghgihfhbaa", sum := "831983f707602adce1b8b2b6532007bfd7960ccb74af98f52857340df31956ac", func := "afterimage/afterimagelaw13.WindowNone", spec := "windowNone", unfollowed := true, recurses := true, apart := false }
def WindowNoneSaid : Prop := windowNoneRow.holds Try.pinned (OpenSpec.ofChange windowNoneSpec)

/-- ITS FALSE NEIGHBOUR: 'it returns false'. Refute it at one input. -/
def windowNoneWrong : ChangeSpec := { name := "windowNone", fn := fun _ => fun
  | [d1, d2] => { results := [.lit (.bool false)], args := [d1, d2] }
  | _ => none }
def WindowNoneWrongFalsely : Prop := windowNoneRow.holds Try.pinned (OpenSpec.ofChange windowNoneWrong)

/- THE SECOND FORM. 'bulk': how many values and letters a reading holds, each counted each time it is reached (what is shared counts as often as it is met; a slice's spare places count too). A statement '..UptoSaid' is the law's where the arguments, and the package variables that the reading takes, are together of bulk at most 1048576: NARROWER than '..Said'. Prove '..Said' where nothing that the law and all that it calls make is longer than what came in: it says more and counts as full. Else prove '..UptoSaid'. A law counts once. -/
mutual
def uptoBulk {H : Type} : DataW H → Nat
  | .lit (.string bytes) => bytes.length + 1
  | .lit _ => 1
  | .nil => 1
  | .ptr d => uptoBulk d + 1
  | .slice elems spare => uptoBulkAll elems + uptoBulkAll spare + 1
  | .agg parts => uptoBulkAll parts + 1
  | .iface _ d => uptoBulk d + 1
  | .map entries => uptoBulkEntries entries + 1
  | .held _ => 1
def uptoBulkAll {H : Type} : List (DataW H) → Nat
  | [] => 0
  | d :: r => uptoBulk d + uptoBulkAll r
def uptoBulkEntries {H : Type} : List (Lit × DataW H) → Nat
  | [] => 0
  | x :: r => uptoBulkEntry x + uptoBulkEntries r
def uptoBulkEntry {H : Type} : Lit × DataW H → Nat
  | (.string bytes, d) => bytes.length + uptoBulk d + 1
  | (_, d) => uptoBulk d + 1
 end
def uptoSmall : (H : Type) → List (DataW H) → Bool := fun _ ds => decide (uptoBulkAll ds ≤ 1048576)
def OpenSpec.upto (s : _root_.Go.ChangeSpec) : _root_.Go.OpenSpec := { _root_.Go.OpenSpec.ofChange s with cond := some uptoSmall }

/-- 'afterimagelaw13.WindowTexts', WHERE WHAT IT READS IS OF BULK AT MOST 1048576: true; the input reads as it did. -/
def windowTextsUptoRow : OpenClaim := { program := "ytnohlghgihfhbaa", sum := "831983f707602adce1b8b2b6532007bfd7960ccb74af98f52857340df31956ac", func := "afterimage/afterimagelaw13.WindowTexts", spec := "windowTexts", unfollowed := true, recurses := true, apart := false, narrowed := true }
def WindowTextsUptoSaid : Prop := windowTextsUptoRow.holds Try.pinned (OpenSpec.upto windowTextsSpec)

/-- 'afterimagelaw13.WindowFalls', WHERE WHAT IT READS IS OF BULK AT MOST 1048576: true; the input reads as it did. -/
def windowFallsUptoRow : OpenClaim := { program := "ytnohlghgihfhbaa", sum := "831983f707602adce1b8b2b6532007bfd7960ccb74af98f52857340df31956ac", func := "afterimage/afterimagelaw13.WindowFalls", spec := "windowFalls", unfollowed := true, recurses := true, apart := false, narrowed := true }
def WindowFallsUptoSaid : Prop := windowFallsUptoRow.holds Try.pinned (OpenSpec.upto windowFallsSpec)

/-- 'afterimagelaw13.WindowMirrors', WHERE WHAT IT READS IS OF BULK AT MOST 1048576: true; the input reads as it did. -/
def windowMirrorsUptoRow : OpenClaim := { program := "ytnohlghgihfhbaa", sum := "831983f707602adce1b8b2b6532007bfd7960ccb74af98f52857340df31956ac", func := "afterimage/afterimagelaw13.WindowMirrors", spec := "windowMirrors", unfollowed := true, recurses := true, apart := false, narrowed := true }
def WindowMirrorsUptoSaid : Prop := windowMirrorsUptoRow.holds Try.pinned (OpenSpec.upto windowMirrorsSpec)

/-- 'afterimagelaw13.WindowForgets', WHERE WHAT IT READS IS OF BULK AT MOST 1048576: true; the input reads as it did. -/
def windowForgetsUptoRow : OpenClaim := { program := "ytnohlghgihfhbaa", sum := "831983f707602adce1b8b2b6532007bfd7960ccb74af98f52857340df31956ac", func := "afterimage/afterimagelaw13.WindowForgets", spec := "windowForgets", unfollowed := true, recurses := true, apart := false, narrowed := true }
def WindowForgetsUptoSaid : Prop := windowForgetsUptoRow.holds Try.pinned (OpenSpec.upto windowForgetsSpec)

/-- 'afterimagelaw13.WindowAdds', WHERE WHAT IT READS IS OF BULK AT MOST 1048576: true; the input reads as it did. -/
def windowAddsUptoRow : OpenClaim := { program := "ytnohlghgihfhbaa", sum := "831983f707602adce1b8b2b6532007bfd7960ccb74af98f52857340df31956ac", func := "afterimage/afterimagelaw13.WindowAdds", spec := "windowAdds", unfollowed := true, recurses := true, apart := false, narrowed := true }
def WindowAddsUptoSaid : Prop := windowAddsUptoRow.holds Try.pinned (OpenSpec.upto windowAddsSpec)

/-- 'afterimagelaw13.WindowNone', WHERE WHAT IT READS IS OF BULK AT MOST 1048576: true; the input reads as it did. -/
def windowNoneUptoRow : OpenClaim := { program := "ytnohlghgihfhbaa", sum := "831983f707602adce1b8b2b6532007bfd7960ccb74af98f52857340df31956ac", func := "afterimage/afterimagelaw13.WindowNone", spec := "windowNone", unfollowed := true, recurses := true, apart := false, narrowed := true }
def WindowNoneUptoSaid : Prop := windowNoneUptoRow.holds Try.pinned (OpenSpec.upto windowNoneSpec)

end Rows
end Go.Proofs.Ytnohlghgihfhbaa
