/-
  No cell of these rows narrows 'for every input' (looked for: loops, veiled, ifaces, maps, wideKeys, modest, calm, conditions, laid).
  DERIVED. THE GIVEN ROWS OF THIS SEAT. 11 by the template 'for every input the law returns true; each argument reads behind the call as it read before'; 0 by the template 'total and deterministic' (their statements: YthieeidbfdhaaaaTotals.lean).
  GIVEN WITH THE SEED: the statements are not yours to turn. If you find one false, say at which input.
  Laid BY PROGRAM, IN A SANDBOX (cutbox-rows.mjs): the forced cells as the released guide's own fill.sh prints them over the translation f765f9a2c4a0a84a… (all of the seat's roots in one cut). By AI agents, Wed Nov 11 2026. No macro, syntax, notation, axiom, sorry.
-/
import Derived.Test.YthieeidbfdhaaaaChecked
import GoSem.Claim
import GoSem.ClaimJoined
import GoSem.ClaimMapViews
import Derived.JoinedTies
import Derived.KernelRfl
namespace Go.Proofs.Ythieeidbfdhaaaa
/- THE CELL 'sum', in the pinned program and in every row, IS THE sha256 OF THE DUMP (.gsa) THAT YthieeidbfdhaaaaProg.lean LOADS. Nothing in Lean hashes anything: it is a label: what it is worth is what the hold of that sum in a sandbox is worth. -/
noncomputable def Try.pinned : Pinned := { name := "ythieeidbfdhaaaa", sum := "f765f9a2c4a0a84a255e2902bace877edc23bf6a627f118b5d54adaf2784f203", checked := Try.checked }
namespace Rows
def none {H : Type} : Left H := { results := [], args := [] }

/-- 'revetmentlaw03.DiskPlays': WHATEVER THE INPUT: true; the input reads as it did. -/
def diskPlaysSpec : ChangeSpec := { name := "diskPlays", fn := fun _ => fun
  | [d1, d2] => { results := [.lit (.bool true)], args := [d1, d2] }
  | _ => none }
def diskPlaysRow : OpenClaim := { program := "ythieeidbfdhaaaa", sum := "f765f9a2c4a0a84a255e2902bace877edc23bf6a627f118b5d54adaf2784f203", func := "revetment/revetmentlaw03.DiskPlays", spec := "diskPlays", unfollowed := true, recurses := true, apart := false }
def DiskPlaysSaid : Prop := diskPlaysRow.holds Try.pinned (OpenSpec.ofChange diskPlaysSpec)

/-- ITS FALSE NEIGHBOUR: 'it returns false'. Refute it at one input. -/
def diskPlaysWrong : ChangeSpec := { name := "diskPlays", fn := fun _ => fun
  | [d1, d2] => { results := [.lit (.bool false)], args := [d1, d2] }
  | _ => none }
def DiskPlaysWrongFalsely : Prop := diskPlaysRow.holds Try.pinned (OpenSpec.ofChange diskPlaysWrong)

/-- 'revetmentlaw03.DiskSafe': WHATEVER THE INPUT: true; the input reads as it did. -/
def diskSafeSpec : ChangeSpec := { name := "diskSafe", fn := fun _ => fun
  | [d1, d2, d3] => { results := [.lit (.bool true)], args := [d1, d2, d3] }
  | _ => none }
def diskSafeRow : OpenClaim := { program := "ythieeidbfdhaaaa", sum := "f765f9a2c4a0a84a255e2902bace877edc23bf6a627f118b5d54adaf2784f203", func := "revetment/revetmentlaw03.DiskSafe", spec := "diskSafe", unfollowed := true, recurses := true, apart := false }
def DiskSafeSaid : Prop := diskSafeRow.holds Try.pinned (OpenSpec.ofChange diskSafeSpec)

/-- ITS FALSE NEIGHBOUR: 'it returns false'. Refute it at one input. -/
def diskSafeWrong : ChangeSpec := { name := "diskSafe", fn := fun _ => fun
  | [d1, d2, d3] => { results := [.lit (.bool false)], args := [d1, d2, d3] }
  | _ => none }
def DiskSafeWrongFalsely : Prop := diskSafeRow.holds Try.pinned (OpenSpec.ofChange diskSafeWrong)

/-- 'revetmentlaw03.DiskNone': WHATEVER THE INPUT: true; the input reads as it did. -/
def diskNoneSpec : ChangeSpec := { name := "diskNone", fn := fun _ => fun
  | [d] => { results := [.lit (.bool true)], args := [d] }
  | _ => none }
def diskNoneRow : OpenClaim := { program := "ythieeidbfdhaaaa", sum := "f765f9a2c4a0a84a255e2902bace877edc23bf6a627f118b5d54adaf2784f203", func := "revetment/revetmentlaw03.DiskNone", spec := "diskNone", unfollowed := true, recurses := true, apart := false }
def DiskNoneSaid : Prop := diskNoneRow.holds Try.pinned (OpenSpec.ofChange diskNoneSpec)

/-- ITS FALSE NEIGHBOUR: 'it returns false'. Refute it at one input. -/
def diskNoneWrong : ChangeSpec := { name := "diskNone", fn := fun _ => fun
  | [d] => { results := [.lit (.bool false)], args := [d] }
  | _ => none }
def DiskNoneWrongFalsely : Prop := diskNoneRow.holds Try.pinned (OpenSpec.ofChange diskNoneWrong)

/-- 'revetmentlaw03.DiskPicks': WHATEVER THE INPUT: true; the input reads as it did. -/
def diskPicksSpec : ChangeSpec := { name := "diskPicks", fn := fun _ => fun
  | [d1, d2] => { results := [.lit (.bool true)], args := [d1, d2] }
  | _ => none }
def diskPicksRow : OpenClaim := { program := "ythieeidbfdhaaaa", sum := "f765f9a2c4a0a84a255e2902bace877edc23bf6a627f118b5d54adaf2784f203", func := "revetment/revetmentlaw03.DiskPicks", spec := "diskPicks", unfollowed := true, recurses := true, apart := false }
def DiskPicksSaid : Prop := diskPicksRow.holds Try.pinned (OpenSpec.ofChange diskPicksSpec)

/-- ITS FALSE NEIGHBOUR: 'it returns false'. Refute it at one input. -/
def diskPicksWrong : ChangeSpec := { name := "diskPicks", fn := fun _ => fun
  | [d1, d2] => { results := [.lit (.bool false)], args := [d1, d2] }
  | _ => none }
def DiskPicksWrongFalsely : Prop := diskPicksRow.holds Try.pinned (OpenSpec.ofChange diskPicksWrong)

/-- 'revetmentlaw03.DiskReads': WHATEVER THE INPUT: true; the input reads as it did. -/
def diskReadsSpec : ChangeSpec := { name := "diskReads", fn := fun _ => fun
  | [d1, d2] => { results := [.lit (.bool true)], args := [d1, d2] }
  | _ => none }
def diskReadsRow : OpenClaim := { program := "ythieeidbfdhaaaa", sum := "f765f9a2c4a0a84a255e2902bace877edc23bf6a627f118b5d54adaf2784f203", func := "revetment/revetmentlaw03.DiskReads", spec := "diskReads", unfollowed := true, recurses := true, apart := false }
def DiskReadsSaid : Prop := diskReadsRow.holds Try.pinned (OpenSpec.ofChange diskReadsSpec)

/-- ITS FALSE NEIGHBOUR: 'it returns false'. Refute it at one input. -/
def diskReadsWrong : ChangeSpec := { name := "diskReads", fn := fun _ => fun
  | [d1, d2] => { results := [.lit (.bool false)], args := [d1, d2] }
  | _ => none }
def DiskReadsWrongFalsely : Prop := diskReadsRow.holds Try.pinned (OpenSpec.ofChange diskReadsWrong)

/-- 'revetmentlaw05.PageCodes': WHATEVER THE INPUT: true; the input reads as it did. -/
def pageCodesSpec : ChangeSpec := { name := "pageCodes", fn := fun _ => fun
  | [d1, d2] => { results := [.lit (.bool true)], args := [d1, d2] }
  | _ => none }
def pageCodesRow : OpenClaim := { program := "ythieeidbfdhaaaa", sum := "f765f9a2c4a0a84a255e2902bace877edc23bf6a627f118b5d54adaf2784f203", func := "revetment/revetmentlaw05.PageCodes", spec := "pageCodes", unfollowed := true, recurses := true, apart := false }
def PageCodesSaid : Prop := pageCodesRow.holds Try.pinned (OpenSpec.ofChange pageCodesSpec)

/-- ITS FALSE NEIGHBOUR: 'it returns false'. Refute it at one input. -/
def pageCodesWrong : ChangeSpec := { name := "pageCodes", fn := fun _ => fun
  | [d1, d2] => { results := [.lit (.bool false)], args := [d1, d2] }
  | _ => none }
def PageCodesWrongFalsely : Prop := pageCodesRow.holds Try.pinned (OpenSpec.ofChange pageCodesWrong)

/-- 'revetmentlaw05.PageCuts': WHATEVER THE INPUT: true; the input reads as it did. -/
def pageCutsSpec : ChangeSpec := { name := "pageCuts", fn := fun _ => fun
  | [d1, d2] => { results := [.lit (.bool true)], args := [d1, d2] }
  | _ => none }
def pageCutsRow : OpenClaim := { program := "ythieeidbfdhaaaa", sum := "f765f9a2c4a0a84a255e2902bace877edc23bf6a627f118b5d54adaf2784f203", func := "revetment/revetmentlaw05.PageCuts", spec := "pageCuts", unfollowed := true, recurses := true, apart := false }
def PageCutsSaid : Prop := pageCutsRow.holds Try.pinned (OpenSpec.ofChange pageCutsSpec)

/-- ITS FALSE NEIGHBOUR: 'it returns false'. Refute it at one input. -/
def pageCutsWrong : ChangeSpec := { name := "pageCuts", fn := fun _ => fun
  | [d1, d2] => { results := [.lit (.bool false)], args := [d1, d2] }
  | _ => none }
def PageCutsWrongFalsely : Prop := pageCutsRow.holds Try.pinned (OpenSpec.ofChange pageCutsWrong)

/-- 'revetmentlaw05.PageTurns': WHATEVER THE INPUT: true; the input reads as it did. -/
def pageTurnsSpec : ChangeSpec := { name := "pageTurns", fn := fun _ => fun
  | [d1, d2, d3] => { results := [.lit (.bool true)], args := [d1, d2, d3] }
  | _ => none }
def pageTurnsRow : OpenClaim := { program := "ythieeidbfdhaaaa", sum := "f765f9a2c4a0a84a255e2902bace877edc23bf6a627f118b5d54adaf2784f203", func := "revetment/revetmentlaw05.PageTurns", spec := "pageTurns", unfollowed := true, recurses := true, apart := false }
def PageTurnsSaid : Prop := pageTurnsRow.holds Try.pinned (OpenSpec.ofChange pageTurnsSpec)

/-- ITS FALSE NEIGHBOUR: 'it returns false'. Refute it at one input. -/
def pageTurnsWrong : ChangeSpec := { name := "pageTurns", fn := fun _ => fun
  | [d1, d2, d3] => { results := [.lit (.bool false)], args := [d1, d2, d3] }
  | _ => none }
def PageTurnsWrongFalsely : Prop := pageTurnsRow.holds Try.pinned (OpenSpec.ofChange pageTurnsWrong)

/-- 'revetmentlaw05.PageWhole': WHATEVER THE INPUT: true; the input reads as it did. -/
def pageWholeSpec : ChangeSpec := { name := "pageWhole", fn := fun _ => fun
  | [d] => { results := [.lit (.bool true)], args := [d] }
  | _ => none }
def pageWholeRow : OpenClaim := { program := "ythieeidbfdhaaaa", sum := "f765f9a2c4a0a84a255e2902bace877edc23bf6a627f118b5d54adaf2784f203", func := "revetment/revetmentlaw05.PageWhole", spec := "pageWhole", unfollowed := true, recurses := true, apart := false }
def PageWholeSaid : Prop := pageWholeRow.holds Try.pinned (OpenSpec.ofChange pageWholeSpec)

/-- ITS FALSE NEIGHBOUR: 'it returns false'. Refute it at one input. -/
def pageWholeWrong : ChangeSpec := { name := "pageWhole", fn := fun _ => fun
  | [d] => { results := [.lit (.bool false)], args := [d] }
  | _ => none }
def PageWholeWrongFalsely : Prop := pageWholeRow.holds Try.pinned (OpenSpec.ofChange pageWholeWrong)

/-- 'revetmentlaw05.PagePlaces': WHATEVER THE INPUT: true; the input reads as it did. -/
def pagePlacesSpec : ChangeSpec := { name := "pagePlaces", fn := fun _ => fun
  | [d1, d2] => { results := [.lit (.bool true)], args := [d1, d2] }
  | _ => none }
def pagePlacesRow : OpenClaim := { program := "ythieeidbfdhaaaa", sum := "f765f9a2c4a0a84a255e2902bace877edc23bf6a627f118b5d54adaf2784f203", func := "revetment/revetmentlaw05.PagePlaces", spec := "pagePlaces", unfollowed := true, recurses := true, apart := false }
def PagePlacesSaid : Prop := pagePlacesRow.holds Try.pinned (OpenSpec.ofChange pagePlacesSpec)

/-- ITS FALSE NEIGHBOUR: 'it returns false'. Refute it at one input. -/
def pagePlacesWrong : ChangeSpec := { name := "pagePlaces", fn := fun _ => fun
  | [d1, d2] => { results := [.lit (.bool false)], args := [d1, d2] }
  | _ => none }
def PagePlacesWrongFalsely : Prop := pagePlacesRow.holds Try.pinned (OpenSpec.ofChange pagePlacesWrong)

/-- 'revetmentlaw05.PageCounts': WHATEVER THE INPUT: true; the input reads as it did. -/
def pageCountsSpec : ChangeSpec := { name := "pageCounts", fn := fun _ => fun
  | [d] => { results := [.lit (.bool true)], args := [d] }
  | _ => none }
def pageCountsRow : OpenClaim := { program := "ythieeidbfdhaaaa", sum := "f765f9a2c4a0a84a255e2902bace877edc23bf6a627f118b5d54adaf2784f203", func := "revetment/revetmentlaw05.PageCounts", spec := "pageCounts", unfollowed := true, recurses := true, apart := false }
def PageCountsSaid : Prop := pageCountsRow.holds Try.pinned (OpenSpec.ofChange pageCountsSpec)

/-- ITS FALSE NEIGHBOUR: 'it returns false'. Refute it at one input. -/
def pageCountsWrong : ChangeSpec := { name := "pageCounts", fn := fun _ => fun
  | [d] => { results := [.lit (.bool false)], args := [d] }
  | _ => none }
def PageCountsWrongFalsely : Prop := pageCountsRow.holds Try.pinned (OpenSpec.ofChange pageCountsWrong)

/- THE SECOND FORM. 'bulk': how many values and letters a reading holds, each counted each time it is reached (what is shared counts as often as it is met; a slice's spare places count too). A statement '..UptoSaid' is the law's where the arguments, and the package variables that the reading takes, are together of bulk at most 1048576: NARROWER than '..Said'. Prove '..Said' where nothing that the law and all that it calls make is longer than what came in: it says more and counts as full. Else prove '..UptoSaid'. A law counts once. -/
mutual
def uptoBulk {H : Type} : DataW H → Nat
  | .lit (.string bytes) => bytes.length + 1
  | .lit _ => 1
  | .nil => 1
  | .ptr d => uptoBulk d + 1
  | .slice elems spare => uptoBulkAll elems + uptoBulkAll spare + 1
  | .agg parts => uptoBulkAll parts + 1
  | .iface _ d => uptoBulk d + 1
  | .map entries => uptoBulkEntries entries + 1
  | .held _ => 1
def uptoBulkAll {H : Type} : List (DataW H) → Nat
  | [] => 0
  | d :: r => uptoBulk d + uptoBulkAll r
def uptoBulkEntries {H : Type} : List (Lit × DataW H) → Nat
  | [] => 0
  | x :: r => uptoBulkEntry x + uptoBulkEntries r
def uptoBulkEntry {H : Type} : Lit × DataW H → Nat
  | (.string bytes, d) => bytes.length + uptoBulk d + 1
  | (_, d) => uptoBulk d + 1
 end
def uptoSmall : (H : Type) → List (DataW H) → Bool := fun _ ds => decide (uptoBulkAll ds ≤ 1048576)
def OpenSpec.upto (s : _root_.Go.ChangeSpec) : _root_.Go.OpenSpec := { _root_.Go.OpenSpec.ofChange s with cond := some uptoSmall }

/-- 'revetmentlaw03.DiskPlays', WHERE WHAT IT READS IS OF BULK AT MOST 1048576: true; the input reads as it did. -/
def diskPlaysUptoRow : OpenClaim := { program := "ythieeidbfdhaaaa", sum := "f765f9a2c4a0a84a255e2902bace877edc23bf6a627f118b5d54adaf2784f203", func := "revetment/revetmentlaw03.DiskPlays", spec := "diskPlays", unfollowed := true, recurses := true, apart := false, narrowed := true }
def DiskPlaysUptoSaid : Prop := diskPlaysUptoRow.holds Try.pinned (OpenSpec.upto diskPlaysSpec)

/-- 'revetmentlaw03.DiskSafe', WHERE WHAT IT READS IS OF BULK AT MOST 1048576: true; the input reads as it did. -/
def diskSafeUptoRow : OpenClaim := { program := "ythieeidbfdhaaaa", sum := "f765f9a2c4a0a84a255e2902bace877edc23bf6a627f118b5d54adaf2784f203", func := "revetment/revetmentlaw03.DiskSafe", spec := "diskSafe", unfollowed := true, recurses := true, apart := false, narrowed := true }
def DiskSafeUptoSaid : Prop := diskSafeUptoRow.holds Try.pinned (OpenSpec.upto diskSafeSpec)

/-- 'revetmentlaw03.DiskNone', WHERE WHAT IT READS IS OF BULK AT MOST 1048576: true; the input reads as it did. -/
def diskNoneUptoRow : OpenClaim := { program := "ythieeidbfdhaaaa", sum := "f765f9a2c4a0a84a255e2902bace877edc23bf6a627f118b5d54adaf2784f203", func := "revetment/revetmentlaw03.DiskNone", spec := "diskNone", unfollowed := true, recurses := true, apart := false, narrowed := true }
def DiskNoneUptoSaid : Prop := diskNoneUptoRow.holds Try.pinned (OpenSpec.upto diskNoneSpec)

/-- 'revetmentlaw03.DiskPicks', WHERE WHAT IT READS IS OF BULK AT MOST 1048576: true; the input reads as it did. -/
def diskPicksUptoRow : OpenClaim := { program := "ythieeidbfdhaaaa", sum := "f765f9a2c4a0a84a255e2902bace877edc23bf6a627f118b5d54adaf2784f203", func := "revetment/revetmentlaw03.DiskPicks", spec := "diskPicks", unfollowed := true, recurses := true, apart := false, narrowed := true }
def DiskPicksUptoSaid : Prop := diskPicksUptoRow.holds Try.pinned (OpenSpec.upto diskPicksSpec)

/-- 'revetmentlaw03.DiskReads', WHERE WHAT IT READS IS OF BULK AT MOST 1048576: true; the input reads as it did. -/
def diskReadsUptoRow : OpenClaim := { program := "ythieeidbfdhaaaa", sum := "f765f9a2c4a0a84a255e2902bace877edc23bf6a627f118b5d54adaf2784f203", func := "revetment/revetmentlaw03.DiskReads", spec := "diskReads", unfollowed := true, recurses := true, apart := false, narrowed := true }
def DiskReadsUptoSaid : Prop := diskReadsUptoRow.holds Try.pinned (OpenSpec.upto diskReadsSpec)

/-- 'revetmentlaw05.PageCodes', WHERE WHAT IT READS IS OF BULK AT MOST 1048576: true; the input reads as it did. -/
def pageCodesUptoRow : OpenClaim := { program := "ythieeidbfdhaaaa", sum := "f765f9a2c4a0a84a255e2902bace877edc23bf6a627f118b5d54adaf2784f203", func := "revetment/revetmentlaw05.PageCodes", spec := "pageCodes", unfollowed := true, recurses := true, apart := false, narrowed := true }
def PageCodesUptoSaid : Prop := pageCodesUptoRow.holds Try.pinned (OpenSpec.upto pageCodesSpec)

/-- 'revetmentlaw05.PageCuts', WHERE WHAT IT READS IS OF BULK AT MOST 1048576: true; the input reads as it did. -/
def pageCutsUptoRow : OpenClaim := { program := "ythieeidbfdhaaaa", sum := "f765f9a2c4a0a84a255e2902bace877edc23bf6a627f118b5d54adaf2784f203", func := "revetment/revetmentlaw05.PageCuts", spec := "pageCuts", unfollowed := true, recurses := true, apart := false, narrowed := true }
def PageCutsUptoSaid : Prop := pageCutsUptoRow.holds Try.pinned (OpenSpec.upto pageCutsSpec)

/-- 'revetmentlaw05.PageTurns', WHERE WHAT IT READS IS OF BULK AT MOST 1048576: true; the input reads as it did. -/
def pageTurnsUptoRow : OpenClaim := { program := "ythieeidbfdhaaaa", sum := "f765f9a2c4a0a84a255e2902bace877edc23bf6a627f118b5d54adaf2784f203", func := "revetment/revetmentlaw05.PageTurns", spec := "pageTurns", unfollowed := true, recurses := true, apart := false, narrowed := true }
def PageTurnsUptoSaid : Prop := pageTurnsUptoRow.holds Try.pinned (OpenSpec.upto pageTurnsSpec)

/-- 'revetmentlaw05.PageWhole', WHERE WHAT IT READS IS OF BULK AT MOST 1048576: true; the input reads as it did. -/
def pageWholeUptoRow : OpenClaim := { program := "ythieeidbfdhaaaa", sum := "f765f9a2c4a0a84a255e2902bace877edc23bf6a627f118b5d54adaf2784f203", func := "revetment/revetmentlaw05.PageWhole", spec := "pageWhole", unfollowed := true, recurses := true, apart := false, narrowed := true }
def PageWholeUptoSaid : Prop := pageWholeUptoRow.holds Try.pinned (OpenSpec.upto pageWholeSpec)

/-- 'revetmentlaw05.PagePlaces', WHERE WHAT IT READS IS OF BULK AT MOST 1048576: true; the input reads as it did. -/
def pagePlacesUptoRow : OpenClaim := { program := "ythieeidbfdhaaaa", sum := "f765f9a2c4a0a84a255e2902bace877edc23bf6a627f118b5d54adaf2784f203", func := "revetment/revetmentlaw05.PagePlaces", spec := "pagePlaces", unfollowed := true, recurses := true, apart := false, narrowed := true }
def PagePlacesUptoSaid : Prop := pagePlacesUptoRow.holds Try.pinned (OpenSpec.upto pagePlacesSpec)

/-- 'revetmentlaw05.PageCounts', WHERE WHAT IT READS IS OF BULK AT MOST 1048576: true; the input reads as it did. -/
def pageCountsUptoRow : OpenClaim := { program := "ythieeidbfdhaaaa", sum := "f765f9a2c4a0a84a255e2902bace877edc23bf6a627f118b5d54adaf2784f203", func := "revetment/revetmentlaw05.PageCounts", spec := "pageCounts", unfollowed := true, recurses := true, apart := false, narrowed := true }
def PageCountsUptoSaid : Prop := pageCountsUptoRow.holds Try.pinned (OpenSpec.upto pageCountsSpec)

end Rows
end Go.Proofs.Ythieeidbfdhaaaa
