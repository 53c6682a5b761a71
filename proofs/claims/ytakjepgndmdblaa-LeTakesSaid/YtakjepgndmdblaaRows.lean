/-
  No cell of these rows narrows 'for every input' (looked for: loops, veiled, ifaces, maps, wideKeys, modest, calm, conditions, laid).
  DERIVED. THE GIVEN ROWS OF THIS SEAT. 9 by the template 'for every input the law returns true; each argument reads behind the call as it read before'; 0 by the template 'total and deterministic' (their statements: YtakjepgndmdblaaTotals.lean).
  GIVEN WITH THE SEED: the statements are not yours to turn. If you find one false, say at which input.
  Laid BY PROGRAM, IN A SANDBOX (cutbox-rows.mjs): the forced cells as the released guide's own fill.sh prints them over the translation 60f90d345e7c6151… (all of the seat's roots in one cut). By AI agents, Wed Nov 11 2026. No macro, syntax, notation, axiom, sorry.
-/
import Derived.Test.YtakjepgndmdblaaChecked
import GoSem.Claim
import GoSem.ClaimJoined
import GoSem.ClaimMapViews
import Derived.JoinedTies
import Derived.KernelRfl
namespace Go.Proofs.Ytakjepgndmdblaa
/- THE CELL 'sum', in the pinned program and in every row, IS THE sha256 OF THE DUMP (.gsa) THAT YtakjepgndmdblaaProg.lean LOADS. Nothing in Lean hashes anything: it is a label: what it is worth is what the hold of that sum in a sandbox is worth. -/
noncomputable def Try.pinned : Pinned := { name := "ytakjepgndmdblaa", sum := "60f90d345e7c6151378db6ec9cc68001e764cdc232beac5d56f42fd6b0c656f0", checked := Try.checked }
namespace Rows
def none {H : Type} : Left H := { results := [], args := [] }

/-- 'revetmentlaw02.FnvChecks': WHATEVER THE INPUT: true; the input reads as it did. -/
def fnvChecksSpec : ChangeSpec := { name := "fnvChecks", fn := fun _ => fun
  | [d1, d2] => { results := [.lit (.bool true)], args := [d1, d2] }
  | _ => none }
def fnvChecksRow : OpenClaim := { program := "ytakjepgndmdblaa", sum := "60f90d345e7c6151378db6ec9cc68001e764cdc232beac5d56f42fd6b0c656f0", func := "revetment/revetmentlaw02.FnvChecks", spec := "fnvChecks", unfollowed := true, recurses := true, apart := false }
def FnvChecksSaid : Prop := fnvChecksRow.holds Try.pinned (OpenSpec.ofChange fnvChecksSpec)

/-- ITS FALSE NEIGHBOUR: 'it returns false'. Refute it at one input. -/
def fnvChecksWrong : ChangeSpec := { name := "fnvChecks", fn := fun _ => fun
  | [d1, d2] => { results := [.lit (.bool false)], args := [d1, d2] }
  | _ => none }
def FnvChecksWrongFalsely : Prop := fnvChecksRow.holds Try.pinned (OpenSpec.ofChange fnvChecksWrong)

/-- 'revetmentlaw02.FnvTurns': WHATEVER THE INPUT: true; the input reads as it did. -/
def fnvTurnsSpec : ChangeSpec := { name := "fnvTurns", fn := fun _ => fun
  | [d1, d2, d3] => { results := [.lit (.bool true)], args := [d1, d2, d3] }
  | _ => none }
def fnvTurnsRow : OpenClaim := { program := "ytakjepgndmdblaa", sum := "60f90d345e7c6151378db6ec9cc68001e764cdc232beac5d56f42fd6b0c656f0", func := "revetment/revetmentlaw02.FnvTurns", spec := "fnvTurns", unfollowed := true, recurses := true, apart := false }
def FnvTurnsSaid : Prop := fnvTurnsRow.holds Try.pinned (OpenSpec.ofChange fnvTurnsSpec)

/-- ITS FALSE NEIGHBOUR: 'it returns false'. Refute it at one input. -/
def fnvTurnsWrong : ChangeSpec := { name := "fnvTurns", fn := fun _ => fun
  | [d1, d2, d3] => { results := [.lit (.bool false)], args := [d1, d2, d3] }
  | _ => none }
def FnvTurnsWrongFalsely : Prop := fnvTurnsRow.holds Try.pinned (OpenSpec.ofChange fnvTurnsWrong)

/-- 'revetmentlaw02.FnvParts': WHATEVER THE INPUT: true; the input reads as it did. -/
def fnvPartsSpec : ChangeSpec := { name := "fnvParts", fn := fun _ => fun
  | [d1, d2, d3] => { results := [.lit (.bool true)], args := [d1, d2, d3] }
  | _ => none }
def fnvPartsRow : OpenClaim := { program := "ytakjepgndmdblaa", sum := "60f90d345e7c6151378db6ec9cc68001e764cdc232beac5d56f42fd6b0c656f0", func := "revetment/revetmentlaw02.FnvParts", spec := "fnvParts", unfollowed := true, recurses := true, apart := false }
def FnvPartsSaid : Prop := fnvPartsRow.holds Try.pinned (OpenSpec.ofChange fnvPartsSpec)

/-- ITS FALSE NEIGHBOUR: 'it returns false'. Refute it at one input. -/
def fnvPartsWrong : ChangeSpec := { name := "fnvParts", fn := fun _ => fun
  | [d1, d2, d3] => { results := [.lit (.bool false)], args := [d1, d2, d3] }
  | _ => none }
def FnvPartsWrongFalsely : Prop := fnvPartsRow.holds Try.pinned (OpenSpec.ofChange fnvPartsWrong)

/-- 'revetmentlaw02.FnvSteps': WHATEVER THE INPUT: true; the input reads as it did. -/
def fnvStepsSpec : ChangeSpec := { name := "fnvSteps", fn := fun _ => fun
  | [d1, d2, d3] => { results := [.lit (.bool true)], args := [d1, d2, d3] }
  | _ => none }
def fnvStepsRow : OpenClaim := { program := "ytakjepgndmdblaa", sum := "60f90d345e7c6151378db6ec9cc68001e764cdc232beac5d56f42fd6b0c656f0", func := "revetment/revetmentlaw02.FnvSteps", spec := "fnvSteps", unfollowed := true, recurses := true, apart := false }
def FnvStepsSaid : Prop := fnvStepsRow.holds Try.pinned (OpenSpec.ofChange fnvStepsSpec)

/-- ITS FALSE NEIGHBOUR: 'it returns false'. Refute it at one input. -/
def fnvStepsWrong : ChangeSpec := { name := "fnvSteps", fn := fun _ => fun
  | [d1, d2, d3] => { results := [.lit (.bool false)], args := [d1, d2, d3] }
  | _ => none }
def FnvStepsWrongFalsely : Prop := fnvStepsRow.holds Try.pinned (OpenSpec.ofChange fnvStepsWrong)

/-- 'revetmentlaw01.LePuts': WHATEVER THE INPUT: true; the input reads as it did. -/
def lePutsSpec : ChangeSpec := { name := "lePuts", fn := fun _ => fun
  | [d1, d2, d3] => { results := [.lit (.bool true)], args := [d1, d2, d3] }
  | _ => none }
def lePutsRow : OpenClaim := { program := "ytakjepgndmdblaa", sum := "60f90d345e7c6151378db6ec9cc68001e764cdc232beac5d56f42fd6b0c656f0", func := "revetment/revetmentlaw01.LePuts", spec := "lePuts", unfollowed := true, recurses := true, apart := false }
def LePutsSaid : Prop := lePutsRow.holds Try.pinned (OpenSpec.ofChange lePutsSpec)

/-- ITS FALSE NEIGHBOUR: 'it returns false'. Refute it at one input. -/
def lePutsWrong : ChangeSpec := { name := "lePuts", fn := fun _ => fun
  | [d1, d2, d3] => { results := [.lit (.bool false)], args := [d1, d2, d3] }
  | _ => none }
def LePutsWrongFalsely : Prop := lePutsRow.holds Try.pinned (OpenSpec.ofChange lePutsWrong)

/-- 'revetmentlaw01.LeReads': WHATEVER THE INPUT: true; the input reads as it did. -/
def leReadsSpec : ChangeSpec := { name := "leReads", fn := fun _ => fun
  | [d1, d2] => { results := [.lit (.bool true)], args := [d1, d2] }
  | _ => none }
def leReadsRow : OpenClaim := { program := "ytakjepgndmdblaa", sum := "60f90d345e7c6151378db6ec9cc68001e764cdc232beac5d56f42fd6b0c656f0", func := "revetment/revetmentlaw01.LeReads", spec := "leReads", unfollowed := true, recurses := true, apart := false }
def LeReadsSaid : Prop := leReadsRow.holds Try.pinned (OpenSpec.ofChange leReadsSpec)

/-- ITS FALSE NEIGHBOUR: 'it returns false'. Refute it at one input. -/
def leReadsWrong : ChangeSpec := { name := "leReads", fn := fun _ => fun
  | [d1, d2] => { results := [.lit (.bool false)], args := [d1, d2] }
  | _ => none }
def LeReadsWrongFalsely : Prop := leReadsRow.holds Try.pinned (OpenSpec.ofChange leReadsWrong)

/-- 'revetmentlaw01.LeBack': WHATEVER THE INPUT: true; the input reads as it did. -/
def leBackSpec : ChangeSpec := { name := "leBack", fn := fun _ => fun
  | [d1, d2, d3] => { results := [.lit (.bool true)], args := [d1, d2, d3] }
  | _ => none }
def leBackRow : OpenClaim := { program := "ytakjepgndmdblaa", sum := "60f90d345e7c6151378db6ec9cc68001e764cdc232beac5d56f42fd6b0c656f0", func := "revetment/revetmentlaw01.LeBack", spec := "leBack", unfollowed := true, recurses := true, apart := false }
def LeBackSaid : Prop := leBackRow.holds Try.pinned (OpenSpec.ofChange leBackSpec)

/-- ITS FALSE NEIGHBOUR: 'it returns false'. Refute it at one input. -/
def leBackWrong : ChangeSpec := { name := "leBack", fn := fun _ => fun
  | [d1, d2, d3] => { results := [.lit (.bool false)], args := [d1, d2, d3] }
  | _ => none }
def LeBackWrongFalsely : Prop := leBackRow.holds Try.pinned (OpenSpec.ofChange leBackWrong)

/-- 'revetmentlaw01.LeNone': WHATEVER THE INPUT: true; the input reads as it did. -/
def leNoneSpec : ChangeSpec := { name := "leNone", fn := fun _ => fun
  | [d] => { results := [.lit (.bool true)], args := [d] }
  | _ => none }
def leNoneRow : OpenClaim := { program := "ytakjepgndmdblaa", sum := "60f90d345e7c6151378db6ec9cc68001e764cdc232beac5d56f42fd6b0c656f0", func := "revetment/revetmentlaw01.LeNone", spec := "leNone", unfollowed := true, recurses := true, apart := false }
def LeNoneSaid : Prop := leNoneRow.holds Try.pinned (OpenSpec.ofChange leNoneSpec)

/-- ITS FALSE NEIGHBOUR: 'it returns false'. Refute it at one input. -/
def leNoneWrong : ChangeSpec := { name := "leNone", fn := fun _ => fun
  | [d] => { results := [.lit (.bool false)], args := [d] }
  | _ => none }
def LeNoneWrongFalsely : Prop := leNoneRow.holds Try.pinned (OpenSpec.ofChange leNoneWrong)

/-- 'revetmentlaw01.LeTakes': WHATEVER THE INPUT: true; the input reads as it did. -/
def leTakesSpec : ChangeSpec := { name := "leTakes", fn := fun _ => fun
  | [d1, d2] => { results := [.lit (.bool true)], args := [d1, d2] }
  | _ => none }
def leTakesRow : OpenClaim := { program := "ytakjepgndmdblaa", sum := "60f90d345e7c6151378db6ec9cc68001e764cdc232beac5d56f42fd6b0c656f0", func := "revetment/revetmentlaw01.LeTakes", spec := "leTakes", unfollowed := true, recurses := true, apart := false }
def LeTakesSaid : Prop := leTakesRow.holds Try.pinned (OpenSpec.ofChange leTakesSpec)

/-- ITS FALSE NEIGHBOUR: 'it returns false'. Refute it at one input. -/
def leTakesWrong : ChangeSpec := { name := "leTakes", fn := fun _ => fun
  | [d1, d2] => { results := [.lit (.bool false)], args := [d1, d2] }
  | _ => none }
def LeTakesWrongFalsely : Prop := leTakesRow.holds Try.pinned (OpenSpec.ofChange leTakesWrong)

/- THE SECOND FORM. 'bulk': how many values and letters a reading holds, each counted each time it is reached (what is shared counts as often as it is met; a slice's spare places count too). A statement '..UptoSaid' is the law's where the arguments, and the package variables that the reading takes, are together of bulk at most 1048576: NARROWER than '..Said'. Prove '..Said' where nothing that the law and all that it calls make is longer than what came in: it says more and counts as full. Else prove '..UptoSaid'. A law counts once. -/
mutual
def uptoBulk {H : Type} : DataW H → Nat
  | .lit (.string bytes) => bytes.length + 1
  | .lit _ => 1
  | .nil => 1
  | .ptr d => uptoBulk d + 1
  | .slice elems spare => uptoBulkAll elems + uptoBulkAll spare + 1
  | .agg parts => uptoBulkAll parts + 1
  | .iface _ d => uptoBulk d + 1
  | .map entries => uptoBulkEntries entries + 1
  | .held _ => 1
def uptoBulkAll {H : Type} : List (DataW H) → Nat
  | [] => 0
  | d :: r => uptoBulk d + uptoBulkAll r
def uptoBulkEntries {H : Type} : List (Lit × DataW H) → Nat
  | [] => 0
  | x :: r => uptoBulkEntry x + uptoBulkEntries r
def uptoBulkEntry {H : Type} : Lit × DataW H → Nat
  | (.string bytes, d) => bytes.length + uptoBulk d + 1
  | (_, d) => uptoBulk d + 1
 end
def uptoSmall : (H : Type) → List (DataW H) → Bool := fun _ ds => decide (uptoBulkAll ds ≤ 1048576)
def OpenSpec.upto (s : _root_.Go.ChangeSpec) : _root_.Go.OpenSpec := { _root_.Go.OpenSpec.ofChange s with cond := some uptoSmall }

/-- 'revetmentlaw02.FnvChecks', WHERE WHAT IT READS IS OF BULK AT MOST 1048576: true; the input reads as it did. -/
def fnvChecksUptoRow : OpenClaim := { program := "ytakjepgndmdblaa", sum := "60f90d345e7c6151378db6ec9cc68001e764cdc232beac5d56f42fd6b0c656f0", func := "revetment/revetmentlaw02.FnvChecks", spec := "fnvChecks", unfollowed := true, recurses := true, apart := false, narrowed := true }
def FnvChecksUptoSaid : Prop := fnvChecksUptoRow.holds Try.pinned (OpenSpec.upto fnvChecksSpec)

/-- 'revetmentlaw02.FnvTurns', WHERE WHAT IT READS IS OF BULK AT MOST 1048576: true; the input reads as it did. -/
def fnvTurnsUptoRow : OpenClaim := { program := "ytakjepgndmdblaa", sum := "60f90d345e7c6151378db6ec9cc68001e764cdc232beac5d56f42fd6b0c656f0", func := "revetment/revetmentlaw02.FnvTurns", spec := "fnvTurns", unfollowed := true, recurses := true, apart := false, narrowed := true }
def FnvTurnsUptoSaid : Prop := fnvTurnsUptoRow.holds Try.pinned (OpenSpec.upto fnvTurnsSpec)

/-- 'revetmentlaw02.FnvParts', WHERE WHAT IT READS IS OF BULK AT MOST 1048576: true; the input reads as it did. -/
def fnvPartsUptoRow : OpenClaim := { program := "ytakjepgndmdblaa", sum := "60f90d345e7c6151378db6ec9cc68001e764cdc232beac5d56f42fd6b0c656f0", func := "revetment/revetmentlaw02.FnvParts", spec := "fnvParts", unfollowed := true, recurses := true, apart := false, narrowed := true }
def FnvPartsUptoSaid : Prop := fnvPartsUptoRow.holds Try.pinned (OpenSpec.upto fnvPartsSpec)

/-- 'revetmentlaw02.FnvSteps', WHERE WHAT IT READS IS OF BULK AT MOST 1048576: true; the input reads as it did. -/
def fnvStepsUptoRow : OpenClaim := { program := "ytakjepgndmdblaa", sum := "60f90d345e7c6151378db6ec9cc68001e764cdc232beac5d56f42fd6b0c656f0", func := "revetment/revetmentlaw02.FnvSteps", spec := "fnvSteps", unfollowed := true, recurses := true, apart := false, narrowed := true }
def FnvStepsUptoSaid : Prop := fnvStepsUptoRow.holds Try.pinned (OpenSpec.upto fnvStepsSpec)

/-- 'revetmentlaw01.LePuts', WHERE WHAT IT READS IS OF BULK AT MOST 1048576: true; the input reads as it did. -/
def lePutsUptoRow : OpenClaim := { program := "ytakjepgndmdblaa", sum := "60f90d345e7c6151378db6ec9cc68001e764cdc232beac5d56f42fd6b0c656f0", func := "revetment/revetmentlaw01.LePuts", spec := "lePuts", unfollowed := true, recurses := true, apart := false, narrowed := true }
def LePutsUptoSaid : Prop := lePutsUptoRow.holds Try.pinned (OpenSpec.upto lePutsSpec)

/-- 'revetmentlaw01.LeReads', WHERE WHAT IT READS IS OF BULK AT MOST 1048576: true; the input reads as it did. -/
def leReadsUptoRow : OpenClaim := { program := "ytakjepgndmdblaa", sum := "60f90d345e7c6151378db6ec9cc68001e764cdc232beac5d56f42fd6b0c656f0", func := "revetment/revetmentlaw01.LeReads", spec := "leReads", unfollowed := true, recurses := true, apart := false, narrowed := true }
def LeReadsUptoSaid : Prop := leReadsUptoRow.holds Try.pinned (OpenSpec.upto leReadsSpec)

/-- 'revetmentlaw01.LeBack', WHERE WHAT IT READS IS OF BULK AT MOST 1048576: true; the input reads as it did. -/
def leBackUptoRow : OpenClaim := { program := "ytakjepgndmdblaa", sum := "60f90d345e7c6151378db6ec9cc68001e764cdc232beac5d56f42fd6b0c656f0", func := "revetment/revetmentlaw01.LeBack", spec := "leBack", unfollowed := true, recurses := true, apart := false, narrowed := true }
def LeBackUptoSaid : Prop := leBackUptoRow.holds Try.pinned (OpenSpec.upto leBackSpec)

/-- 'revetmentlaw01.LeNone', WHERE WHAT IT READS IS OF BULK AT MOST 1048576: true; the input reads as it did. -/
def leNoneUptoRow : OpenClaim := { program := "ytakjepgndmdblaa", sum := "60f90d345e7c6151378db6ec9cc68001e764cdc232beac5d56f42fd6b0c656f0", func := "revetment/revetmentlaw01.LeNone", spec := "leNone", unfollowed := true, recurses := true, apart := false, narrowed := true }
def LeNoneUptoSaid : Prop := leNoneUptoRow.holds Try.pinned (OpenSpec.upto leNoneSpec)

/-- 'revetmentlaw01.LeTakes', WHERE WHAT IT READS IS OF BULK AT MOST 1048576: true; the input reads as it did. -/
def leTakesUptoRow : OpenClaim := { program := "ytakjepgndmdblaa", sum := "60f90d345e7c6151378db6ec9cc68001e764cdc232beac5d56f42fd6b0c656f0", func := "revetment/revetmentlaw01.LeTakes", spec := "leTakes", unfollowed := true, recurses := true, apart := false, narrowed := true }
def LeTakesUptoSaid : Prop := leTakesUptoRow.holds Try.pinned (OpenSpec.upto leTakesSpec)

end Rows
end Go.Proofs.Ytakjepgndmdblaa
