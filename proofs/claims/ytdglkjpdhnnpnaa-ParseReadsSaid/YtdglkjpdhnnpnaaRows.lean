/-
  No cell of these rows narrows 'for every input' (looked for: loops, veiled, ifaces, maps, wideKeys, modest, calm, conditions, laid).
  DERIVED. THE GIVEN ROWS OF THIS SEAT. 8 by the template 'for every input the law returns true; each argument reads behind the call as it read before'; 0 by the template 'total and deterministic' (their statements: YtdglkjpdhnnpnaaTotals.lean).
  GIVEN WITH THE SEED: the statements are not yours to turn. If you find one false, say at which input.
  Laid BY PROGRAM, IN A SANDBOX (cutbox-rows.mjs): the forced cells as the released guide's own fill.sh prints them over the translation f14c07e086d0ee5f… (all of the seat's roots in one cut). By AI agents, Wed Nov 11 2026. No macro, syntax, notation, axiom, sorry.
-/
import Derived.Test.YtdglkjpdhnnpnaaChecked
import GoSem.Claim
import GoSem.ClaimJoined
import GoSem.ClaimMapViews
import Derived.JoinedTies
import Derived.KernelRfl
namespace Go.Proofs.Ytdglkjpdhnnpnaa
/- THE CELL 'sum', in the pinned program and in every row, IS THE sha256 OF THE DUMP (.gsa) THAT YtdglkjpdhnnpnaaProg.lean LOADS. Nothing in Lean hashes anything: it is a label: what it is worth is what the hold of that sum in a sandbox is worth. -/
noncomputable def Try.pinned : Pinned := { name := "ytdglkjpdhnnpnaa", sum := "f14c07e086d0ee5ffbc565a06d7c8a2d831d87ee1e3affbff49935297fa0dabc", checked := Try.checked }
namespace Rows
def none {H : Type} : Left H := { results := [], args := [] }

/-- 'revetmentlaw16.StreamCodes': WHATEVER THE INPUT: true; the input reads as it did. -/
def streamCodesSpec : ChangeSpec := { name := "streamCodes", fn := fun _ => fun
  | [d1, d2] => { results := [.lit (.bool true)], args := [d1, d2] }
  | _ => none }
def streamCodesRow : OpenClaim := { program := "ytdglkjpdhnnpnaa", sum := "f14c07e086d0ee5ffbc565a06d7c8a2d831d87ee1e3affbff49935297fa0dabc", func := "revetment/revetmentlaw16.StreamCodes", spec := "streamCodes", unfollowed := true, recurses := true, apart := false }
def StreamCodesSaid : Prop := streamCodesRow.holds Try.pinned (OpenSpec.ofChange streamCodesSpec)

/-- ITS FALSE NEIGHBOUR: 'it returns false'. Refute it at one input. -/
def streamCodesWrong : ChangeSpec := { name := "streamCodes", fn := fun _ => fun
  | [d1, d2] => { results := [.lit (.bool false)], args := [d1, d2] }
  | _ => none }
def StreamCodesWrongFalsely : Prop := streamCodesRow.holds Try.pinned (OpenSpec.ofChange streamCodesWrong)

/-- 'revetmentlaw16.StreamApart': WHATEVER THE INPUT: true; the input reads as it did. -/
def streamApartSpec : ChangeSpec := { name := "streamApart", fn := fun _ => fun
  | [d1, d2] => { results := [.lit (.bool true)], args := [d1, d2] }
  | _ => none }
def streamApartRow : OpenClaim := { program := "ytdglkjpdhnnpnaa", sum := "f14c07e086d0ee5ffbc565a06d7c8a2d831d87ee1e3affbff49935297fa0dabc", func := "revetment/revetmentlaw16.StreamApart", spec := "streamApart", unfollowed := true, recurses := true, apart := false }
def StreamApartSaid : Prop := streamApartRow.holds Try.pinned (OpenSpec.ofChange streamApartSpec)

/-- ITS FALSE NEIGHBOUR: 'it returns false'. Refute it at one input. -/
def streamApartWrong : ChangeSpec := { name := "streamApart", fn := fun _ => fun
  | [d1, d2] => { results := [.lit (.bool false)], args := [d1, d2] }
  | _ => none }
def StreamApartWrongFalsely : Prop := streamApartRow.holds Try.pinned (OpenSpec.ofChange streamApartWrong)

/-- 'revetmentlaw16.StreamSizes': WHATEVER THE INPUT: true; the input reads as it did. -/
def streamSizesSpec : ChangeSpec := { name := "streamSizes", fn := fun _ => fun
  | [d1, d2, d3] => { results := [.lit (.bool true)], args := [d1, d2, d3] }
  | _ => none }
def streamSizesRow : OpenClaim := { program := "ytdglkjpdhnnpnaa", sum := "f14c07e086d0ee5ffbc565a06d7c8a2d831d87ee1e3affbff49935297fa0dabc", func := "revetment/revetmentlaw16.StreamSizes", spec := "streamSizes", unfollowed := true, recurses := true, apart := false }
def StreamSizesSaid : Prop := streamSizesRow.holds Try.pinned (OpenSpec.ofChange streamSizesSpec)

/-- ITS FALSE NEIGHBOUR: 'it returns false'. Refute it at one input. -/
def streamSizesWrong : ChangeSpec := { name := "streamSizes", fn := fun _ => fun
  | [d1, d2, d3] => { results := [.lit (.bool false)], args := [d1, d2, d3] }
  | _ => none }
def StreamSizesWrongFalsely : Prop := streamSizesRow.holds Try.pinned (OpenSpec.ofChange streamSizesWrong)

/-- 'revetmentlaw16.StreamOrder': WHATEVER THE INPUT: true; the input reads as it did. -/
def streamOrderSpec : ChangeSpec := { name := "streamOrder", fn := fun _ => fun
  | [d1, d2] => { results := [.lit (.bool true)], args := [d1, d2] }
  | _ => none }
def streamOrderRow : OpenClaim := { program := "ytdglkjpdhnnpnaa", sum := "f14c07e086d0ee5ffbc565a06d7c8a2d831d87ee1e3affbff49935297fa0dabc", func := "revetment/revetmentlaw16.StreamOrder", spec := "streamOrder", unfollowed := true, recurses := true, apart := false }
def StreamOrderSaid : Prop := streamOrderRow.holds Try.pinned (OpenSpec.ofChange streamOrderSpec)

/-- ITS FALSE NEIGHBOUR: 'it returns false'. Refute it at one input. -/
def streamOrderWrong : ChangeSpec := { name := "streamOrder", fn := fun _ => fun
  | [d1, d2] => { results := [.lit (.bool false)], args := [d1, d2] }
  | _ => none }
def StreamOrderWrongFalsely : Prop := streamOrderRow.holds Try.pinned (OpenSpec.ofChange streamOrderWrong)

/-- 'revetmentlaw17.ParseReads': WHATEVER THE INPUT: true; the input reads as it did. -/
def parseReadsSpec : ChangeSpec := { name := "parseReads", fn := fun _ => fun
  | [d] => { results := [.lit (.bool true)], args := [d] }
  | _ => none }
def parseReadsRow : OpenClaim := { program := "ytdglkjpdhnnpnaa", sum := "f14c07e086d0ee5ffbc565a06d7c8a2d831d87ee1e3affbff49935297fa0dabc", func := "revetment/revetmentlaw17.ParseReads", spec := "parseReads", unfollowed := true, recurses := true, apart := false }
def ParseReadsSaid : Prop := parseReadsRow.holds Try.pinned (OpenSpec.ofChange parseReadsSpec)

/-- ITS FALSE NEIGHBOUR: 'it returns false'. Refute it at one input. -/
def parseReadsWrong : ChangeSpec := { name := "parseReads", fn := fun _ => fun
  | [d] => { results := [.lit (.bool false)], args := [d] }
  | _ => none }
def ParseReadsWrongFalsely : Prop := parseReadsRow.holds Try.pinned (OpenSpec.ofChange parseReadsWrong)

/-- 'revetmentlaw17.ParseBack': WHATEVER THE INPUT: true; the input reads as it did. -/
def parseBackSpec : ChangeSpec := { name := "parseBack", fn := fun _ => fun
  | [d1, d2] => { results := [.lit (.bool true)], args := [d1, d2] }
  | _ => none }
def parseBackRow : OpenClaim := { program := "ytdglkjpdhnnpnaa", sum := "f14c07e086d0ee5ffbc565a06d7c8a2d831d87ee1e3affbff49935297fa0dabc", func := "revetment/revetmentlaw17.ParseBack", spec := "parseBack", unfollowed := true, recurses := true, apart := false }
def ParseBackSaid : Prop := parseBackRow.holds Try.pinned (OpenSpec.ofChange parseBackSpec)

/-- ITS FALSE NEIGHBOUR: 'it returns false'. Refute it at one input. -/
def parseBackWrong : ChangeSpec := { name := "parseBack", fn := fun _ => fun
  | [d1, d2] => { results := [.lit (.bool false)], args := [d1, d2] }
  | _ => none }
def ParseBackWrongFalsely : Prop := parseBackRow.holds Try.pinned (OpenSpec.ofChange parseBackWrong)

/-- 'revetmentlaw17.ParseTurns': WHATEVER THE INPUT: true; the input reads as it did. -/
def parseTurnsSpec : ChangeSpec := { name := "parseTurns", fn := fun _ => fun
  | [d1, d2, d3] => { results := [.lit (.bool true)], args := [d1, d2, d3] }
  | _ => none }
def parseTurnsRow : OpenClaim := { program := "ytdglkjpdhnnpnaa", sum := "f14c07e086d0ee5ffbc565a06d7c8a2d831d87ee1e3affbff49935297fa0dabc", func := "revetment/revetmentlaw17.ParseTurns", spec := "parseTurns", unfollowed := true, recurses := true, apart := false }
def ParseTurnsSaid : Prop := parseTurnsRow.holds Try.pinned (OpenSpec.ofChange parseTurnsSpec)

/-- ITS FALSE NEIGHBOUR: 'it returns false'. Refute it at one input. -/
def parseTurnsWrong : ChangeSpec := { name := "parseTurns", fn := fun _ => fun
  | [d1, d2, d3] => { results := [.lit (.bool false)], args := [d1, d2, d3] }
  | _ => none }
def ParseTurnsWrongFalsely : Prop := parseTurnsRow.holds Try.pinned (OpenSpec.ofChange parseTurnsWrong)

/-- 'revetmentlaw17.ParseHeads': WHATEVER THE INPUT: true; the input reads as it did. -/
def parseHeadsSpec : ChangeSpec := { name := "parseHeads", fn := fun _ => fun
  | [d1, d2] => { results := [.lit (.bool true)], args := [d1, d2] }
  | _ => none }
def parseHeadsRow : OpenClaim := { program := "ytdglkjpdhnnpnaa", sum := "f14c07e086d0ee5ffbc565a06d7c8a2d831d87ee1e3affbff49935297fa0dabc", func := "revetment/revetmentlaw17.ParseHeads", spec := "parseHeads", unfollowed := true, recurses := true, apart := false }
def ParseHeadsSaid : Prop := parseHeadsRow.holds Try.pinned (OpenSpec.ofChange parseHeadsSpec)

/-- ITS FALSE NEIGHBOUR: 'it returns false'. Refute it at one input. -/
def parseHeadsWrong : ChangeSpec := { name := "parseHeads", fn := fun _ => fun
  | [d1, d2] => { results := [.lit (.bool false)], args := [d1, d2] }
  | _ => none }
def ParseHeadsWrongFalsely : Prop := parseHeadsRow.holds Try.pinned (OpenSpec.ofChange parseHeadsWrong)

/- THE SECOND FORM. 'bulk': how many values and letters a reading holds, each counted each time it is reached (what is shared counts as often as it is met; a slice's spare places count too). A statement '..UptoSaid' is the law's where the arguments, and the package variables that the reading takes, are together of bulk at most 1048576: NARROWER than '..Said'. Prove '..Said' where nothing that the law and all that it calls make is longer than what came in: it says more and counts as full. Else prove '..UptoSaid'. A law counts once. -/
mutual
def uptoBulk {H : Type} : DataW H → Nat
  | .lit (.string bytes) => bytes.length + 1
  | .lit _ => 1
  | .nil => 1
  | .ptr d => uptoBulk d + 1
  | .slice elems spare => uptoBulkAll elems + uptoBulkAll spare + 1
  | .agg parts => uptoBulkAll parts + 1
  | .iface _ d => uptoBulk d + 1
  | .map entries => uptoBulkEntries entries + 1
  | .held _ => 1
def uptoBulkAll {H : Type} : List (DataW H) → Nat
  | [] => 0
  | d :: r => uptoBulk d + uptoBulkAll r
def uptoBulkEntries {H : Type} : List (Lit × DataW H) → Nat
  | [] => 0
  | x :: r => uptoBulkEntry x + uptoBulkEntries r
def uptoBulkEntry {H : Type} : Lit × DataW H → Nat
  | (.string bytes, d) => bytes.length + uptoBulk d + 1
  | (_, d) => uptoBulk d + 1
 end
def uptoSmall : (H : Type) → List (DataW H) → Bool := fun _ ds => decide (uptoBulkAll ds ≤ 1048576)
def OpenSpec.upto (s : _root_.Go.ChangeSpec) : _root_.Go.OpenSpec := { _root_.Go.OpenSpec.ofChange s with cond := some uptoSmall }

/-- 'revetmentlaw16.StreamCodes', WHERE WHAT IT READS IS OF BULK AT MOST 1048576: true; the input reads as it did. -/
def streamCodesUptoRow : OpenClaim := { program := "ytdglkjpdhnnpnaa", sum := "f14c07e086d0ee5ffbc565a06d7c8a2d831d87ee1e3affbff49935297fa0dabc", func := "revetment/revetmentlaw16.StreamCodes", spec := "streamCodes", unfollowed := true, recurses := true, apart := false, narrowed := true }
def StreamCodesUptoSaid : Prop := streamCodesUptoRow.holds Try.pinned (OpenSpec.upto streamCodesSpec)

/-- 'revetmentlaw16.StreamApart', WHERE WHAT IT READS IS OF BULK AT MOST 1048576: true; the input reads as it did. -/
def streamApartUptoRow : OpenClaim := { program := "ytdglkjpdhnnpnaa", sum := "f14c07e086d0ee5ffbc565a06d7c8a2d831d87ee1e3affbff49935297fa0dabc", func := "revetment/revetmentlaw16.StreamApart", spec := "streamApart", unfollowed := true, recurses := true, apart := false, narrowed := true }
def StreamApartUptoSaid : Prop := streamApartUptoRow.holds Try.pinned (OpenSpec.upto streamApartSpec)

/-- 'revetmentlaw16.StreamSizes', WHERE WHAT IT READS IS OF BULK AT MOST 1048576: true; the input reads as it did. -/
def streamSizesUptoRow : OpenClaim := { program := "ytdglkjpdhnnpnaa", sum := "f14c07e086d0ee5ffbc565a06d7c8a2d831d87ee1e3affbff49935297fa0dabc", func := "revetment/revetmentlaw16.StreamSizes", spec := "streamSizes", unfollowed := true, recurses := true, apart := false, narrowed := true }
def StreamSizesUptoSaid : Prop := streamSizesUptoRow.holds Try.pinned (OpenSpec.upto streamSizesSpec)

/-- 'revetmentlaw16.StreamOrder', WHERE WHAT IT READS IS OF BULK AT MOST 1048576: true; the input reads as it did. -/
def streamOrderUptoRow : OpenClaim := { program := "ytdglkjpdhnnpnaa", sum := "f14c07e086d0ee5ffbc565a06d7c8a2d831d87ee1e3affbff49935297fa0dabc", func := "revetment/revetmentlaw16.StreamOrder", spec := "streamOrder", unfollowed := true, recurses := true, apart := false, narrowed := true }
def StreamOrderUptoSaid : Prop := streamOrderUptoRow.holds Try.pinned (OpenSpec.upto streamOrderSpec)

/-- 'revetmentlaw17.ParseReads', WHERE WHAT IT READS IS OF BULK AT MOST 1048576: true; the input reads as it did. -/
def parseReadsUptoRow : OpenClaim := { program := "ytdglkjpdhnnpnaa", sum := "f14c07e086d0ee5ffbc565a06d7c8a2d831d87ee1e3affbff49935297fa0dabc", func := "revetment/revetmentlaw17.ParseReads", spec := "parseReads", unfollowed := true, recurses := true, apart := false, narrowed := true }
def ParseReadsUptoSaid : Prop := parseReadsUptoRow.holds Try.pinned (OpenSpec.upto parseReadsSpec)

/-- 'revetmentlaw17.ParseBack', WHERE WHAT IT READS IS OF BULK AT MOST 1048576: true; the input reads as it did. -/
def parseBackUptoRow : OpenClaim := { program := "ytdglkjpdhnnpnaa", sum := "f14c07e086d0ee5ffbc565a06d7c8a2d831d87ee1e3affbff49935297fa0dabc", func := "revetment/revetmentlaw17.ParseBack", spec := "parseBack", unfollowed := true, recurses := true, apart := false, narrowed := true }
def ParseBackUptoSaid : Prop := parseBackUptoRow.holds Try.pinned (OpenSpec.upto parseBackSpec)

/-- 'revetmentlaw17.ParseTurns', WHERE WHAT IT READS IS OF BULK AT MOST 1048576: true; the input reads as it did. -/
def parseTurnsUptoRow : OpenClaim := { program := "ytdglkjpdhnnpnaa", sum := "f14c07e086d0ee5ffbc565a06d7c8a2d831d87ee1e3affbff49935297fa0dabc", func := "revetment/revetmentlaw17.ParseTurns", spec := "parseTurns", unfollowed := true, recurses := true, apart := false, narrowed := true }
def ParseTurnsUptoSaid : Prop := parseTurnsUptoRow.holds Try.pinned (OpenSpec.upto parseTurnsSpec)

/-- 'revetmentlaw17.ParseHeads', WHERE WHAT IT READS IS OF BULK AT MOST 1048576: true; the input reads as it did. -/
def parseHeadsUptoRow : OpenClaim := { program := "ytdglkjpdhnnpnaa", sum := "f14c07e086d0ee5ffbc565a06d7c8a2d831d87ee1e3affbff49935297fa0dabc", func := "revetment/revetmentlaw17.ParseHeads", spec := "parseHeads", unfollowed := true, recurses := true, apart := false, narrowed := true }
def ParseHeadsUptoSaid : Prop := parseHeadsUptoRow.holds Try.pinned (OpenSpec.upto parseHeadsSpec)

end Rows
end Go.Proofs.Ytdglkjpdhnnpnaa
