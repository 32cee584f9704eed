/-
  No cell of these rows narrows 'for every input' (looked for: loops, veiled, ifaces, maps, wideKeys, modest, calm, conditions, laid).
  DERIVED. THE GIVEN ROWS OF THIS SEAT. 6 by the template 'for every input the law returns true; each argument reads behind the call as it read before'; 0 by the template 'total and deterministic' (their statements: YtkbcmppbjfpjmaaGreatTotals.lean).
  GIVEN WITH THE SEED: the statements are not yours to turn. If you find one false, say at which input.
  Laid BY PROGRAM, IN A SANDBOX (cutbox-rows.mjs): the forced cells as the released guide's own fill.sh prints them over the translation 60c39324abb9fa06… (all of the seat's roots in one cut). By AI agents, Wed Nov 11 2026. No macro, syntax, notation, axiom, sorry.
-/
import Derived.Test.YtkbcmppbjfpjmaaGreatChecked
import GoSem.Claim
import GoSem.ClaimJoined
import GoSem.ClaimMapViews
import Derived.JoinedTies
import Derived.KernelRfl
namespace Go.Proofs.YtkbcmppbjfpjmaaGreat
/- THE CELL 'sum', in the pinned program and in every row, IS THE sha256 OF THE DUMP (.gsa) THAT YtkbcmppbjfpjmaaGreatProg.lean LOADS. Nothing in Lean hashes anything: it is a label: what it is worth is what the hold of that sum in a sandbox is worth. -/
noncomputable def Tryz.pinned : Pinned := { name := "ytkbcmppbjfpjmaagreat", sum := "60c39324abb9fa06f18b9d97902768aeb2d8fe490f23212ccbf77d1885c7569c", checked := Tryz.checked }
namespace Rows
def none {H : Type} : Left H := { results := [], args := [] }

/-- 'stagecoachlaw18.MessagePuts': WHATEVER THE INPUT: true; the input reads as it did. -/
def messagePutsSpec : ChangeSpec := { name := "messagePuts", fn := fun _ => fun
  | [d1, d2] => { results := [.lit (.bool true)], args := [d1, d2] }
  | _ => none }
def messagePutsRow : OpenClaim := { program := "ytkbcmppbjfpjmaagreat", sum := "60c39324abb9fa06f18b9d97902768aeb2d8fe490f23212ccbf77d1885c7569c", func := "stagecoach/stagecoachlaw18.MessagePuts", spec := "messagePuts", inPlace := ["internal/abi.NoEscape"], unfollowed := true, recurses := true, apart := false }
def MessagePutsSaid : Prop := messagePutsRow.holds Tryz.pinned (OpenSpec.ofChange messagePutsSpec)

/-- ITS FALSE NEIGHBOUR: 'it returns false'. Refute it at one input. -/
def messagePutsWrong : ChangeSpec := { name := "messagePuts", fn := fun _ => fun
  | [d1, d2] => { results := [.lit (.bool false)], args := [d1, d2] }
  | _ => none }
def MessagePutsWrongFalsely : Prop := messagePutsRow.holds Tryz.pinned (OpenSpec.ofChange messagePutsWrong)

/-- 'stagecoachlaw18.MessageGets': WHATEVER THE INPUT: true; the input reads as it did. -/
def messageGetsSpec : ChangeSpec := { name := "messageGets", fn := fun _ => fun
  | [d] => { results := [.lit (.bool true)], args := [d] }
  | _ => none }
def messageGetsRow : OpenClaim := { program := "ytkbcmppbjfpjmaagreat", sum := "60c39324abb9fa06f18b9d97902768aeb2d8fe490f23212ccbf77d1885c7569c", func := "stagecoach/stagecoachlaw18.MessageGets", spec := "messageGets", inPlace := ["internal/abi.NoEscape"], unfollowed := true, recurses := true, apart := false }
def MessageGetsSaid : Prop := messageGetsRow.holds Tryz.pinned (OpenSpec.ofChange messageGetsSpec)

/-- ITS FALSE NEIGHBOUR: 'it returns false'. Refute it at one input. -/
def messageGetsWrong : ChangeSpec := { name := "messageGets", fn := fun _ => fun
  | [d] => { results := [.lit (.bool false)], args := [d] }
  | _ => none }
def MessageGetsWrongFalsely : Prop := messageGetsRow.holds Tryz.pinned (OpenSpec.ofChange messageGetsWrong)

/-- 'stagecoachlaw18.MessageBack': WHATEVER THE INPUT: true; the input reads as it did. -/
def messageBackSpec : ChangeSpec := { name := "messageBack", fn := fun _ => fun
  | [d1, d2] => { results := [.lit (.bool true)], args := [d1, d2] }
  | _ => none }
def messageBackRow : OpenClaim := { program := "ytkbcmppbjfpjmaagreat", sum := "60c39324abb9fa06f18b9d97902768aeb2d8fe490f23212ccbf77d1885c7569c", func := "stagecoach/stagecoachlaw18.MessageBack", spec := "messageBack", inPlace := ["internal/abi.NoEscape"], unfollowed := true, recurses := true, apart := false }
def MessageBackSaid : Prop := messageBackRow.holds Tryz.pinned (OpenSpec.ofChange messageBackSpec)

/-- ITS FALSE NEIGHBOUR: 'it returns false'. Refute it at one input. -/
def messageBackWrong : ChangeSpec := { name := "messageBack", fn := fun _ => fun
  | [d1, d2] => { results := [.lit (.bool false)], args := [d1, d2] }
  | _ => none }
def MessageBackWrongFalsely : Prop := messageBackRow.holds Tryz.pinned (OpenSpec.ofChange messageBackWrong)

/-- 'stagecoachlaw18.MessageSpoilt': WHATEVER THE INPUT: true; the input reads as it did. -/
def messageSpoiltSpec : ChangeSpec := { name := "messageSpoilt", fn := fun _ => fun
  | [d1, d2, d3] => { results := [.lit (.bool true)], args := [d1, d2, d3] }
  | _ => none }
def messageSpoiltRow : OpenClaim := { program := "ytkbcmppbjfpjmaagreat", sum := "60c39324abb9fa06f18b9d97902768aeb2d8fe490f23212ccbf77d1885c7569c", func := "stagecoach/stagecoachlaw18.MessageSpoilt", spec := "messageSpoilt", inPlace := ["internal/abi.NoEscape"], unfollowed := true, recurses := true, apart := false }
def MessageSpoiltSaid : Prop := messageSpoiltRow.holds Tryz.pinned (OpenSpec.ofChange messageSpoiltSpec)

/-- ITS FALSE NEIGHBOUR: 'it returns false'. Refute it at one input. -/
def messageSpoiltWrong : ChangeSpec := { name := "messageSpoilt", fn := fun _ => fun
  | [d1, d2, d3] => { results := [.lit (.bool false)], args := [d1, d2, d3] }
  | _ => none }
def MessageSpoiltWrongFalsely : Prop := messageSpoiltRow.holds Tryz.pinned (OpenSpec.ofChange messageSpoiltWrong)

/-- 'stagecoachlaw18.MessageOwn': WHATEVER THE INPUT: true; the input reads as it did. -/
def messageOwnSpec : ChangeSpec := { name := "messageOwn", fn := fun _ => fun
  | [d] => { results := [.lit (.bool true)], args := [d] }
  | _ => none }
def messageOwnRow : OpenClaim := { program := "ytkbcmppbjfpjmaagreat", sum := "60c39324abb9fa06f18b9d97902768aeb2d8fe490f23212ccbf77d1885c7569c", func := "stagecoach/stagecoachlaw18.MessageOwn", spec := "messageOwn", inPlace := ["internal/abi.NoEscape"], unfollowed := true, recurses := true, apart := false }
def MessageOwnSaid : Prop := messageOwnRow.holds Tryz.pinned (OpenSpec.ofChange messageOwnSpec)

/-- ITS FALSE NEIGHBOUR: 'it returns false'. Refute it at one input. -/
def messageOwnWrong : ChangeSpec := { name := "messageOwn", fn := fun _ => fun
  | [d] => { results := [.lit (.bool false)], args := [d] }
  | _ => none }
def MessageOwnWrongFalsely : Prop := messageOwnRow.holds Tryz.pinned (OpenSpec.ofChange messageOwnWrong)

/-- 'stagecoachlaw18.MessageApart': WHATEVER THE INPUT: true; the input reads as it did. -/
def messageApartSpec : ChangeSpec := { name := "messageApart", fn := fun _ => fun
  | [d1, d2] => { results := [.lit (.bool true)], args := [d1, d2] }
  | _ => none }
def messageApartRow : OpenClaim := { program := "ytkbcmppbjfpjmaagreat", sum := "60c39324abb9fa06f18b9d97902768aeb2d8fe490f23212ccbf77d1885c7569c", func := "stagecoach/stagecoachlaw18.MessageApart", spec := "messageApart", inPlace := ["internal/abi.NoEscape"], unfollowed := true, recurses := true, apart := false }
def MessageApartSaid : Prop := messageApartRow.holds Tryz.pinned (OpenSpec.ofChange messageApartSpec)

/-- ITS FALSE NEIGHBOUR: 'it returns false'. Refute it at one input. -/
def messageApartWrong : ChangeSpec := { name := "messageApart", fn := fun _ => fun
  | [d1, d2] => { results := [.lit (.bool false)], args := [d1, d2] }
  | _ => none }
def MessageApartWrongFalsely : Prop := messageApartRow.holds Tryz.pinned (OpenSpec.ofChange messageApartWrong)

/- THE SECOND FORM. 'bulk': how many values and letters a reading holds, each counted each time it is reached (what is shared counts as often as it is met; a slice's spare places count too). A statement '..UptoSaid' is the law's where the arguments, and the package variables that the reading takes, are together of bulk at most 1048576: NARROWER than '..Said'. Prove '..Said' where nothing that the law and all that it calls make is longer than what came in: it says more and counts as full. Else prove '..UptoSaid'. A law counts once. -/
mutual
def uptoBulk {H : Type} : DataW H → Nat
  | .lit (.string bytes) => bytes.length + 1
  | .lit _ => 1
  | .nil => 1
  | .ptr d => uptoBulk d + 1
  | .slice elems spare => uptoBulkAll elems + uptoBulkAll spare + 1
  | .agg parts => uptoBulkAll parts + 1
  | .iface _ d => uptoBulk d + 1
  | .map entries => uptoBulkEntries entries + 1
  | .held _ => 1
def uptoBulkAll {H : Type} : List (DataW H) → Nat
  | [] => 0
  | d :: r => uptoBulk d + uptoBulkAll r
def uptoBulkEntries {H : Type} : List (Lit × DataW H) → Nat
  | [] => 0
  | x :: r => uptoBulkEntry x + uptoBulkEntries r
def uptoBulkEntry {H : Type} : Lit × DataW H → Nat
  | (.string bytes, d) => bytes.length + uptoBulk d + 1
  | (_, d) => uptoBulk d + 1
 end
def uptoSmall : (H : Type) → List (DataW H) → Bool := fun _ ds => decide (uptoBulkAll ds ≤ 1048576)
def OpenSpec.upto (s : _root_.Go.ChangeSpec) : _root_.Go.OpenSpec := { _root_.Go.OpenSpec.ofChange s with cond := some uptoSmall }

/-- 'stagecoachlaw18.MessagePuts', WHERE WHAT IT READS IS OF BULK AT MOST 1048576: true; the input reads as it did. -/
def messagePutsUptoRow : OpenClaim := { program := "ytkbcmppbjfpjmaagreat", sum := "60c39324abb9fa06f18b9d97902768aeb2d8fe490f23212ccbf77d1885c7569c", func := "stagecoach/stagecoachlaw18.MessagePuts", spec := "messagePuts", inPlace := ["internal/abi.NoEscape"], unfollowed := true, recurses := true, apart := false, narrowed := true }
def MessagePutsUptoSaid : Prop := messagePutsUptoRow.holds Tryz.pinned (OpenSpec.upto messagePutsSpec)

/-- 'stagecoachlaw18.MessageGets', WHERE WHAT IT READS IS OF BULK AT MOST 1048576: true; the input reads as it did. -/
def messageGetsUptoRow : OpenClaim := { program := "ytkbcmppbjfpjmaagreat", sum := "60c39324abb9fa06f18b9d97902768aeb2d8fe490f23212ccbf77d1885c7569c", func := "stagecoach/stagecoachlaw18.MessageGets", spec := "messageGets", inPlace := ["internal/abi.NoEscape"], unfollowed := true, recurses := true, apart := false, narrowed := true }
def MessageGetsUptoSaid : Prop := messageGetsUptoRow.holds Tryz.pinned (OpenSpec.upto messageGetsSpec)

/-- 'stagecoachlaw18.MessageBack', WHERE WHAT IT READS IS OF BULK AT MOST 1048576: true; the input reads as it did. -/
def messageBackUptoRow : OpenClaim := { program := "ytkbcmppbjfpjmaagreat", sum := "60c39324abb9fa06f18b9d97902768aeb2d8fe490f23212ccbf77d1885c7569c", func := "stagecoach/stagecoachlaw18.MessageBack", spec := "messageBack", inPlace := ["internal/abi.NoEscape"], unfollowed := true, recurses := true, apart := false, narrowed := true }
def MessageBackUptoSaid : Prop := messageBackUptoRow.holds Tryz.pinned (OpenSpec.upto messageBackSpec)

/-- 'stagecoachlaw18.MessageSpoilt', WHERE WHAT IT READS IS OF BULK AT MOST 1048576: true; the input reads as it did. -/
def messageSpoiltUptoRow : OpenClaim := { program := "ytkbcmppbjfpjmaagreat", sum := "60c39324abb9fa06f18b9d97902768aeb2d8fe490f23212ccbf77d1885c7569c", func := "stagecoach/stagecoachlaw18.MessageSpoilt", spec := "messageSpoilt", inPlace := ["internal/abi.NoEscape"], unfollowed := true, recurses := true, apart := false, narrowed := true }
def MessageSpoiltUptoSaid : Prop := messageSpoiltUptoRow.holds Tryz.pinned (OpenSpec.upto messageSpoiltSpec)

/-- 'stagecoachlaw18.MessageOwn', WHERE WHAT IT READS IS OF BULK AT MOST 1048576: true; the input reads as it did. -/
def messageOwnUptoRow : OpenClaim := { program := "ytkbcmppbjfpjmaagreat", sum := "60c39324abb9fa06f18b9d97902768aeb2d8fe490f23212ccbf77d1885c7569c", func := "stagecoach/stagecoachlaw18.MessageOwn", spec := "messageOwn", inPlace := ["internal/abi.NoEscape"], unfollowed := true, recurses := true, apart := false, narrowed := true }
def MessageOwnUptoSaid : Prop := messageOwnUptoRow.holds Tryz.pinned (OpenSpec.upto messageOwnSpec)

/-- 'stagecoachlaw18.MessageApart', WHERE WHAT IT READS IS OF BULK AT MOST 1048576: true; the input reads as it did. -/
def messageApartUptoRow : OpenClaim := { program := "ytkbcmppbjfpjmaagreat", sum := "60c39324abb9fa06f18b9d97902768aeb2d8fe490f23212ccbf77d1885c7569c", func := "stagecoach/stagecoachlaw18.MessageApart", spec := "messageApart", inPlace := ["internal/abi.NoEscape"], unfollowed := true, recurses := true, apart := false, narrowed := true }
def MessageApartUptoSaid : Prop := messageApartUptoRow.holds Tryz.pinned (OpenSpec.upto messageApartSpec)

end Rows
end Go.Proofs.YtkbcmppbjfpjmaaGreat
