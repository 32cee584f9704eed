/-
  No cell of these rows narrows 'for every input' (looked for: loops, veiled, ifaces, maps, wideKeys, modest, calm, conditions, laid).
  DERIVED. THE GIVEN ROWS OF THIS SEAT. 5 by the template 'for every input the law returns true; each argument reads behind the call as it read before'; 0 by the template 'total and deterministic' (their statements: YtkdpopkbongabaaTotals.lean).
  GIVEN WITH THE SEED: the statements are not yours to turn. If you find one false, say at which input.
  Laid BY PROGRAM, IN A SANDBOX (cutbox-rows.mjs): the forced cells as the released guide's own fill.sh prints them over the translation c50dc64bbf56256f… (all of the seat's roots in one cut). By AI agents, Wed Nov 11 2026. No macro, syntax, notation, axiom, sorry.
-/
import Derived.Test.YtkdpopkbongabaaChecked
import GoSem.Claim
import GoSem.ClaimJoined
import GoSem.ClaimMapViews
import Derived.JoinedTies
import Derived.KernelRfl
namespace Go.Proofs.Ytkdpopkbongabaa
/- THE CELL 'sum', in the pinned program and in every row, IS THE sha256 OF THE DUMP (.gsa) THAT YtkdpopkbongabaaProg.lean LOADS. Nothing in Lean hashes anything: it is a label: what it is worth is what the hold of that sum in a sandbox is worth. -/
noncomputable def Try.pinned : Pinned := { name := "ytkdpopkbongabaa", sum := "c50dc64bbf56256f8e4dac6ba44cfad358ee4fa63c084f39ac1ac151488ad70b", checked := Try.checked }
namespace Rows
def none {H : Type} : Left H := { results := [], args := [] }

/-- 'stagecoachlaw17.QuorumMeets': WHATEVER THE INPUT: true; the input reads as it did. -/
def quorumMeetsSpec : ChangeSpec := { name := "quorumMeets", fn := fun _ => fun
  | [d1, d2, d3] => { results := [.lit (.bool true)], args := [d1, d2, d3] }
  | _ => none }
def quorumMeetsRow : OpenClaim := { program := "ytkdpopkbongabaa", sum := "c50dc64bbf56256f8e4dac6ba44cfad358ee4fa63c084f39ac1ac151488ad70b", func := "stagecoach/stagecoachlaw17.QuorumMeets", spec := "quorumMeets", unfollowed := true, recurses := true, plainKeys := false, apart := false }
def QuorumMeetsSaid : Prop := quorumMeetsRow.holds Try.pinned (OpenSpec.ofChange quorumMeetsSpec)

/-- ITS FALSE NEIGHBOUR: 'it returns false'. Refute it at one input. -/
def quorumMeetsWrong : ChangeSpec := { name := "quorumMeets", fn := fun _ => fun
  | [d1, d2, d3] => { results := [.lit (.bool false)], args := [d1, d2, d3] }
  | _ => none }
def QuorumMeetsWrongFalsely : Prop := quorumMeetsRow.holds Try.pinned (OpenSpec.ofChange quorumMeetsWrong)

/-- 'stagecoachlaw17.QuorumBest': WHATEVER THE INPUT: true; the input reads as it did. -/
def quorumBestSpec : ChangeSpec := { name := "quorumBest", fn := fun _ => fun
  | [d1, d2] => { results := [.lit (.bool true)], args := [d1, d2] }
  | _ => none }
def quorumBestRow : OpenClaim := { program := "ytkdpopkbongabaa", sum := "c50dc64bbf56256f8e4dac6ba44cfad358ee4fa63c084f39ac1ac151488ad70b", func := "stagecoach/stagecoachlaw17.QuorumBest", spec := "quorumBest", unfollowed := true, recurses := true, plainKeys := false, apart := false }
def QuorumBestSaid : Prop := quorumBestRow.holds Try.pinned (OpenSpec.ofChange quorumBestSpec)

/-- ITS FALSE NEIGHBOUR: 'it returns false'. Refute it at one input. -/
def quorumBestWrong : ChangeSpec := { name := "quorumBest", fn := fun _ => fun
  | [d1, d2] => { results := [.lit (.bool false)], args := [d1, d2] }
  | _ => none }
def QuorumBestWrongFalsely : Prop := quorumBestRow.holds Try.pinned (OpenSpec.ofChange quorumBestWrong)

/-- 'stagecoachlaw17.QuorumDrops': WHATEVER THE INPUT: true; the input reads as it did. -/
def quorumDropsSpec : ChangeSpec := { name := "quorumDrops", fn := fun _ => fun
  | [d1, d2] => { results := [.lit (.bool true)], args := [d1, d2] }
  | _ => none }
def quorumDropsRow : OpenClaim := { program := "ytkdpopkbongabaa", sum := "c50dc64bbf56256f8e4dac6ba44cfad358ee4fa63c084f39ac1ac151488ad70b", func := "stagecoach/stagecoachlaw17.QuorumDrops", spec := "quorumDrops", unfollowed := true, recurses := true, plainKeys := false, apart := false }
def QuorumDropsSaid : Prop := quorumDropsRow.holds Try.pinned (OpenSpec.ofChange quorumDropsSpec)

/-- ITS FALSE NEIGHBOUR: 'it returns false'. Refute it at one input. -/
def quorumDropsWrong : ChangeSpec := { name := "quorumDrops", fn := fun _ => fun
  | [d1, d2] => { results := [.lit (.bool false)], args := [d1, d2] }
  | _ => none }
def QuorumDropsWrongFalsely : Prop := quorumDropsRow.holds Try.pinned (OpenSpec.ofChange quorumDropsWrong)

/-- 'stagecoachlaw17.QuorumTurns': WHATEVER THE INPUT: true; the input reads as it did. -/
def quorumTurnsSpec : ChangeSpec := { name := "quorumTurns", fn := fun _ => fun
  | [d1, d2] => { results := [.lit (.bool true)], args := [d1, d2] }
  | _ => none }
def quorumTurnsRow : OpenClaim := { program := "ytkdpopkbongabaa", sum := "c50dc64bbf56256f8e4dac6ba44cfad358ee4fa63c084f39ac1ac151488ad70b", func := "stagecoach/stagecoachlaw17.QuorumTurns", spec := "quorumTurns", unfollowed := true, recurses := true, plainKeys := false, apart := false }
def QuorumTurnsSaid : Prop := quorumTurnsRow.holds Try.pinned (OpenSpec.ofChange quorumTurnsSpec)

/-- ITS FALSE NEIGHBOUR: 'it returns false'. Refute it at one input. -/
def quorumTurnsWrong : ChangeSpec := { name := "quorumTurns", fn := fun _ => fun
  | [d1, d2] => { results := [.lit (.bool false)], args := [d1, d2] }
  | _ => none }
def QuorumTurnsWrongFalsely : Prop := quorumTurnsRow.holds Try.pinned (OpenSpec.ofChange quorumTurnsWrong)

/-- 'stagecoachlaw17.QuorumDoes': WHATEVER THE INPUT: true; the input reads as it did. -/
def quorumDoesSpec : ChangeSpec := { name := "quorumDoes", fn := fun _ => fun
  | [d1, d2] => { results := [.lit (.bool true)], args := [d1, d2] }
  | _ => none }
def quorumDoesRow : OpenClaim := { program := "ytkdpopkbongabaa", sum := "c50dc64bbf56256f8e4dac6ba44cfad358ee4fa63c084f39ac1ac151488ad70b", func := "stagecoach/stagecoachlaw17.QuorumDoes", spec := "quorumDoes", inPlace := ["maps.clone"], unfollowed := true, recurses := true, plainKeys := false, apart := false }
def QuorumDoesSaid : Prop := quorumDoesRow.holds Try.pinned (OpenSpec.ofChange quorumDoesSpec)

/-- ITS FALSE NEIGHBOUR: 'it returns false'. Refute it at one input. -/
def quorumDoesWrong : ChangeSpec := { name := "quorumDoes", fn := fun _ => fun
  | [d1, d2] => { results := [.lit (.bool false)], args := [d1, d2] }
  | _ => none }
def QuorumDoesWrongFalsely : Prop := quorumDoesRow.holds Try.pinned (OpenSpec.ofChange quorumDoesWrong)

/- THE SECOND FORM. 'bulk': how many values and letters a reading holds, each counted each time it is reached (what is shared counts as often as it is met; a slice's spare places count too). A statement '..UptoSaid' is the law's where the arguments, and the package variables that the reading takes, are together of bulk at most 1048576: NARROWER than '..Said'. Prove '..Said' where nothing that the law and all that it calls make is longer than what came in: it says more and counts as full. Else prove '..UptoSaid'. A law counts once. -/
mutual
def uptoBulk {H : Type} : DataW H → Nat
  | .lit (.string bytes) => bytes.length + 1
  | .lit _ => 1
  | .nil => 1
  | .ptr d => uptoBulk d + 1
  | .slice elems spare => uptoBulkAll elems + uptoBulkAll spare + 1
  | .agg parts => uptoBulkAll parts + 1
  | .iface _ d => uptoBulk d + 1
  | .map entries => uptoBulkEntries entries + 1
  | .held _ => 1
def uptoBulkAll {H : Type} : List (DataW H) → Nat
  | [] => 0
  | d :: r => uptoBulk d + uptoBulkAll r
def uptoBulkEntries {H : Type} : List (Lit × DataW H) → Nat
  | [] => 0
  | x :: r => uptoBulkEntry x + uptoBulkEntries r
def uptoBulkEntry {H : Type} : Lit × DataW H → Nat
  | (.string bytes, d) => bytes.length + uptoBulk d + 1
  | (_, d) => uptoBulk d + 1
 end
def uptoSmall : (H : Type) → List (DataW H) → Bool := fun _ ds => decide (uptoBulkAll ds ≤ 1048576)
def OpenSpec.upto (s : _root_.Go.ChangeSpec) : _root_.Go.OpenSpec := { _root_.Go.OpenSpec.ofChange s with cond := some uptoSmall }

/-- 'stagecoachlaw17.QuorumMeets', WHERE WHAT IT READS IS OF BULK AT MOST 1048576: true; the input reads as it did. -/
def quorumMeetsUptoRow : OpenClaim := { program := "ytkdpopkbongabaa", sum := "c50dc64bbf56256f8e4dac6ba44cfad358ee4fa63c084f39ac1ac151488ad70b", func := "stagecoach/stagecoachlaw17.QuorumMeets", spec := "quorumMeets", unfollowed := true, recurses := true, plainKeys := false, apart := false, narrowed := true }
def QuorumMeetsUptoSaid : Prop := quorumMeetsUptoRow.holds Try.pinned (OpenSpec.upto quorumMeetsSpec)

/-- 'stagecoachlaw17.QuorumBest', WHERE WHAT IT READS IS OF BULK AT MOST 1048576: true; the input reads as it did. -/
def quorumBestUptoRow : OpenClaim := { program := "ytkdpopkbongabaa", sum := "c50dc64bbf56256f8e4dac6ba44cfad358ee4fa63c084f39ac1ac151488ad70b", func := "stagecoach/stagecoachlaw17.QuorumBest", spec := "quorumBest", unfollowed := true, recurses := true, plainKeys := false, apart := false, narrowed := true }
def QuorumBestUptoSaid : Prop := quorumBestUptoRow.holds Try.pinned (OpenSpec.upto quorumBestSpec)

/-- 'stagecoachlaw17.QuorumDrops', WHERE WHAT IT READS IS OF BULK AT MOST 1048576: true; the input reads as it did. -/
def quorumDropsUptoRow : OpenClaim := { program := "ytkdpopkbongabaa", sum := "c50dc64bbf56256f8e4dac6ba44cfad358ee4fa63c084f39ac1ac151488ad70b", func := "stagecoach/stagecoachlaw17.QuorumDrops", spec := "quorumDrops", unfollowed := true, recurses := true, plainKeys := false, apart := false, narrowed := true }
def QuorumDropsUptoSaid : Prop := quorumDropsUptoRow.holds Try.pinned (OpenSpec.upto quorumDropsSpec)

/-- 'stagecoachlaw17.QuorumTurns', WHERE WHAT IT READS IS OF BULK AT MOST 1048576: true; the input reads as it did. -/
def quorumTurnsUptoRow : OpenClaim := { program := "ytkdpopkbongabaa", sum := "c50dc64bbf56256f8e4dac6ba44cfad358ee4fa63c084f39ac1ac151488ad70b", func := "stagecoach/stagecoachlaw17.QuorumTurns", spec := "quorumTurns", unfollowed := true, recurses := true, plainKeys := false, apart := false, narrowed := true }
def QuorumTurnsUptoSaid : Prop := quorumTurnsUptoRow.holds Try.pinned (OpenSpec.upto quorumTurnsSpec)

/-- 'stagecoachlaw17.QuorumDoes', WHERE WHAT IT READS IS OF BULK AT MOST 1048576: true; the input reads as it did. -/
def quorumDoesUptoRow : OpenClaim := { program := "ytkdpopkbongabaa", sum := "c50dc64bbf56256f8e4dac6ba44cfad358ee4fa63c084f39ac1ac151488ad70b", func := "stagecoach/stagecoachlaw17.QuorumDoes", spec := "quorumDoes", inPlace := ["maps.clone"], unfollowed := true, recurses := true, plainKeys := false, apart := false, narrowed := true }
def QuorumDoesUptoSaid : Prop := quorumDoesUptoRow.holds Try.pinned (OpenSpec.upto quorumDoesSpec)

end Rows
end Go.Proofs.Ytkdpopkbongabaa
