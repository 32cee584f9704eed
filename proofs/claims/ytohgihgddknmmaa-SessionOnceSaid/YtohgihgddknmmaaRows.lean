/-
  No cell of these rows narrows 'for every input' (looked for: loops, veiled, ifaces, maps, wideKeys, modest, calm, conditions, laid).
  DERIVED. THE GIVEN ROWS OF THIS SEAT. 3 by the template 'for every input the law returns true; each argument reads behind the call as it read before'; 0 by the template 'total and deterministic' (their statements: YtohgihgddknmmaaTotals.lean).
  GIVEN WITH THE SEED: the statements are not yours to turn. If you find one false, say at which input.
  Laid BY PROGRAM, IN A SANDBOX (cutbox-rows.mjs): the forced cells as the released guide's own fill.sh prints them over the translation 078c21ad3ade8644… (all of the seat's roots in one cut). By AI agents, Wed Nov 11 2026. No macro, syntax, notation, axiom, sorry.
-/
import Derived.Test.YtohgihgddknmmaaChecked
import GoSem.Claim
import GoSem.ClaimJoined
import GoSem.ClaimMapViews
import Derived.JoinedTies
import Derived.KernelRfl
namespace Go.Proofs.Ytohgihgddknmmaa
/- THE CELL 'sum', in the pinned program and in every row, IS THE sha256 OF THE DUMP (.gsa) THAT YtohgihgddknmmaaProg.lean LOADS. Nothing in Lean hashes anything: it is a label: what it is worth is what the hold of that sum in a sandbox is worth. -/
noncomputable def Try.pinned : Pinned := { name := "ytohgihgddknmmaa", sum := "078c21ad3ade8644d9b060aeef6ab4bea004220d8bc8a1d4bd6534f45c96541f", checked := Try.checked }
namespace Rows
def none {H : Type} : Left H := { results := [], args := [] }

/-- 'stagecoachlaw22.SessionOnce': WHATEVER THE INPUT: true; the input reads as it did. -/
def sessionOnceSpec : ChangeSpec := { name := "sessionOnce", fn := fun _ => fun
  | [d1, d2] => { results := [.lit (.bool true)], args := [d1, d2] }
  | _ => none }
def sessionOnceRow : OpenClaim := { program := "ytohgihgddknmmaa", sum := "078c21ad3ade8644d9b060aeef6ab4bea004220d8bc8a1d4bd6534f45c96541f", func := "stagecoach/stagecoachlaw22.SessionOnce", spec := "sessionOnce", inPlace := ["internal/abi.NoEscape"], unfollowed := true, recurses := true, apart := false }
def SessionOnceSaid : Prop := sessionOnceRow.holds Try.pinned (OpenSpec.ofChange sessionOnceSpec)

/-- ITS FALSE NEIGHBOUR: 'it returns false'. Refute it at one input. -/
def sessionOnceWrong : ChangeSpec := { name := "sessionOnce", fn := fun _ => fun
  | [d1, d2] => { results := [.lit (.bool false)], args := [d1, d2] }
  | _ => none }
def SessionOnceWrongFalsely : Prop := sessionOnceRow.holds Try.pinned (OpenSpec.ofChange sessionOnceWrong)

/-- 'stagecoachlaw22.SessionFinds': WHATEVER THE INPUT: true; the input reads as it did. -/
def sessionFindsSpec : ChangeSpec := { name := "sessionFinds", fn := fun _ => fun
  | [d1, d2] => { results := [.lit (.bool true)], args := [d1, d2] }
  | _ => none }
def sessionFindsRow : OpenClaim := { program := "ytohgihgddknmmaa", sum := "078c21ad3ade8644d9b060aeef6ab4bea004220d8bc8a1d4bd6534f45c96541f", func := "stagecoach/stagecoachlaw22.SessionFinds", spec := "sessionFinds", inPlace := ["internal/abi.NoEscape"], unfollowed := true, recurses := true, apart := false }
def SessionFindsSaid : Prop := sessionFindsRow.holds Try.pinned (OpenSpec.ofChange sessionFindsSpec)

/-- ITS FALSE NEIGHBOUR: 'it returns false'. Refute it at one input. -/
def sessionFindsWrong : ChangeSpec := { name := "sessionFinds", fn := fun _ => fun
  | [d1, d2] => { results := [.lit (.bool false)], args := [d1, d2] }
  | _ => none }
def SessionFindsWrongFalsely : Prop := sessionFindsRow.holds Try.pinned (OpenSpec.ofChange sessionFindsWrong)

/-- 'stagecoachlaw22.SessionWaits': WHATEVER THE INPUT: true; the input reads as it did. -/
def sessionWaitsSpec : ChangeSpec := { name := "sessionWaits", fn := fun _ => fun
  | [d1, d2] => { results := [.lit (.bool true)], args := [d1, d2] }
  | _ => none }
def sessionWaitsRow : OpenClaim := { program := "ytohgihgddknmmaa", sum := "078c21ad3ade8644d9b060aeef6ab4bea004220d8bc8a1d4bd6534f45c96541f", func := "stagecoach/stagecoachlaw22.SessionWaits", spec := "sessionWaits", inPlace := ["internal/abi.NoEscape"], unfollowed := true, recurses := true, apart := false }
def SessionWaitsSaid : Prop := sessionWaitsRow.holds Try.pinned (OpenSpec.ofChange sessionWaitsSpec)

/-- ITS FALSE NEIGHBOUR: 'it returns false'. Refute it at one input. -/
def sessionWaitsWrong : ChangeSpec := { name := "sessionWaits", fn := fun _ => fun
  | [d1, d2] => { results := [.lit (.bool false)], args := [d1, d2] }
  | _ => none }
def SessionWaitsWrongFalsely : Prop := sessionWaitsRow.holds Try.pinned (OpenSpec.ofChange sessionWaitsWrong)

/- THE SECOND FORM. 'bulk': how many values and letters a reading holds, each counted each time it is reached (what is shared counts as often as it is met; a slice's spare places count too). A statement '..UptoSaid' is the law's where the arguments, and the package variables that the reading takes, are together of bulk at most 1048576: NARROWER than '..Said'. Prove '..Said' where nothing that the law and all that it calls make is longer than what came in: it says more and counts as full. Else prove '..UptoSaid'. A law counts once. -/
mutual
def uptoBulk {H : Type} : DataW H → Nat
  | .lit (.string bytes) => bytes.length + 1
  | .lit _ => 1
  | .nil => 1
  | .ptr d => uptoBulk d + 1
  | .slice elems spare => uptoBulkAll elems + uptoBulkAll spare + 1
  | .agg parts => uptoBulkAll parts + 1
  | .iface _ d => uptoBulk d + 1
  | .map entries => uptoBulkEntries entries + 1
  | .held _ => 1
def uptoBulkAll {H : Type} : List (DataW H) → Nat
  | [] => 0
  | d :: r => uptoBulk d + uptoBulkAll r
def uptoBulkEntries {H : Type} : List (Lit × DataW H) → Nat
  | [] => 0
  | x :: r => uptoBulkEntry x + uptoBulkEntries r
def uptoBulkEntry {H : Type} : Lit × DataW H → Nat
  | (.string bytes, d) => bytes.length + uptoBulk d + 1
  | (_, d) => uptoBulk d + 1
 end
def uptoSmall : (H : Type) → List (DataW H) → Bool := fun _ ds => decide (uptoBulkAll ds ≤ 1048576)
def OpenSpec.upto (s : _root_.Go.ChangeSpec) : _root_.Go.OpenSpec := { _root_.Go.OpenSpec.ofChange s with cond := some uptoSmall }

/-- 'stagecoachlaw22.SessionOnce', WHERE WHAT IT READS IS OF BULK AT MOST 1048576: true; the input reads as it did. -/
def sessionOnceUptoRow : OpenClaim := { program := "ytohgihgddknmmaa", sum := "078c21ad3ade8644d9b060aeef6ab4bea004220d8bc8a1d4bd6534f45c96541f", func := "stagecoach/stagecoachlaw22.SessionOnce", spec := "sessionOnce", inPlace := ["internal/abi.NoEscape"], unfollowed := true, recurses := true, apart := false, narrowed := true }
def SessionOnceUptoSaid : Prop := sessionOnceUptoRow.holds Try.pinned (OpenSpec.upto sessionOnceSpec)

/-- 'stagecoachlaw22.SessionFinds', WHERE WHAT IT READS IS OF BULK AT MOST 1048576: true; the input reads as it did. -/
def sessionFindsUptoRow : OpenClaim := { program := "ytohgihgddknmmaa", sum := "078c21ad3ade8644d9b060aeef6ab4bea004220d8bc8a1d4bd6534f45c96541f", func := "stagecoach/stagecoachlaw22.SessionFinds", spec := "sessionFinds", inPlace := ["internal/abi.NoEscape"], unfollowed := true, recurses := true, apart := false, narrowed := true }
def SessionFindsUptoSaid : Prop := sessionFindsUptoRow.holds Try.pinned (OpenSpec.upto sessionFindsSpec)

/-- 'stagecoachlaw22.SessionWaits', WHERE WHAT IT READS IS OF BULK AT MOST 1048576: true; the input reads as it did. -/
def sessionWaitsUptoRow : OpenClaim := { program := "ytohgihgddknmmaa", sum := "078c21ad3ade8644d9b060aeef6ab4bea004220d8bc8a1d4bd6534f45c96541f", func := "stagecoach/stagecoachlaw22.SessionWaits", spec := "sessionWaits", inPlace := ["internal/abi.NoEscape"], unfollowed := true, recurses := true, apart := false, narrowed := true }
def SessionWaitsUptoSaid : Prop := sessionWaitsUptoRow.holds Try.pinned (OpenSpec.upto sessionWaitsSpec)

end Rows
end Go.Proofs.Ytohgihgddknmmaa
