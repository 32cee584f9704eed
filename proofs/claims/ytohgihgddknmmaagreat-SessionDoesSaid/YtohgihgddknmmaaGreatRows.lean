/-
  No cell of these rows narrows 'for every input' (looked for: loops, veiled, ifaces, maps, wideKeys, modest, calm, conditions, laid).
  DERIVED. THE GIVEN ROWS OF THIS SEAT. 7 by the template 'for every input the law returns true; each argument reads behind the call as it read before'; 0 by the template 'total and deterministic' (their statements: YtohgihgddknmmaaGreatTotals.lean).
  GIVEN WITH THE SEED: the statements are not yours to turn. If you find one false, say at which input.
  Laid BY PROGRAM, IN A SANDBOX (cutbox-rows.mjs): the forced cells as the released guide's own fill.sh prints them over the translation 647ff70c1d1567c0… (all of the seat's roots in one cut). By AI agents, Wed Nov 11 2026. No macro, syntax, notation, axiom, sorry.
-/
import Derived.Test.YtohgihgddknmmaaGreatChecked
import GoSem.Claim
import GoSem.ClaimJoined
import GoSem.ClaimMapViews
import Derived.JoinedTies
import Derived.KernelRfl
namespace Go.Proofs.YtohgihgddknmmaaGreat
/- THE CELL 'sum', in the pinned program and in every row, IS THE sha256 OF THE DUMP (.gsa) THAT YtohgihgddknmmaaGreatProg.lean LOADS. Nothing in Lean hashes anything: it is a label: what it is worth is what the hold of that sum in a sandbox is worth. -/
noncomputable def Tryz.pinned : Pinned := { name := "ytohgihgddknmmaagreat", sum := "647ff70c1d1567c099931a40caf4b50d35f94f9fdb70954fc3f1842d5cbd338e", checked := Tryz.checked }
namespace Rows
def none {H : Type} : Left H := { results := [], args := [] }

/-- 'stagecoachlaw22.SessionDoes': WHATEVER THE INPUT: true; the input reads as it did. -/
def sessionDoesSpec : ChangeSpec := { name := "sessionDoes", fn := fun _ => fun
  | [d1, d2, d3] => { results := [.lit (.bool true)], args := [d1, d2, d3] }
  | _ => none }
def sessionDoesRow : OpenClaim := { program := "ytohgihgddknmmaagreat", sum := "647ff70c1d1567c099931a40caf4b50d35f94f9fdb70954fc3f1842d5cbd338e", func := "stagecoach/stagecoachlaw22.SessionDoes", spec := "sessionDoes", inPlace := ["internal/abi.NoEscape"], unfollowed := true, recurses := true, apart := false }
def SessionDoesSaid : Prop := sessionDoesRow.holds Tryz.pinned (OpenSpec.ofChange sessionDoesSpec)

/-- ITS FALSE NEIGHBOUR: 'it returns false'. Refute it at one input. -/
def sessionDoesWrong : ChangeSpec := { name := "sessionDoes", fn := fun _ => fun
  | [d1, d2, d3] => { results := [.lit (.bool false)], args := [d1, d2, d3] }
  | _ => none }
def SessionDoesWrongFalsely : Prop := sessionDoesRow.holds Tryz.pinned (OpenSpec.ofChange sessionDoesWrong)

/-- 'stagecoachlaw16.OplogTexts': WHATEVER THE INPUT: true; the input reads as it did. -/
def oplogTextsSpec : ChangeSpec := { name := "oplogTexts", fn := fun _ => fun
  | [d1, d2, d3] => { results := [.lit (.bool true)], args := [d1, d2, d3] }
  | _ => none }
def oplogTextsRow : OpenClaim := { program := "ytohgihgddknmmaagreat", sum := "647ff70c1d1567c099931a40caf4b50d35f94f9fdb70954fc3f1842d5cbd338e", func := "stagecoach/stagecoachlaw16.OplogTexts", spec := "oplogTexts", inPlace := ["internal/abi.NoEscape"], unfollowed := true, recurses := true, apart := false }
def OplogTextsSaid : Prop := oplogTextsRow.holds Tryz.pinned (OpenSpec.ofChange oplogTextsSpec)

/-- ITS FALSE NEIGHBOUR: 'it returns false'. Refute it at one input. -/
def oplogTextsWrong : ChangeSpec := { name := "oplogTexts", fn := fun _ => fun
  | [d1, d2, d3] => { results := [.lit (.bool false)], args := [d1, d2, d3] }
  | _ => none }
def OplogTextsWrongFalsely : Prop := oplogTextsRow.holds Tryz.pinned (OpenSpec.ofChange oplogTextsWrong)

/-- 'stagecoachlaw16.OplogBack': WHATEVER THE INPUT: true; the input reads as it did. -/
def oplogBackSpec : ChangeSpec := { name := "oplogBack", fn := fun _ => fun
  | [d1, d2] => { results := [.lit (.bool true)], args := [d1, d2] }
  | _ => none }
def oplogBackRow : OpenClaim := { program := "ytohgihgddknmmaagreat", sum := "647ff70c1d1567c099931a40caf4b50d35f94f9fdb70954fc3f1842d5cbd338e", func := "stagecoach/stagecoachlaw16.OplogBack", spec := "oplogBack", inPlace := ["internal/abi.NoEscape"], unfollowed := true, recurses := true, apart := false }
def OplogBackSaid : Prop := oplogBackRow.holds Tryz.pinned (OpenSpec.ofChange oplogBackSpec)

/-- ITS FALSE NEIGHBOUR: 'it returns false'. Refute it at one input. -/
def oplogBackWrong : ChangeSpec := { name := "oplogBack", fn := fun _ => fun
  | [d1, d2] => { results := [.lit (.bool false)], args := [d1, d2] }
  | _ => none }
def OplogBackWrongFalsely : Prop := oplogBackRow.holds Tryz.pinned (OpenSpec.ofChange oplogBackWrong)

/-- 'stagecoachlaw16.OplogMoves': WHATEVER THE INPUT: true; the input reads as it did. -/
def oplogMovesSpec : ChangeSpec := { name := "oplogMoves", fn := fun _ => fun
  | [d1, d2, d3] => { results := [.lit (.bool true)], args := [d1, d2, d3] }
  | _ => none }
def oplogMovesRow : OpenClaim := { program := "ytohgihgddknmmaagreat", sum := "647ff70c1d1567c099931a40caf4b50d35f94f9fdb70954fc3f1842d5cbd338e", func := "stagecoach/stagecoachlaw16.OplogMoves", spec := "oplogMoves", inPlace := ["internal/abi.NoEscape"], unfollowed := true, recurses := true, apart := false }
def OplogMovesSaid : Prop := oplogMovesRow.holds Tryz.pinned (OpenSpec.ofChange oplogMovesSpec)

/-- ITS FALSE NEIGHBOUR: 'it returns false'. Refute it at one input. -/
def oplogMovesWrong : ChangeSpec := { name := "oplogMoves", fn := fun _ => fun
  | [d1, d2, d3] => { results := [.lit (.bool false)], args := [d1, d2, d3] }
  | _ => none }
def OplogMovesWrongFalsely : Prop := oplogMovesRow.holds Tryz.pinned (OpenSpec.ofChange oplogMovesWrong)

/-- 'stagecoachlaw16.OplogNumbers': WHATEVER THE INPUT: true; the input reads as it did. -/
def oplogNumbersSpec : ChangeSpec := { name := "oplogNumbers", fn := fun _ => fun
  | [d1, d2] => { results := [.lit (.bool true)], args := [d1, d2] }
  | _ => none }
def oplogNumbersRow : OpenClaim := { program := "ytohgihgddknmmaagreat", sum := "647ff70c1d1567c099931a40caf4b50d35f94f9fdb70954fc3f1842d5cbd338e", func := "stagecoach/stagecoachlaw16.OplogNumbers", spec := "oplogNumbers", inPlace := ["internal/abi.NoEscape"], unfollowed := true, recurses := true, apart := false }
def OplogNumbersSaid : Prop := oplogNumbersRow.holds Tryz.pinned (OpenSpec.ofChange oplogNumbersSpec)

/-- ITS FALSE NEIGHBOUR: 'it returns false'. Refute it at one input. -/
def oplogNumbersWrong : ChangeSpec := { name := "oplogNumbers", fn := fun _ => fun
  | [d1, d2] => { results := [.lit (.bool false)], args := [d1, d2] }
  | _ => none }
def OplogNumbersWrongFalsely : Prop := oplogNumbersRow.holds Tryz.pinned (OpenSpec.ofChange oplogNumbersWrong)

/-- 'stagecoachlaw16.OplogCuts': WHATEVER THE INPUT: true; the input reads as it did. -/
def oplogCutsSpec : ChangeSpec := { name := "oplogCuts", fn := fun _ => fun
  | [d1, d2] => { results := [.lit (.bool true)], args := [d1, d2] }
  | _ => none }
def oplogCutsRow : OpenClaim := { program := "ytohgihgddknmmaagreat", sum := "647ff70c1d1567c099931a40caf4b50d35f94f9fdb70954fc3f1842d5cbd338e", func := "stagecoach/stagecoachlaw16.OplogCuts", spec := "oplogCuts", inPlace := ["internal/abi.NoEscape"], unfollowed := true, recurses := true, apart := false }
def OplogCutsSaid : Prop := oplogCutsRow.holds Tryz.pinned (OpenSpec.ofChange oplogCutsSpec)

/-- ITS FALSE NEIGHBOUR: 'it returns false'. Refute it at one input. -/
def oplogCutsWrong : ChangeSpec := { name := "oplogCuts", fn := fun _ => fun
  | [d1, d2] => { results := [.lit (.bool false)], args := [d1, d2] }
  | _ => none }
def OplogCutsWrongFalsely : Prop := oplogCutsRow.holds Tryz.pinned (OpenSpec.ofChange oplogCutsWrong)

/-- 'stagecoachlaw16.OplogDoes': WHATEVER THE INPUT: true; the input reads as it did. -/
def oplogDoesSpec : ChangeSpec := { name := "oplogDoes", fn := fun _ => fun
  | [d1, d2] => { results := [.lit (.bool true)], args := [d1, d2] }
  | _ => none }
def oplogDoesRow : OpenClaim := { program := "ytohgihgddknmmaagreat", sum := "647ff70c1d1567c099931a40caf4b50d35f94f9fdb70954fc3f1842d5cbd338e", func := "stagecoach/stagecoachlaw16.OplogDoes", spec := "oplogDoes", inPlace := ["internal/abi.NoEscape"], unfollowed := true, recurses := true, apart := false }
def OplogDoesSaid : Prop := oplogDoesRow.holds Tryz.pinned (OpenSpec.ofChange oplogDoesSpec)

/-- ITS FALSE NEIGHBOUR: 'it returns false'. Refute it at one input. -/
def oplogDoesWrong : ChangeSpec := { name := "oplogDoes", fn := fun _ => fun
  | [d1, d2] => { results := [.lit (.bool false)], args := [d1, d2] }
  | _ => none }
def OplogDoesWrongFalsely : Prop := oplogDoesRow.holds Tryz.pinned (OpenSpec.ofChange oplogDoesWrong)

/- THE SECOND FORM. 'bulk': how many values and letters a reading holds, each counted each time it is reached (what is shared counts as often as it is met; a slice's spare places count too). A statement '..UptoSaid' is the law's where the arguments, and the package variables that the reading takes, are together of bulk at most 1048576: NARROWER than '..Said'. Prove '..Said' where nothing that the law and all that it calls make is longer than what came in: it says more and counts as full. Else prove '..UptoSaid'. A law counts once. -/
mutual
def uptoBulk {H : Type} : DataW H → Nat
  | .lit (.string bytes) => bytes.length + 1
  | .lit _ => 1
  | .nil => 1
  | .ptr d => uptoBulk d + 1
  | .slice elems spare => uptoBulkAll elems + uptoBulkAll spare + 1
  | .agg parts => uptoBulkAll parts + 1
  | .iface _ d => uptoBulk d + 1
  | .map entries => uptoBulkEntries entries + 1
  | .held _ => 1
def uptoBulkAll {H : Type} : List (DataW H) → Nat
  | [] => 0
  | d :: r => uptoBulk d + uptoBulkAll r
def uptoBulkEntries {H : Type} : List (Lit × DataW H) → Nat
  | [] => 0
  | x :: r => uptoBulkEntry x + uptoBulkEntries r
def uptoBulkEntry {H : Type} : Lit × DataW H → Nat
  | (.string bytes, d) => bytes.length + uptoBulk d + 1
  | (_, d) => uptoBulk d + 1
 end
def uptoSmall : (H : Type) → List (DataW H) → Bool := fun _ ds => decide (uptoBulkAll ds ≤ 1048576)
def OpenSpec.upto (s : _root_.Go.ChangeSpec) : _root_.Go.OpenSpec := { _root_.Go.OpenSpec.ofChange s with cond := some uptoSmall }

/-- 'stagecoachlaw22.SessionDoes', WHERE WHAT IT READS IS OF BULK AT MOST 1048576: true; the input reads as it did. -/
def sessionDoesUptoRow : OpenClaim := { program := "ytohgihgddknmmaagreat", sum := "647ff70c1d1567c099931a40caf4b50d35f94f9fdb70954fc3f1842d5cbd338e", func := "stagecoach/stagecoachlaw22.SessionDoes", spec := "sessionDoes", inPlace := ["internal/abi.NoEscape"], unfollowed := true, recurses := true, apart := false, narrowed := true }
def SessionDoesUptoSaid : Prop := sessionDoesUptoRow.holds Tryz.pinned (OpenSpec.upto sessionDoesSpec)

/-- 'stagecoachlaw16.OplogTexts', WHERE WHAT IT READS IS OF BULK AT MOST 1048576: true; the input reads as it did. -/
def oplogTextsUptoRow : OpenClaim := { program := "ytohgihgddknmmaagreat", sum := "647ff70c1d1567c099931a40caf4b50d35f94f9fdb70954fc3f1842d5cbd338e", func := "stagecoach/stagecoachlaw16.OplogTexts", spec := "oplogTexts", inPlace := ["internal/abi.NoEscape"], unfollowed := true, recurses := true, apart := false, narrowed := true }
def OplogTextsUptoSaid : Prop := oplogTextsUptoRow.holds Tryz.pinned (OpenSpec.upto oplogTextsSpec)

/-- 'stagecoachlaw16.OplogBack', WHERE WHAT IT READS IS OF BULK AT MOST 1048576: true; the input reads as it did. -/
def oplogBackUptoRow : OpenClaim := { program := "ytohgihgddknmmaagreat", sum := "647ff70c1d1567c099931a40caf4b50d35f94f9fdb70954fc3f1842d5cbd338e", func := "stagecoach/stagecoachlaw16.OplogBack", spec := "oplogBack", inPlace := ["internal/abi.NoEscape"], unfollowed := true, recurses := true, apart := false, narrowed := true }
def OplogBackUptoSaid : Prop := oplogBackUptoRow.holds Tryz.pinned (OpenSpec.upto oplogBackSpec)

/-- 'stagecoachlaw16.OplogMoves', WHERE WHAT IT READS IS OF BULK AT MOST 1048576: true; the input reads as it did. -/
def oplogMovesUptoRow : OpenClaim := { program := "ytohgihgddknmmaagreat", sum := "647ff70c1d1567c099931a40caf4b50d35f94f9fdb70954fc3f1842d5cbd338e", func := "stagecoach/stagecoachlaw16.OplogMoves", spec := "oplogMoves", inPlace := ["internal/abi.NoEscape"], unfollowed := true, recurses := true, apart := false, narrowed := true }
def OplogMovesUptoSaid : Prop := oplogMovesUptoRow.holds Tryz.pinned (OpenSpec.upto oplogMovesSpec)

/-- 'stagecoachlaw16.OplogNumbers', WHERE WHAT IT READS IS OF BULK AT MOST 1048576: true; the input reads as it did. -/
def oplogNumbersUptoRow : OpenClaim := { program := "ytohgihgddknmmaagreat", sum := "647ff70c1d1567c099931a40caf4b50d35f94f9fdb70954fc3f1842d5cbd338e", func := "stagecoach/stagecoachlaw16.OplogNumbers", spec := "oplogNumbers", inPlace := ["internal/abi.NoEscape"], unfollowed := true, recurses := true, apart := false, narrowed := true }
def OplogNumbersUptoSaid : Prop := oplogNumbersUptoRow.holds Tryz.pinned (OpenSpec.upto oplogNumbersSpec)

/-- 'stagecoachlaw16.OplogCuts', WHERE WHAT IT READS IS OF BULK AT MOST 1048576: true; the input reads as it did. -/
def oplogCutsUptoRow : OpenClaim := { program := "ytohgihgddknmmaagreat", sum := "647ff70c1d1567c099931a40caf4b50d35f94f9fdb70954fc3f1842d5cbd338e", func := "stagecoach/stagecoachlaw16.OplogCuts", spec := "oplogCuts", inPlace := ["internal/abi.NoEscape"], unfollowed := true, recurses := true, apart := false, narrowed := true }
def OplogCutsUptoSaid : Prop := oplogCutsUptoRow.holds Tryz.pinned (OpenSpec.upto oplogCutsSpec)

/-- 'stagecoachlaw16.OplogDoes', WHERE WHAT IT READS IS OF BULK AT MOST 1048576: true; the input reads as it did. -/
def oplogDoesUptoRow : OpenClaim := { program := "ytohgihgddknmmaagreat", sum := "647ff70c1d1567c099931a40caf4b50d35f94f9fdb70954fc3f1842d5cbd338e", func := "stagecoach/stagecoachlaw16.OplogDoes", spec := "oplogDoes", inPlace := ["internal/abi.NoEscape"], unfollowed := true, recurses := true, apart := false, narrowed := true }
def OplogDoesUptoSaid : Prop := oplogDoesUptoRow.holds Tryz.pinned (OpenSpec.upto oplogDoesSpec)

end Rows
end Go.Proofs.YtohgihgddknmmaaGreat
