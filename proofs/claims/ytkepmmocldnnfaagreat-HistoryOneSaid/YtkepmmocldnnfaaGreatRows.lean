/-
  No cell of these rows narrows 'for every input' (looked for: loops, veiled, ifaces, maps, wideKeys, modest, calm, conditions, laid).
  DERIVED. THE GIVEN ROWS OF THIS SEAT. 4 by the template 'for every input the law returns true; each argument reads behind the call as it read before'; 0 by the template 'total and deterministic' (their statements: YtkepmmocldnnfaaGreatTotals.lean).
  GIVEN WITH THE SEED: the statements are not yours to turn. If you find one false, say at which input.
  Laid BY PROGRAM, IN A SANDBOX (cutbox-rows.mjs): the forced cells as the released guide's own fill.sh prints them over the translation b07d5b8444f364eb… (all of the seat's roots in one cut). By AI agents, Wed Nov 11 2026. No macro, syntax, notation, axiom, sorry.
-/
import Derived.Test.YtkepmmocldnnfaaGreatChecked
import GoSem.Claim
import GoSem.ClaimJoined
import GoSem.ClaimMapViews
import Derived.JoinedTies
import Derived.KernelRfl
namespace Go.Proofs.YtkepmmocldnnfaaGreat
/- THE CELL 'sum', in the pinned program and in every row, IS THE sha256 OF THE DUMP (.gsa) THAT YtkepmmocldnnfaaGreatProg.lean LOADS. Nothing in Lean hashes anything: it is a label: what it is worth is what the hold of that sum in a sandbox is worth. -/
noncomputable def Tryz.pinned : Pinned := { name := "ytkepmmocldnnfaagreat", sum := "b07d5b8444f364eb8ba0315438f4b548a4aadf7ac136686786767c4b8646a52e", checked := Tryz.checked }
namespace Rows
def none {H : Type} : Left H := { results := [], args := [] }

/-- 'stagecoachlaw24.HistoryOne': WHATEVER THE INPUT: true; the input reads as it did. -/
def historyOneSpec : ChangeSpec := { name := "historyOne", fn := fun _ => fun
  | [d1, d2] => { results := [.lit (.bool true)], args := [d1, d2] }
  | _ => none }
def historyOneRow : OpenClaim := { program := "ytkepmmocldnnfaagreat", sum := "b07d5b8444f364eb8ba0315438f4b548a4aadf7ac136686786767c4b8646a52e", func := "stagecoach/stagecoachlaw24.HistoryOne", spec := "historyOne", unfollowed := true, recurses := true, plainKeys := false, apart := false }
def HistoryOneSaid : Prop := historyOneRow.holds Tryz.pinned (OpenSpec.ofChange historyOneSpec)

/-- ITS FALSE NEIGHBOUR: 'it returns false'. Refute it at one input. -/
def historyOneWrong : ChangeSpec := { name := "historyOne", fn := fun _ => fun
  | [d1, d2] => { results := [.lit (.bool false)], args := [d1, d2] }
  | _ => none }
def HistoryOneWrongFalsely : Prop := historyOneRow.holds Tryz.pinned (OpenSpec.ofChange historyOneWrong)

/-- 'stagecoachlaw24.HistoryLate': WHATEVER THE INPUT: true; the input reads as it did. -/
def historyLateSpec : ChangeSpec := { name := "historyLate", fn := fun _ => fun
  | [d1, d2, d3] => { results := [.lit (.bool true)], args := [d1, d2, d3] }
  | _ => none }
def historyLateRow : OpenClaim := { program := "ytkepmmocldnnfaagreat", sum := "b07d5b8444f364eb8ba0315438f4b548a4aadf7ac136686786767c4b8646a52e", func := "stagecoach/stagecoachlaw24.HistoryLate", spec := "historyLate", unfollowed := true, recurses := true, plainKeys := false, apart := false }
def HistoryLateSaid : Prop := historyLateRow.holds Tryz.pinned (OpenSpec.ofChange historyLateSpec)

/-- ITS FALSE NEIGHBOUR: 'it returns false'. Refute it at one input. -/
def historyLateWrong : ChangeSpec := { name := "historyLate", fn := fun _ => fun
  | [d1, d2, d3] => { results := [.lit (.bool false)], args := [d1, d2, d3] }
  | _ => none }
def HistoryLateWrongFalsely : Prop := historyLateRow.holds Tryz.pinned (OpenSpec.ofChange historyLateWrong)

/-- 'stagecoachlaw24.HistoryPlaces': WHATEVER THE INPUT: true; the input reads as it did. -/
def historyPlacesSpec : ChangeSpec := { name := "historyPlaces", fn := fun _ => fun
  | [d] => { results := [.lit (.bool true)], args := [d] }
  | _ => none }
def historyPlacesRow : OpenClaim := { program := "ytkepmmocldnnfaagreat", sum := "b07d5b8444f364eb8ba0315438f4b548a4aadf7ac136686786767c4b8646a52e", func := "stagecoach/stagecoachlaw24.HistoryPlaces", spec := "historyPlaces", unfollowed := true, recurses := true, plainKeys := false, apart := false }
def HistoryPlacesSaid : Prop := historyPlacesRow.holds Tryz.pinned (OpenSpec.ofChange historyPlacesSpec)

/-- ITS FALSE NEIGHBOUR: 'it returns false'. Refute it at one input. -/
def historyPlacesWrong : ChangeSpec := { name := "historyPlaces", fn := fun _ => fun
  | [d] => { results := [.lit (.bool false)], args := [d] }
  | _ => none }
def HistoryPlacesWrongFalsely : Prop := historyPlacesRow.holds Tryz.pinned (OpenSpec.ofChange historyPlacesWrong)

/-- 'stagecoachlaw24.HistoryOpen': WHATEVER THE INPUT: true; the input reads as it did. -/
def historyOpenSpec : ChangeSpec := { name := "historyOpen", fn := fun _ => fun
  | [d] => { results := [.lit (.bool true)], args := [d] }
  | _ => none }
def historyOpenRow : OpenClaim := { program := "ytkepmmocldnnfaagreat", sum := "b07d5b8444f364eb8ba0315438f4b548a4aadf7ac136686786767c4b8646a52e", func := "stagecoach/stagecoachlaw24.HistoryOpen", spec := "historyOpen", unfollowed := true, recurses := true, plainKeys := false, apart := false }
def HistoryOpenSaid : Prop := historyOpenRow.holds Tryz.pinned (OpenSpec.ofChange historyOpenSpec)

/-- ITS FALSE NEIGHBOUR: 'it returns false'. Refute it at one input. -/
def historyOpenWrong : ChangeSpec := { name := "historyOpen", fn := fun _ => fun
  | [d] => { results := [.lit (.bool false)], args := [d] }
  | _ => none }
def HistoryOpenWrongFalsely : Prop := historyOpenRow.holds Tryz.pinned (OpenSpec.ofChange historyOpenWrong)

/- THE SECOND FORM. 'bulk': how many values and letters a reading holds, each counted each time it is reached (what is shared counts as often as it is met; a slice's spare places count too). A statement '..UptoSaid' is the law's where the arguments, and the package variables that the reading takes, are together of bulk at most 1048576: NARROWER than '..Said'. Prove '..Said' where nothing that the law and all that it calls make is longer than what came in: it says more and counts as full. Else prove '..UptoSaid'. A law counts once. -/
mutual
def uptoBulk {H : Type} : DataW H → Nat
  | .lit (.string bytes) => bytes.length + 1
  | .lit _ => 1
  | .nil => 1
  | .ptr d => uptoBulk d + 1
  | .slice elems spare => uptoBulkAll elems + uptoBulkAll spare + 1
  | .agg parts => uptoBulkAll parts + 1
  | .iface _ d => uptoBulk d + 1
  | .map entries => uptoBulkEntries entries + 1
  | .held _ => 1
def uptoBulkAll {H : Type} : List (DataW H) → Nat
  | [] => 0
  | d :: r => uptoBulk d + uptoBulkAll r
def uptoBulkEntries {H : Type} : List (Lit × DataW H) → Nat
  | [] => 0
  | x :: r => uptoBulkEntry x + uptoBulkEntries r
def uptoBulkEntry {H : Type} : Lit × DataW H → Nat
  | (.string bytes, d) => bytes.length + uptoBulk d + 1
  | (_, d) => uptoBulk d + 1
 end
def uptoSmall : (H : Type) → List (DataW H) → Bool := fun _ ds => decide (uptoBulkAll ds ≤ 1048576)
def OpenSpec.upto (s : _root_.Go.ChangeSpec) : _root_.Go.OpenSpec := { _root_.Go.OpenSpec.ofChange s with cond := some uptoSmall }

/-- 'stagecoachlaw24.HistoryOne', WHERE WHAT IT READS IS OF BULK AT MOST 1048576: true; the input reads as it did. -/
def historyOneUptoRow : OpenClaim := { program := "ytkepmmocldnnfaagreat", sum := "b07d5b8444f364eb8ba0315438f4b548a4aadf7ac136686786767c4b8646a52e", func := "stagecoach/stagecoachlaw24.HistoryOne", spec := "historyOne", unfollowed := true, recurses := true, plainKeys := false, apart := false, narrowed := true }
def HistoryOneUptoSaid : Prop := historyOneUptoRow.holds Tryz.pinned (OpenSpec.upto historyOneSpec)

/-- 'stagecoachlaw24.HistoryLate', WHERE WHAT IT READS IS OF BULK AT MOST 1048576: true; the input reads as it did. -/
def historyLateUptoRow : OpenClaim := { program := "ytkepmmocldnnfaagreat", sum := "b07d5b8444f364eb8ba0315438f4b548a4aadf7ac136686786767c4b8646a52e", func := "stagecoach/stagecoachlaw24.HistoryLate", spec := "historyLate", unfollowed := true, recurses := true, plainKeys := false, apart := false, narrowed := true }
def HistoryLateUptoSaid : Prop := historyLateUptoRow.holds Tryz.pinned (OpenSpec.upto historyLateSpec)

/-- 'stagecoachlaw24.HistoryPlaces', WHERE WHAT IT READS IS OF BULK AT MOST 1048576: true; the input reads as it did. -/
def historyPlacesUptoRow : OpenClaim := { program := "ytkepmmocldnnfaagreat", sum := "b07d5b8444f364eb8ba0315438f4b548a4aadf7ac136686786767c4b8646a52e", func := "stagecoach/stagecoachlaw24.HistoryPlaces", spec := "historyPlaces", unfollowed := true, recurses := true, plainKeys := false, apart := false, narrowed := true }
def HistoryPlacesUptoSaid : Prop := historyPlacesUptoRow.holds Tryz.pinned (OpenSpec.upto historyPlacesSpec)

/-- 'stagecoachlaw24.HistoryOpen', WHERE WHAT IT READS IS OF BULK AT MOST 1048576: true; the input reads as it did. -/
def historyOpenUptoRow : OpenClaim := { program := "ytkepmmocldnnfaagreat", sum := "b07d5b8444f364eb8ba0315438f4b548a4aadf7ac136686786767c4b8646a52e", func := "stagecoach/stagecoachlaw24.HistoryOpen", spec := "historyOpen", unfollowed := true, recurses := true, plainKeys := false, apart := false, narrowed := true }
def HistoryOpenUptoSaid : Prop := historyOpenUptoRow.holds Tryz.pinned (OpenSpec.upto historyOpenSpec)

end Rows
end Go.Proofs.YtkepmmocldnnfaaGreat
