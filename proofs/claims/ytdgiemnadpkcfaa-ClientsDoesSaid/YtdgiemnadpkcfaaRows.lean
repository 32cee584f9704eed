/-
  No cell of these rows narrows 'for every input' (looked for: loops, veiled, ifaces, maps, wideKeys, modest, calm, conditions, laid).
  DERIVED. THE GIVEN ROWS OF THIS SEAT. 6 by the template 'for every input the law returns true; each argument reads behind the call as it read before'; 0 by the template 'total and deterministic' (their statements: YtdgiemnadpkcfaaTotals.lean).
  GIVEN WITH THE SEED: the statements are not yours to turn. If you find one false, say at which input.
  Laid BY PROGRAM, IN A SANDBOX (cutbox-rows.mjs): the forced cells as the released guide's own fill.sh prints them over the translation 2ef8facf4e5b0391… (all of the seat's roots in one cut). By AI agents, Wed Nov 11 2026. No macro, syntax, notation, axiom, sorry.
-/
import Derived.Test.YtdgiemnadpkcfaaChecked
import GoSem.Claim
import GoSem.ClaimJoined
import GoSem.ClaimMapViews
import Derived.JoinedTies
import Derived.KernelRfl
namespace Go.Proofs.Ytdgiemnadpkcfaa
/- THE CELL 'sum', in the pinned program and in every row, IS THE sha256 OF THE DUMP (.gsa) THAT YtdgiemnadpkcfaaProg.lean LOADS. Nothing in Lean hashes anything: it is a label: what it is worth is what the hold of that sum in a sandbox is worth. -/
noncomputable def Try.pinned : Pinned := { name := "ytdgiemnadpkcfaa", sum := "2ef8facf4e5b0391c7086bd5683c6ccab95620b39dc903fdb8db068a88a2e16a", checked := Try.checked }
namespace Rows
def none {H : Type} : Left H := { results := [], args := [] }

/-- 'stagecoachlaw15.ClientsLoads': WHATEVER THE INPUT: true; the input reads as it did. -/
def clientsLoadsSpec : ChangeSpec := { name := "clientsLoads", fn := fun _ => fun
  | [d] => { results := [.lit (.bool true)], args := [d] }
  | _ => none }
def clientsLoadsRow : OpenClaim := { program := "ytdgiemnadpkcfaa", sum := "2ef8facf4e5b0391c7086bd5683c6ccab95620b39dc903fdb8db068a88a2e16a", func := "stagecoach/stagecoachlaw15.ClientsLoads", spec := "clientsLoads", inPlace := ["internal/abi.NoEscape"], unfollowed := true, recurses := true, apart := false }
def ClientsLoadsSaid : Prop := clientsLoadsRow.holds Try.pinned (OpenSpec.ofChange clientsLoadsSpec)

/-- ITS FALSE NEIGHBOUR: 'it returns false'. Refute it at one input. -/
def clientsLoadsWrong : ChangeSpec := { name := "clientsLoads", fn := fun _ => fun
  | [d] => { results := [.lit (.bool false)], args := [d] }
  | _ => none }
def ClientsLoadsWrongFalsely : Prop := clientsLoadsRow.holds Try.pinned (OpenSpec.ofChange clientsLoadsWrong)

/-- 'stagecoachlaw15.ClientsOnce': WHATEVER THE INPUT: true; the input reads as it did. -/
def clientsOnceSpec : ChangeSpec := { name := "clientsOnce", fn := fun _ => fun
  | [d1, d2] => { results := [.lit (.bool true)], args := [d1, d2] }
  | _ => none }
def clientsOnceRow : OpenClaim := { program := "ytdgiemnadpkcfaa", sum := "2ef8facf4e5b0391c7086bd5683c6ccab95620b39dc903fdb8db068a88a2e16a", func := "stagecoach/stagecoachlaw15.ClientsOnce", spec := "clientsOnce", inPlace := ["internal/abi.NoEscape"], unfollowed := true, recurses := true, apart := false }
def ClientsOnceSaid : Prop := clientsOnceRow.holds Try.pinned (OpenSpec.ofChange clientsOnceSpec)

/-- ITS FALSE NEIGHBOUR: 'it returns false'. Refute it at one input. -/
def clientsOnceWrong : ChangeSpec := { name := "clientsOnce", fn := fun _ => fun
  | [d1, d2] => { results := [.lit (.bool false)], args := [d1, d2] }
  | _ => none }
def ClientsOnceWrongFalsely : Prop := clientsOnceRow.holds Try.pinned (OpenSpec.ofChange clientsOnceWrong)

/-- 'stagecoachlaw15.ClientsFull': WHATEVER THE INPUT: true; the input reads as it did. -/
def clientsFullSpec : ChangeSpec := { name := "clientsFull", fn := fun _ => fun
  | [d1, d2] => { results := [.lit (.bool true)], args := [d1, d2] }
  | _ => none }
def clientsFullRow : OpenClaim := { program := "ytdgiemnadpkcfaa", sum := "2ef8facf4e5b0391c7086bd5683c6ccab95620b39dc903fdb8db068a88a2e16a", func := "stagecoach/stagecoachlaw15.ClientsFull", spec := "clientsFull", inPlace := ["internal/abi.NoEscape"], unfollowed := true, recurses := true, apart := false }
def ClientsFullSaid : Prop := clientsFullRow.holds Try.pinned (OpenSpec.ofChange clientsFullSpec)

/-- ITS FALSE NEIGHBOUR: 'it returns false'. Refute it at one input. -/
def clientsFullWrong : ChangeSpec := { name := "clientsFull", fn := fun _ => fun
  | [d1, d2] => { results := [.lit (.bool false)], args := [d1, d2] }
  | _ => none }
def ClientsFullWrongFalsely : Prop := clientsFullRow.holds Try.pinned (OpenSpec.ofChange clientsFullWrong)

/-- 'stagecoachlaw15.ClientsApart': WHATEVER THE INPUT: true; the input reads as it did. -/
def clientsApartSpec : ChangeSpec := { name := "clientsApart", fn := fun _ => fun
  | [d1, d2] => { results := [.lit (.bool true)], args := [d1, d2] }
  | _ => none }
def clientsApartRow : OpenClaim := { program := "ytdgiemnadpkcfaa", sum := "2ef8facf4e5b0391c7086bd5683c6ccab95620b39dc903fdb8db068a88a2e16a", func := "stagecoach/stagecoachlaw15.ClientsApart", spec := "clientsApart", inPlace := ["internal/abi.NoEscape"], unfollowed := true, recurses := true, apart := false }
def ClientsApartSaid : Prop := clientsApartRow.holds Try.pinned (OpenSpec.ofChange clientsApartSpec)

/-- ITS FALSE NEIGHBOUR: 'it returns false'. Refute it at one input. -/
def clientsApartWrong : ChangeSpec := { name := "clientsApart", fn := fun _ => fun
  | [d1, d2] => { results := [.lit (.bool false)], args := [d1, d2] }
  | _ => none }
def ClientsApartWrongFalsely : Prop := clientsApartRow.holds Try.pinned (OpenSpec.ofChange clientsApartWrong)

/-- 'stagecoachlaw15.ClientsTold': WHATEVER THE INPUT: true; the input reads as it did. -/
def clientsToldSpec : ChangeSpec := { name := "clientsTold", fn := fun _ => fun
  | [d] => { results := [.lit (.bool true)], args := [d] }
  | _ => none }
def clientsToldRow : OpenClaim := { program := "ytdgiemnadpkcfaa", sum := "2ef8facf4e5b0391c7086bd5683c6ccab95620b39dc903fdb8db068a88a2e16a", func := "stagecoach/stagecoachlaw15.ClientsTold", spec := "clientsTold", inPlace := ["internal/abi.NoEscape"], unfollowed := true, recurses := true, apart := false }
def ClientsToldSaid : Prop := clientsToldRow.holds Try.pinned (OpenSpec.ofChange clientsToldSpec)

/-- ITS FALSE NEIGHBOUR: 'it returns false'. Refute it at one input. -/
def clientsToldWrong : ChangeSpec := { name := "clientsTold", fn := fun _ => fun
  | [d] => { results := [.lit (.bool false)], args := [d] }
  | _ => none }
def ClientsToldWrongFalsely : Prop := clientsToldRow.holds Try.pinned (OpenSpec.ofChange clientsToldWrong)

/-- 'stagecoachlaw15.ClientsDoes': WHATEVER THE INPUT: true; the input reads as it did. -/
def clientsDoesSpec : ChangeSpec := { name := "clientsDoes", fn := fun _ => fun
  | [d] => { results := [.lit (.bool true)], args := [d] }
  | _ => none }
def clientsDoesRow : OpenClaim := { program := "ytdgiemnadpkcfaa", sum := "2ef8facf4e5b0391c7086bd5683c6ccab95620b39dc903fdb8db068a88a2e16a", func := "stagecoach/stagecoachlaw15.ClientsDoes", spec := "clientsDoes", inPlace := ["internal/abi.NoEscape"], unfollowed := true, recurses := true, apart := false }
def ClientsDoesSaid : Prop := clientsDoesRow.holds Try.pinned (OpenSpec.ofChange clientsDoesSpec)

/-- ITS FALSE NEIGHBOUR: 'it returns false'. Refute it at one input. -/
def clientsDoesWrong : ChangeSpec := { name := "clientsDoes", fn := fun _ => fun
  | [d] => { results := [.lit (.bool false)], args := [d] }
  | _ => none }
def ClientsDoesWrongFalsely : Prop := clientsDoesRow.holds Try.pinned (OpenSpec.ofChange clientsDoesWrong)

/- THE SECOND FORM. 'bulk': how many values and letters a reading holds, each counted each time it is reached (what is shared counts as often as it is met; a slice's spare places count too). A statement '..UptoSaid' is the law's where the arguments, and the package variables that the reading takes, are together of bulk at most 1048576: NARROWER than '..Said'. Prove '..Said' where nothing that the law and all that it calls make is longer than what came in: it says more and counts as full. Else prove '..UptoSaid'. A law counts once. -/
mutual
def uptoBulk {H : Type} : DataW H → Nat
  | .lit (.string bytes) => bytes.length + 1
  | .lit _ => 1
  | .nil => 1
  | .ptr d => uptoBulk d + 1
  | .slice elems spare => uptoBulkAll elems + uptoBulkAll spare + 1
  | .agg parts => uptoBulkAll parts + 1
  | .iface _ d => uptoBulk d + 1
  | .map entries => uptoBulkEntries entries + 1
  | .held _ => 1
def uptoBulkAll {H : Type} : List (DataW H) → Nat
  | [] => 0
  | d :: r => uptoBulk d + uptoBulkAll r
def uptoBulkEntries {H : Type} : List (Lit × DataW H) → Nat
  | [] => 0
  | x :: r => uptoBulkEntry x + uptoBulkEntries r
def uptoBulkEntry {H : Type} : Lit × DataW H → Nat
  | (.string bytes, d) => bytes.length + uptoBulk d + 1
  | (_, d) => uptoBulk d + 1
 end
def uptoSmall : (H : Type) → List (DataW H) → Bool := fun _ ds => decide (uptoBulkAll ds ≤ 1048576)
def OpenSpec.upto (s : _root_.Go.ChangeSpec) : _root_.Go.OpenSpec := { _root_.Go.OpenSpec.ofChange s with cond := some uptoSmall }

/-- 'stagecoachlaw15.ClientsLoads', WHERE WHAT IT READS IS OF BULK AT MOST 1048576: true; the input reads as it did. -/
def clientsLoadsUptoRow : OpenClaim := { program := "ytdgiemnadpkcfaa", sum := "2ef8facf4e5b0391c7086bd5683c6ccab95620b39dc903fdb8db068a88a2e16a", func := "stagecoach/stagecoachlaw15.ClientsLoads", spec := "clientsLoads", inPlace := ["internal/abi.NoEscape"], unfollowed := true, recurses := true, apart := false, narrowed := true }
def ClientsLoadsUptoSaid : Prop := clientsLoadsUptoRow.holds Try.pinned (OpenSpec.upto clientsLoadsSpec)

/-- 'stagecoachlaw15.ClientsOnce', WHERE WHAT IT READS IS OF BULK AT MOST 1048576: true; the input reads as it did. -/
def clientsOnceUptoRow : OpenClaim := { program := "ytdgiemnadpkcfaa", sum := "2ef8facf4e5b0391c7086bd5683c6ccab95620b39dc903fdb8db068a88a2e16a", func := "stagecoach/stagecoachlaw15.ClientsOnce", spec := "clientsOnce", inPlace := ["internal/abi.NoEscape"], unfollowed := true, recurses := true, apart := false, narrowed := true }
def ClientsOnceUptoSaid : Prop := clientsOnceUptoRow.holds Try.pinned (OpenSpec.upto clientsOnceSpec)

/-- 'stagecoachlaw15.ClientsFull', WHERE WHAT IT READS IS OF BULK AT MOST 1048576: true; the input reads as it did. -/
def clientsFullUptoRow : OpenClaim := { program := "ytdgiemnadpkcfaa", sum := "2ef8facf4e5b0391c7086bd5683c6ccab95620b39dc903fdb8db068a88a2e16a", func := "stagecoach/stagecoachlaw15.ClientsFull", spec := "clientsFull", inPlace := ["internal/abi.NoEscape"], unfollowed := true, recurses := true, apart := false, narrowed := true }
def ClientsFullUptoSaid : Prop := clientsFullUptoRow.holds Try.pinned (OpenSpec.upto clientsFullSpec)

/-- 'stagecoachlaw15.ClientsApart', WHERE WHAT IT READS IS OF BULK AT MOST 1048576: true; the input reads as it did. -/
def clientsApartUptoRow : OpenClaim := { program := "ytdgiemnadpkcfaa", sum := "2ef8facf4e5b0391c7086bd5683c6ccab95620b39dc903fdb8db068a88a2e16a", func := "stagecoach/stagecoachlaw15.ClientsApart", spec := "clientsApart", inPlace := ["internal/abi.NoEscape"], unfollowed := true, recurses := true, apart := false, narrowed := true }
def ClientsApartUptoSaid : Prop := clientsApartUptoRow.holds Try.pinned (OpenSpec.upto clientsApartSpec)

/-- 'stagecoachlaw15.ClientsTold', WHERE WHAT IT READS IS OF BULK AT MOST 1048576: true; the input reads as it did. -/
def clientsToldUptoRow : OpenClaim := { program := "ytdgiemnadpkcfaa", sum := "2ef8facf4e5b0391c7086bd5683c6ccab95620b39dc903fdb8db068a88a2e16a", func := "stagecoach/stagecoachlaw15.ClientsTold", spec := "clientsTold", inPlace := ["internal/abi.NoEscape"], unfollowed := true, recurses := true, apart := false, narrowed := true }
def ClientsToldUptoSaid : Prop := clientsToldUptoRow.holds Try.pinned (OpenSpec.upto clientsToldSpec)

/-- 'stagecoachlaw15.ClientsDoes', WHERE WHAT IT READS IS OF BULK AT MOST 1048576: true; the input reads as it did. -/
def clientsDoesUptoRow : OpenClaim := { program := "ytdgiemnadpkcfaa", sum := "2ef8facf4e5b0391c7086bd5683c6ccab95620b39dc903fdb8db068a88a2e16a", func := "stagecoach/stagecoachlaw15.ClientsDoes", spec := "clientsDoes", inPlace := ["internal/abi.NoEscape"], unfollowed := true, recurses := true, apart := false, narrowed := true }
def ClientsDoesUptoSaid : Prop := clientsDoesUptoRow.holds Try.pinned (OpenSpec.upto clientsDoesSpec)

end Rows
end Go.Proofs.Ytdgiemnadpkcfaa
