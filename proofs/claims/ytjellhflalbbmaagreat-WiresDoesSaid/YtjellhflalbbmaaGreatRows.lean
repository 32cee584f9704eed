/-
  No cell of these rows narrows 'for every input' (looked for: loops, veiled, ifaces, maps, wideKeys, modest, calm, conditions, laid).
  DERIVED. THE GIVEN ROWS OF THIS SEAT. 5 by the template 'for every input the law returns true; each argument reads behind the call as it read before'; 0 by the template 'total and deterministic' (their statements: YtjellhflalbbmaaGreatTotals.lean).
  GIVEN WITH THE SEED: the statements are not yours to turn. If you find one false, say at which input.
  Laid BY PROGRAM, IN A SANDBOX (cutbox-rows.mjs): the forced cells as the released guide's own fill.sh prints them over the translation 261f4f0f5d2dbd44… (all of the seat's roots in one cut). By AI agents, Wed Nov 11 2026. No macro, syntax, notation, axiom, sorry.
-/
import Derived.Test.YtjellhflalbbmaaGreatChecked
import GoSem.Claim
import GoSem.ClaimJoined
import GoSem.ClaimMapViews
import Derived.JoinedTies
import Derived.KernelRfl
namespace Go.Proofs.YtjellhflalbbmaaGreat
/- THE CELL 'sum', in the pinned program and in every row, IS THE sha256 OF THE DUMP (.gsa) THAT YtjellhflalbbmaaGreatProg.lean LOADS. Nothing in Lean hashes anything: it is a label: what it is worth is what the hold of that sum in a sandbox is worth. -/
noncomputable def Tryz.pinned : Pinned := { name := "ytjellhflalbbmaagreat", sum := "261f4f0f5d2dbd448f1987cf3321369da957f748bf4e858cca8a3981bbc77363", checked := Tryz.checked }
namespace Rows
def none {H : Type} : Left H := { results := [], args := [] }

/-- 'stagecoachlaw21.WiresNews': WHATEVER THE INPUT: true; the input reads as it did. -/
def wiresNewsSpec : ChangeSpec := { name := "wiresNews", fn := fun _ => fun
  | [d] => { results := [.lit (.bool true)], args := [d] }
  | _ => none }
def wiresNewsRow : OpenClaim := { program := "ytjellhflalbbmaagreat", sum := "261f4f0f5d2dbd448f1987cf3321369da957f748bf4e858cca8a3981bbc77363", func := "stagecoach/stagecoachlaw21.WiresNews", spec := "wiresNews", inPlace := ["internal/abi.NoEscape"], unfollowed := true, recurses := true, plainKeys := false, apart := false }
def WiresNewsSaid : Prop := wiresNewsRow.holds Tryz.pinned (OpenSpec.ofChange wiresNewsSpec)

/-- ITS FALSE NEIGHBOUR: 'it returns false'. Refute it at one input. -/
def wiresNewsWrong : ChangeSpec := { name := "wiresNews", fn := fun _ => fun
  | [d] => { results := [.lit (.bool false)], args := [d] }
  | _ => none }
def WiresNewsWrongFalsely : Prop := wiresNewsRow.holds Tryz.pinned (OpenSpec.ofChange wiresNewsWrong)

/-- 'stagecoachlaw21.WiresKeep': WHATEVER THE INPUT: true; the input reads as it did. -/
def wiresKeepSpec : ChangeSpec := { name := "wiresKeep", fn := fun _ => fun
  | [d1, d2] => { results := [.lit (.bool true)], args := [d1, d2] }
  | _ => none }
def wiresKeepRow : OpenClaim := { program := "ytjellhflalbbmaagreat", sum := "261f4f0f5d2dbd448f1987cf3321369da957f748bf4e858cca8a3981bbc77363", func := "stagecoach/stagecoachlaw21.WiresKeep", spec := "wiresKeep", inPlace := ["internal/abi.NoEscape"], unfollowed := true, recurses := true, plainKeys := false, apart := false }
def WiresKeepSaid : Prop := wiresKeepRow.holds Tryz.pinned (OpenSpec.ofChange wiresKeepSpec)

/-- ITS FALSE NEIGHBOUR: 'it returns false'. Refute it at one input. -/
def wiresKeepWrong : ChangeSpec := { name := "wiresKeep", fn := fun _ => fun
  | [d1, d2] => { results := [.lit (.bool false)], args := [d1, d2] }
  | _ => none }
def WiresKeepWrongFalsely : Prop := wiresKeepRow.holds Tryz.pinned (OpenSpec.ofChange wiresKeepWrong)

/-- 'stagecoachlaw21.WiresApart': WHATEVER THE INPUT: true; the input reads as it did. -/
def wiresApartSpec : ChangeSpec := { name := "wiresApart", fn := fun _ => fun
  | [d1, d2, d3] => { results := [.lit (.bool true)], args := [d1, d2, d3] }
  | _ => none }
def wiresApartRow : OpenClaim := { program := "ytjellhflalbbmaagreat", sum := "261f4f0f5d2dbd448f1987cf3321369da957f748bf4e858cca8a3981bbc77363", func := "stagecoach/stagecoachlaw21.WiresApart", spec := "wiresApart", inPlace := ["internal/abi.NoEscape"], unfollowed := true, recurses := true, plainKeys := false, apart := false }
def WiresApartSaid : Prop := wiresApartRow.holds Tryz.pinned (OpenSpec.ofChange wiresApartSpec)

/-- ITS FALSE NEIGHBOUR: 'it returns false'. Refute it at one input. -/
def wiresApartWrong : ChangeSpec := { name := "wiresApart", fn := fun _ => fun
  | [d1, d2, d3] => { results := [.lit (.bool false)], args := [d1, d2, d3] }
  | _ => none }
def WiresApartWrongFalsely : Prop := wiresApartRow.holds Tryz.pinned (OpenSpec.ofChange wiresApartWrong)

/-- 'stagecoachlaw21.WiresRoom': WHATEVER THE INPUT: true; the input reads as it did. -/
def wiresRoomSpec : ChangeSpec := { name := "wiresRoom", fn := fun _ => fun
  | [d1, d2] => { results := [.lit (.bool true)], args := [d1, d2] }
  | _ => none }
def wiresRoomRow : OpenClaim := { program := "ytjellhflalbbmaagreat", sum := "261f4f0f5d2dbd448f1987cf3321369da957f748bf4e858cca8a3981bbc77363", func := "stagecoach/stagecoachlaw21.WiresRoom", spec := "wiresRoom", inPlace := ["internal/abi.NoEscape"], unfollowed := true, recurses := true, plainKeys := false, apart := false }
def WiresRoomSaid : Prop := wiresRoomRow.holds Tryz.pinned (OpenSpec.ofChange wiresRoomSpec)

/-- ITS FALSE NEIGHBOUR: 'it returns false'. Refute it at one input. -/
def wiresRoomWrong : ChangeSpec := { name := "wiresRoom", fn := fun _ => fun
  | [d1, d2] => { results := [.lit (.bool false)], args := [d1, d2] }
  | _ => none }
def WiresRoomWrongFalsely : Prop := wiresRoomRow.holds Tryz.pinned (OpenSpec.ofChange wiresRoomWrong)

/-- 'stagecoachlaw21.WiresDoes': WHATEVER THE INPUT: true; the input reads as it did. -/
def wiresDoesSpec : ChangeSpec := { name := "wiresDoes", fn := fun _ => fun
  | [d1, d2] => { results := [.lit (.bool true)], args := [d1, d2] }
  | _ => none }
def wiresDoesRow : OpenClaim := { program := "ytjellhflalbbmaagreat", sum := "261f4f0f5d2dbd448f1987cf3321369da957f748bf4e858cca8a3981bbc77363", func := "stagecoach/stagecoachlaw21.WiresDoes", spec := "wiresDoes", inPlace := ["internal/abi.NoEscape", "maps.clone"], unfollowed := true, recurses := true, plainKeys := false, apart := false }
def WiresDoesSaid : Prop := wiresDoesRow.holds Tryz.pinned (OpenSpec.ofChange wiresDoesSpec)

/-- ITS FALSE NEIGHBOUR: 'it returns false'. Refute it at one input. -/
def wiresDoesWrong : ChangeSpec := { name := "wiresDoes", fn := fun _ => fun
  | [d1, d2] => { results := [.lit (.bool false)], args := [d1, d2] }
  | _ => none }
def WiresDoesWrongFalsely : Prop := wiresDoesRow.holds Tryz.pinned (OpenSpec.ofChange wiresDoesWrong)

/- THE SECOND FORM. 'bulk': how many values and letters a reading holds, each counted each time it is reached (what is shared counts as often as it is met; a slice's spare places count too). A statement '..UptoSaid' is the law's where the arguments, and the package variables that the reading takes, are together of bulk at most 1048576: NARROWER than '..Said'. Prove '..Said' where nothing that the law and all that it calls make is longer than what came in: it says more and counts as full. Else prove '..UptoSaid'. A law counts once. -/
mutual
def uptoBulk {H : Type} : DataW H → Nat
  | .lit (.string bytes) => bytes.length + 1
  | .lit _ => 1
  | .nil => 1
  | .ptr d => uptoBulk d + 1
  | .slice elems spare => uptoBulkAll elems + uptoBulkAll spare + 1
  | .agg parts => uptoBulkAll parts + 1
  | .iface _ d => uptoBulk d + 1
  | .map entries => uptoBulkEntries entries + 1
  | .held _ => 1
def uptoBulkAll {H : Type} : List (DataW H) → Nat
  | [] => 0
  | d :: r => uptoBulk d + uptoBulkAll r
def uptoBulkEntries {H : Type} : List (Lit × DataW H) → Nat
  | [] => 0
  | x :: r => uptoBulkEntry x + uptoBulkEntries r
def uptoBulkEntry {H : Type} : Lit × DataW H → Nat
  | (.string bytes, d) => bytes.length + uptoBulk d + 1
  | (_, d) => uptoBulk d + 1
 end
def uptoSmall : (H : Type) → List (DataW H) → Bool := fun _ ds => decide (uptoBulkAll ds ≤ 1048576)
def OpenSpec.upto (s : _root_.Go.ChangeSpec) : _root_.Go.OpenSpec := { _root_.Go.OpenSpec.ofChange s with cond := some uptoSmall }

/-- 'stagecoachlaw21.WiresNews', WHERE WHAT IT READS IS OF BULK AT MOST 1048576: true; the input reads as it did. -/
def wiresNewsUptoRow : OpenClaim := { program := "ytjellhflalbbmaagreat", sum := "261f4f0f5d2dbd448f1987cf3321369da957f748bf4e858cca8a3981bbc77363", func := "stagecoach/stagecoachlaw21.WiresNews", spec := "wiresNews", inPlace := ["internal/abi.NoEscape"], unfollowed := true, recurses := true, plainKeys := false, apart := false, narrowed := true }
def WiresNewsUptoSaid : Prop := wiresNewsUptoRow.holds Tryz.pinned (OpenSpec.upto wiresNewsSpec)

/-- 'stagecoachlaw21.WiresKeep', WHERE WHAT IT READS IS OF BULK AT MOST 1048576: true; the input reads as it did. -/
def wiresKeepUptoRow : OpenClaim := { program := "ytjellhflalbbmaagreat", sum := "261f4f0f5d2dbd448f1987cf3321369da957f748bf4e858cca8a3981bbc77363", func := "stagecoach/stagecoachlaw21.WiresKeep", spec := "wiresKeep", inPlace := ["internal/abi.NoEscape"], unfollowed := true, recurses := true, plainKeys := false, apart := false, narrowed := true }
def WiresKeepUptoSaid : Prop := wiresKeepUptoRow.holds Tryz.pinned (OpenSpec.upto wiresKeepSpec)

/-- 'stagecoachlaw21.WiresApart', WHERE WHAT IT READS IS OF BULK AT MOST 1048576: true; the input reads as it did. -/
def wiresApartUptoRow : OpenClaim := { program := "ytjellhflalbbmaagreat", sum := "261f4f0f5d2dbd448f1987cf3321369da957f748bf4e858cca8a3981bbc77363", func := "stagecoach/stagecoachlaw21.WiresApart", spec := "wiresApart", inPlace := ["internal/abi.NoEscape"], unfollowed := true, recurses := true, plainKeys := false, apart := false, narrowed := true }
def WiresApartUptoSaid : Prop := wiresApartUptoRow.holds Tryz.pinned (OpenSpec.upto wiresApartSpec)

/-- 'stagecoachlaw21.WiresRoom', WHERE WHAT IT READS IS OF BULK AT MOST 1048576: true; the input reads as it did. -/
def wiresRoomUptoRow : OpenClaim := { program := "ytjellhflalbbmaagreat", sum := "261f4f0f5d2dbd448f1987cf3321369da957f748bf4e858cca8a3981bbc77363", func := "stagecoach/stagecoachlaw21.WiresRoom", spec := "wiresRoom", inPlace := ["internal/abi.NoEscape"], unfollowed := true, recurses := true, plainKeys := false, apart := false, narrowed := true }
def WiresRoomUptoSaid : Prop := wiresRoomUptoRow.holds Tryz.pinned (OpenSpec.upto wiresRoomSpec)

/-- 'stagecoachlaw21.WiresDoes', WHERE WHAT IT READS IS OF BULK AT MOST 1048576: true; the input reads as it did. -/
def wiresDoesUptoRow : OpenClaim := { program := "ytjellhflalbbmaagreat", sum := "261f4f0f5d2dbd448f1987cf3321369da957f748bf4e858cca8a3981bbc77363", func := "stagecoach/stagecoachlaw21.WiresDoes", spec := "wiresDoes", inPlace := ["internal/abi.NoEscape", "maps.clone"], unfollowed := true, recurses := true, plainKeys := false, apart := false, narrowed := true }
def WiresDoesUptoSaid : Prop := wiresDoesUptoRow.holds Tryz.pinned (OpenSpec.upto wiresDoesSpec)

end Rows
end Go.Proofs.YtjellhflalbbmaaGreat
