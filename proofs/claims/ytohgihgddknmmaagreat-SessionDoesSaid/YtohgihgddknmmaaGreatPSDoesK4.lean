/- Part 4 of the proof of PSDoes. -/
import Derived.WalkKit
import Derived.WalkSpells
import Derived.WalkLawsBesides
import Derived.Deep.Quiet
import Derived.Test.YtohgihgddknmmaaGreatRows
import Derived.KernelRfl
import Derived.Maps.Keyed
import Derived.Maps.RangeRun
import Derived.DeepKeys4
import Derived.Lib.Strings
import Derived.Shelf.RegionOpenPlain
import Derived.Lib.Slices
import Derived.Lib.Walk
import Derived.Lib.Builder
import Derived.Lib.FrozenHead
import Derived.Lib.OthersKept
import Derived.Lib.AppendStr
import Derived.Lib.UnsafeStr
import Derived.Lib.MakeNoZero
import Derived.Laws.Externs
import Derived.Laws.IdiomCopy
import Derived.Laws.BitsLemmas
import Derived.RangeFuncBox
import Derived.RangeFuncLeaves
import Derived.RangeFuncNested
import Derived.Shelf.Abstract
import Derived.OwnWalkIn
import Derived.TacticsInMore
import Derived.LoopNIn
import Derived.LoopIn
import Derived.Maps.AppendAt
import Derived.Sort.LoopGhostIn
import Derived.Laws.Bits64b
import Derived.Laws.IdiomStrings
import Derived.Test.YtohgihgddknmmaaGreatProg
import Derived.Shelf.Lay
import Derived.Shelf.Strings.FuncGrows
import Derived.Laws.RangeAny
import Derived.Ground.GgwProg
import Derived.Ground.NamesProg
import Derived.Test.YtohgihgddknmmaaGreatPSDoesK3
/- The conditions of Go functions' bodies, printed by gen2.py. -/
namespace Go.Proofs.YtohgihgddknmmaaGreat
open Go Go.RowKit
set_option linter.unusedVariables false
set_option maxRecDepth 100000

def message_all_an : List LA := []
def message_all_T (a0 : Addr) (R : Value → World → Prop) (w : World) : Prop :=
 ∀ b1, w.heap.size ≤ b1 →
 ∀ w2, Adv [] [b1] w w2 →
 R (.agg #[(.pointer (some a0)), (.pointer (some (Addr.add a0 1))), (.pointer (some (Addr.add a0 2))), (.pointer (some (Addr.add a0 3))), (.pointer (some (Addr.add a0 4))), (.pointer (some (Addr.add a0 5))), (.pointer (some (Addr.add a0 6))), (.pointer (some (Addr.add a0 7))), (.pointer (some (Addr.add a0 8))), (.pointer (some (Addr.add a0 9)))]) w2
theorem message_all_eq (a0 : Addr) (R : Value → World → Prop) (w : World) :
 dnF Tryz.prog message_all_an (code Tryz.f113) 400 [] (post3 Tryz.prog Tryz.f113 [] R) ⟨args0 0 [(.pointer (some a0))], fun _ => undef⟩ ⟨[], w, [], [], true⟩ = message_all_T a0 R w := by kernel_rfl
theorem message_all_go {a0 : Addr} {R : Value → World → Prop} {w : World} (h : message_all_T a0 R w) :
 Calls Tryz.prog 113 #[(.pointer (some a0))] w fun e w' => ∃ v, e = .returned v ∧ R v w' :=
 calls_none Tryz.wide_mixed (f := 113) (args := [(.pointer (some a0))]) Tryz.func113 rfl rfl (by kernel_rfl) rfl (Eq.mpr (message_all_eq a0 R w) h)
def message_Check_la1 : LA := ⟨[0, 0, 1, 0, 1, 1], [1, 17, 18], [(1, 0, 0)], 1, [0]⟩
def message_Check_an : List LA := [message_Check_la1]
def message_Check_v1 (a0 a1 a2 a3 a4 a5 a6 a7 a8 a9 : Option Addr) (bm0 : Nat) (b0 : Int) : List Value := [(.pointer (some ⟨bm0, 0, none⟩)), (.agg #[.pointer a0, .pointer a1, .pointer a2, .pointer a3, .pointer a4, .pointer a5, .pointer a6, .pointer a7, .pointer a8, .pointer a9]), .int .i64 b0]
def message_Check_m1 (bm0 : Nat) (b3 b4 b5 b6 b7 b8 b9 c0 c1 c2 : Int) (a0 : Option Addr) (a6 a3 : Nat) (a9 b0 b1 b2 : Int) (a1 : Option Addr) (a7 a4 : Nat) (a2 : Option Addr) (a8 a5 : Nat) : List TB := [⟨bm0, 45, [.int .i64 b3, .int .i64 b4, .int .i64 b5, .int .i64 b6, .int .i64 b7, .int .i64 b8, .int .i64 b9, .int .i64 c0, .int .i64 c1, .int .i64 c2, .slice a0 a6 a3, .int .i64 a9, .int .i64 b0, .int .i64 b1, .int .i64 b2, .slice a1 a7 a4, .slice a2 a8 a5], true⟩]
def message_Check_L1 (b3 b4 b5 b6 b7 b8 b9 c0 c1 c2 : Option Addr) (bm0 : Nat) (c3 c4 c5 c6 c7 c8 c9 d0 d1 d2 : Int) (a0 : Option Addr) (a2 a1 : Nat) (a9 b0 b1 b2 : Int) (a3 : Option Addr) (a7 a5 : Nat) (a4 : Option Addr) (a8 a6 : Nat) (d3 : Int) (K1 : Kh) (R : Value → World → Prop) (w : World) : Prop :=
 w.heap[bm0]? = some (.cells #[.int .i64 c3, .int .i64 c4, .int .i64 c5, .int .i64 c6, .int .i64 c7, .int .i64 c8, .int .i64 c9, .int .i64 d0, .int .i64 d1, .int .i64 d2, .slice a0 a2 a1, .int .i64 a9, .int .i64 b0, .int .i64 b1, .int .i64 b2, .slice a3 a7 a5, .slice a4 a8 a6] 45) →
 brB (decide (d3 < 10)) (
 ∃ p39 : Option Addr, (∀ w' : World, (Instr.index 167 (.agg #[.pointer b3, .pointer b4, .pointer b5, .pointer b6, .pointer b7, .pointer b8, .pointer b9, .pointer c0, .pointer c1, .pointer c2]) (.int .i64 d3)).run Tryz.prog w' = .ok (.pointer p39) w') ∧
 ckPtr p39 fun q40 =>
 ldInt .i64 w q40 fun x41 =>
 brB (decide (x41 < 0)) (
 R (.int .i64 1) w)
 (
 ckPtr p39 fun q42 =>
 ldInt .i64 w q42 fun x43 =>
 brB (decide (x43 > 1099511627776)) (
 R (.int .i64 1) w)
 (
 K1 (message_Check_v1 b3 b4 b5 b6 b7 b8 b9 c0 c1 c2 bm0 (IntKind.wrap .i64 (d3 + 1))) (message_Check_m1 bm0 c3 c4 c5 c6 c7 c8 c9 d0 d1 d2 a0 a2 a1 a9 b0 b1 b2 a3 a7 a5 a4 a8 a6) w)))
 (
 Calls Tryz.prog 31 #[.slice a0 a2 a1] w fun e w44 => ∃ (s45 : ByteArray) (x46 : Int), e = .returned (.tuple #[.string s45, .int .i64 x46]) ∧ ∃ (x47 x48 x49 x50 x51 x52 x53 x54 x55 x56 : Int) (a57 : Option Addr) (n58 c59 : Nat) (x60 x61 x62 x63 : Int) (a64 : Option Addr) (n65 c66 : Nat) (a67 : Option Addr) (n68 c69 : Nat), w44.heap[bm0]? = some (.cells #[.int .i64 x47, .int .i64 x48, .int .i64 x49, .int .i64 x50, .int .i64 x51, .int .i64 x52, .int .i64 x53, .int .i64 x54, .int .i64 x55, .int .i64 x56, .slice a57 n58 c59, .int .i64 x60, .int .i64 x61, .int .i64 x62, .int .i64 x63, .slice a64 n65 c66, .slice a67 n68 c69] 45) ∧
 brB (x46 != 0) (
 R (.int .i64 x46) w44)
 (
 Calls Tryz.prog 114 #[(.agg #[.int .i64 x60, .int .i64 x61, .int .i64 x62, .int .i64 x63, .slice a64 n65 c66, .slice a67 n68 c69])] w44 fun e w70 => ∃ (s71 : ByteArray) (x72 : Int), e = .returned (.tuple #[.string s71, .int .i64 x72]) ∧ ∃ (x73 x74 x75 x76 x77 x78 x79 x80 x81 x82 : Int) (a83 : Option Addr) (n84 c85 : Nat) (x86 x87 x88 x89 : Int) (a90 : Option Addr) (n91 c92 : Nat) (a93 : Option Addr) (n94 c95 : Nat), w70.heap[bm0]? = some (.cells #[.int .i64 x73, .int .i64 x74, .int .i64 x75, .int .i64 x76, .int .i64 x77, .int .i64 x78, .int .i64 x79, .int .i64 x80, .int .i64 x81, .int .i64 x82, .slice a83 n84 c85, .int .i64 x86, .int .i64 x87, .int .i64 x88, .int .i64 x89, .slice a90 n91 c92, .slice a93 n94 c95] 45) ∧
 R (.int .i64 x72) w70))
theorem message_Check_L1_eq (b3 b4 b5 b6 b7 b8 b9 c0 c1 c2 : Option Addr) (bm0 : Nat) (c3 c4 c5 c6 c7 c8 c9 d0 d1 d2 : Int) (a0 : Option Addr) (a6 a3 : Nat) (a9 b0 b1 b2 : Int) (a1 : Option Addr) (a7 a4 : Nat) (a2 : Option Addr) (a8 a5 : Nat) (d3 : Int) (K1 : Kh) (js : Nat → Value) (R : Value → World → Prop) (w : World) :
 headA message_Check_la1 ((dnF Tryz.prog message_Check_an (code Tryz.f69) 396 [0, 0, 1, 0, 1, 1]) (kthen3 (atA message_Check_la1 K1) (kont3 Tryz.prog message_Check_an (code Tryz.f69) [1, 1, 0, 1, 0] [] (post3 Tryz.prog Tryz.f69 [] R)))) (message_Check_v1 b3 b4 b5 b6 b7 b8 b9 c0 c1 c2 bm0 d3) js (message_Check_m1 bm0 c3 c4 c5 c6 c7 c8 c9 d0 d1 d2 a0 a6 a3 a9 b0 b1 b2 a1 a7 a4 a2 a8 a5) w = message_Check_L1 b3 b4 b5 b6 b7 b8 b9 c0 c1 c2 bm0 c3 c4 c5 c6 c7 c8 c9 d0 d1 d2 a0 a6 a3 a9 b0 b1 b2 a1 a7 a4 a2 a8 a5 d3 K1 R w := by kernel_rfl
def message_Check_K1 (b3 b4 b5 b6 b7 b8 b9 c0 c1 c2 : Option Addr) (bm0 : Nat) (c4 c5 c6 c7 c8 c9 d0 d1 d2 d3 : Int) (a0 : Option Addr) (a6 a3 : Nat) (a9 b0 b1 b2 : Int) (a1 : Option Addr) (a7 a4 : Nat) (a2 : Option Addr) (a8 a5 : Nat) (I : Nat → Int → World → Prop) (m : Nat) (vals : List Value) (mem : List TB) (w : World) : Prop := ∃ m', m' < m ∧ ∃ c3, vals = (message_Check_v1 b3 b4 b5 b6 b7 b8 b9 c0 c1 c2 bm0 c3) ∧ mem = (message_Check_m1 bm0 c4 c5 c6 c7 c8 c9 d0 d1 d2 d3 a0 a6 a3 a9 b0 b1 b2 a1 a7 a4 a2 a8 a5) ∧ I m' c3 w
theorem message_Check_leaf1 {b3 b4 b5 b6 b7 b8 b9 c0 c1 c2 : Option Addr} {bm0 : Nat} {c3 c4 c5 c6 c7 c8 c9 d0 d1 d2 : Int} {a0 : Option Addr} {a6 a3 : Nat} {a9 b0 b1 b2 : Int} {a1 : Option Addr} {a7 a4 : Nat} {a2 : Option Addr} {a8 a5 : Nat} {I : Nat → Int → World → Prop} {m : Nat} {d3 : Int} {w : World} (m' : Nat) (h1 : m' < m) (h2 : I m' d3 w) : message_Check_K1 b3 b4 b5 b6 b7 b8 b9 c0 c1 c2 bm0 c3 c4 c5 c6 c7 c8 c9 d0 d1 d2 a0 a6 a3 a9 b0 b1 b2 a1 a7 a4 a2 a8 a5 I m (message_Check_v1 b3 b4 b5 b6 b7 b8 b9 c0 c1 c2 bm0 d3) (message_Check_m1 bm0 c3 c4 c5 c6 c7 c8 c9 d0 d1 d2 a0 a6 a3 a9 b0 b1 b2 a1 a7 a4 a2 a8 a5) w := ⟨m', h1, _, rfl, rfl, h2⟩
theorem message_Check_rule1 {b4 b5 b6 b7 b8 b9 c0 c1 c2 c3 : Option Addr} {bm0 : Nat} {c4 c5 c6 c7 c8 c9 d0 d1 d2 d3 : Int} {a0 : Option Addr} {a6 a3 : Nat} {a9 b0 b1 b2 : Int} {a1 : Option Addr} {a7 a4 : Nat} {a2 : Option Addr} {a8 a5 : Nat} {d4 : Int} {R : Value → World → Prop} {w0 : World} (I : Nat → Int → World → Prop) (m0 : Nat) (h0 : I m0 d4 w0)
 (hr : ∀ (m : Nat) (b3 : Int) (w : World), I m b3 w → message_Check_L1 b4 b5 b6 b7 b8 b9 c0 c1 c2 c3 bm0 c4 c5 c6 c7 c8 c9 d0 d1 d2 d3 a0 a6 a3 a9 b0 b1 b2 a1 a7 a4 a2 a8 a5 b3 (message_Check_K1 b4 b5 b6 b7 b8 b9 c0 c1 c2 c3 bm0 c4 c5 c6 c7 c8 c9 d0 d1 d2 d3 a0 a6 a3 a9 b0 b1 b2 a1 a7 a4 a2 a8 a5 I m) R w) :
 loopD3 message_Check_la1 (dnF Tryz.prog message_Check_an (code Tryz.f69) 396 [0, 0, 1, 0, 1, 1]) (kont3 Tryz.prog message_Check_an (code Tryz.f69) [1, 1, 0, 1, 0] [] (post3 Tryz.prog Tryz.f69 [] R)) (message_Check_v1 b4 b5 b6 b7 b8 b9 c0 c1 c2 c3 bm0 d4) (message_Check_m1 bm0 c4 c5 c6 c7 c8 c9 d0 d1 d2 d3 a0 a6 a3 a9 b0 b1 b2 a1 a7 a4 a2 a8 a5) w0 := by
 refine ⟨fun m vals mem w => ∃ b3, vals = (message_Check_v1 b4 b5 b6 b7 b8 b9 c0 c1 c2 c3 bm0 b3) ∧ mem = (message_Check_m1 bm0 c4 c5 c6 c7 c8 c9 d0 d1 d2 d3 a0 a6 a3 a9 b0 b1 b2 a1 a7 a4 a2 a8 a5) ∧ I m b3 w, m0, ⟨_, rfl, rfl, h0⟩, ?_⟩
 rintro m vals mem w ⟨b3, rfl, rfl, hI⟩
 refine ⟨rfl, rfl, fun js => ?_⟩
 have h := hr m b3 w hI
 rw [← message_Check_L1_eq _ _ _ _ _ _ _ _ _ _ _ _ _ _ _ _ _ _ _ _ _ _ _ _ _ _ _ _ _ _ _ _ _ _ _ _ js] at h
 exact h
def message_Check_T (a0 b5 b6 b7 b8 b9 c0 c1 c2 c3 : Int) (a1 : Option Addr) (a3 a2 : Nat) (b0 b2 b3 b4 : Int) (a4 : Option Addr) (a6 a5 : Nat) (a7 : Option Addr) (a9 a8 : Nat) (R : Value → World → Prop) (w : World) : Prop :=
 ∀ b1, w.heap.size ≤ b1 →
 brB (decide (a0 < 0)) (
 ∀ w2, Adv [] [b1] w w2 →
 R (.int .i64 180) w2)
 (
 brB (decide (a0 ≥ 12)) (
 ∀ w3, Adv [] [b1] w w3 →
 R (.int .i64 180) w3)
 (
 ∀ w4, Adv [] [b1] w w4 → w4.heap[b1]? = some (.cells #[.int .i64 a0, .int .i64 b5, .int .i64 b6, .int .i64 b7, .int .i64 b8, .int .i64 b9, .int .i64 c0, .int .i64 c1, .int .i64 c2, .int .i64 c3, .slice a1 a3 a2, .int .i64 b0, .int .i64 b2, .int .i64 b3, .int .i64 b4, .slice a4 a6 a5, .slice a7 a9 a8] 45) →
 Calls Tryz.prog 113 #[(.pointer (some ⟨b1, 0, none⟩))] w4 fun e w5 => ∃ p6 p7 p8 p9 p10 p11 p12 p13 p14 p15 : Option Addr, e = .returned (.agg #[.pointer p6, .pointer p7, .pointer p8, .pointer p9, .pointer p10, .pointer p11, .pointer p12, .pointer p13, .pointer p14, .pointer p15]) ∧ ∃ (x16 x17 x18 x19 x20 x21 x22 x23 x24 x25 : Int) (a26 : Option Addr) (n27 c28 : Nat) (x29 x30 x31 x32 : Int) (a33 : Option Addr) (n34 c35 : Nat) (a36 : Option Addr) (n37 c38 : Nat), w5.heap[b1]? = some (.cells #[.int .i64 x16, .int .i64 x17, .int .i64 x18, .int .i64 x19, .int .i64 x20, .int .i64 x21, .int .i64 x22, .int .i64 x23, .int .i64 x24, .int .i64 x25, .slice a26 n27 c28, .int .i64 x29, .int .i64 x30, .int .i64 x31, .int .i64 x32, .slice a33 n34 c35, .slice a36 n37 c38] 45) ∧
 loopD3 message_Check_la1 (dnF Tryz.prog message_Check_an (code Tryz.f69) 396 [0, 0, 1, 0, 1, 1]) (kont3 Tryz.prog message_Check_an (code Tryz.f69) [1, 1, 0, 1, 0] [] (post3 Tryz.prog Tryz.f69 [] R)) (message_Check_v1 p6 p7 p8 p9 p10 p11 p12 p13 p14 p15 b1 0) (message_Check_m1 b1 x16 x17 x18 x19 x20 x21 x22 x23 x24 x25 a26 n27 c28 x29 x30 x31 x32 a33 n34 c35 a36 n37 c38) w5))
theorem message_Check_eq (b3 b4 b5 b6 b7 b8 b9 c0 c1 c2 : Int) (a0 : Option Addr) (a2 a1 : Nat) (a9 b0 b1 b2 : Int) (a3 : Option Addr) (a5 a4 : Nat) (a6 : Option Addr) (a8 a7 : Nat) (R : Value → World → Prop) (w : World) :
 dnF Tryz.prog message_Check_an (code Tryz.f69) 400 [] (post3 Tryz.prog Tryz.f69 [] R) ⟨args0 0 [(.agg #[.int .i64 b3, .int .i64 b4, .int .i64 b5, .int .i64 b6, .int .i64 b7, .int .i64 b8, .int .i64 b9, .int .i64 c0, .int .i64 c1, .int .i64 c2, .slice a0 a2 a1, .int .i64 a9, .int .i64 b0, .int .i64 b1, .int .i64 b2, .slice a3 a5 a4, .slice a6 a8 a7])], fun _ => undef⟩ ⟨[], w, [], [], true⟩ = message_Check_T b3 b4 b5 b6 b7 b8 b9 c0 c1 c2 a0 a2 a1 a9 b0 b1 b2 a3 a5 a4 a6 a8 a7 R w := by kernel_rfl
theorem message_Check_go {b3 b4 b5 b6 b7 b8 b9 c0 c1 c2 : Int} {a0 : Option Addr} {a2 a1 : Nat} {a9 b0 b1 b2 : Int} {a3 : Option Addr} {a5 a4 : Nat} {a6 : Option Addr} {a8 a7 : Nat} {R : Value → World → Prop} {w : World} (h : message_Check_T b3 b4 b5 b6 b7 b8 b9 c0 c1 c2 a0 a2 a1 a9 b0 b1 b2 a3 a5 a4 a6 a8 a7 R w) :
 Calls Tryz.prog 69 #[(.agg #[.int .i64 b3, .int .i64 b4, .int .i64 b5, .int .i64 b6, .int .i64 b7, .int .i64 b8, .int .i64 b9, .int .i64 c0, .int .i64 c1, .int .i64 c2, .slice a0 a2 a1, .int .i64 a9, .int .i64 b0, .int .i64 b1, .int .i64 b2, .slice a3 a5 a4, .slice a6 a8 a7])] w fun e w' => ∃ v, e = .returned v ∧ R v w' :=
 calls_none Tryz.wide_mixed (f := 69) (args := [(.agg #[.int .i64 b3, .int .i64 b4, .int .i64 b5, .int .i64 b6, .int .i64 b7, .int .i64 b8, .int .i64 b9, .int .i64 c0, .int .i64 c1, .int .i64 c2, .slice a0 a2 a1, .int .i64 a9, .int .i64 b0, .int .i64 b1, .int .i64 b2, .slice a3 a5 a4, .slice a6 a8 a7])]) Tryz.func69 rfl rfl (by kernel_rfl) rfl (Eq.mpr (message_Check_eq b3 b4 b5 b6 b7 b8 b9 c0 c1 c2 a0 a2 a1 a9 b0 b1 b2 a3 a5 a4 a6 a8 a7 R w) h)
def message_Own_la1 : LA := ⟨[0, 0, 1, 0, 1, 1], [1, 2, 3, 7, 8, 9], [(1, 0, 0), (2, 1, 0)], 2, []⟩
def message_Own_an : List LA := [message_Own_la1]
def message_Own_v1 (a1 : Option Addr) (a5 a3 : Nat) (a6 : Int) (bm0 bm1 : Nat) (a0 : Option Addr) (a4 a2 : Nat) (a7 : Int) : List Value := [(.pointer (some ⟨bm0, 0, none⟩)), (.pointer (some ⟨bm1, 0, none⟩)), .slice a0 a4 a2, .slice a1 a5 a3, .int .i64 a6, .int .i64 a7]
def message_Own_m1 (bm0 : Nat) (b3 b4 b5 b6 b7 b8 b9 c0 c1 c2 : Int) (a0 : Option Addr) (a6 a3 : Nat) (a9 b0 b1 b2 : Int) (a1 : Option Addr) (a7 a4 : Nat) (a2 : Option Addr) (a8 a5 bm1 : Nat) : List TB := [⟨bm0, 45, [.int .i64 b3, .int .i64 b4, .int .i64 b5, .int .i64 b6, .int .i64 b7, .int .i64 b8, .int .i64 b9, .int .i64 c0, .int .i64 c1, .int .i64 c2, .slice a0 a6 a3, .int .i64 a9, .int .i64 b0, .int .i64 b1, .int .i64 b2, .slice a1 a7 a4, .slice a2 a8 a5], false⟩, ⟨bm1, 45, [.int .i64 0, .int .i64 0, .int .i64 0, .int .i64 0, .int .i64 0, .int .i64 0, .int .i64 0, .int .i64 0, .int .i64 0, .int .i64 0, .slice none 0 0, .int .i64 0, .int .i64 0, .int .i64 0, .int .i64 0, .slice none 0 0, .slice none 0 0], false⟩]
def message_Own_L1 (c5 : Option Addr) (c8 d0 : Nat) (c9 : Int) (bm0 : Nat) (b0 b1 b2 b3 b4 b5 b6 b7 b8 b9 : Int) (c0 : Option Addr) (c2 c1 : Nat) (a6 a7 a8 a9 : Int) (a3 : Option Addr) (a5 a4 : Nat) (a0 : Option Addr) (a2 a1 bm1 : Nat) (c4 : Option Addr) (c7 c6 : Nat) (c3 : Int) (K1 : Kh) (R : Value → World → Prop) (w : World) : Prop :=
 brB (decide (c3 < c9)) (
 ixA c5 c8 c3 16 fun q3 =>
 ldInt .i64 w q3 fun x4 => ldInt .i64 w (Addr.add q3 1) fun x5 => ldInt .i64 w (Addr.add q3 2) fun x6 => ldStr w (Addr.add q3 3) fun s7 => ldInt .i64 w (Addr.add q3 4) fun x8 => ldInt .i64 w (Addr.add q3 5) fun x9 => ldInt .i64 w (Addr.add q3 6) fun x10 => ldInt .i64 w (Addr.add q3 7) fun x11 => ldInt .i64 w (Addr.add q3 8) fun x12 => ldInt .i64 w (Addr.add q3 9) fun x13 => ldSlice w (Addr.add q3 10) fun a14 n15 c16 => ldStr w (Addr.add q3 11) fun s17 => ldStr w (Addr.add q3 12) fun s18 => ldInt .i64 w (Addr.add q3 13) fun x19 => ldBool w (Addr.add q3 14) fun t20 => ldSlice w (Addr.add q3 15) fun a21 n22 c23 =>
 ∀ b24, w.heap.size ≤ b24 →
 ∀ w25, Adv [] [b24] w w25 →
 Calls Tryz.prog 115 #[.slice a21 n22 c23] w25 fun e w26 => ∃ (a27 : Option Addr) (n28 c29 : Nat), e = .returned (.slice a27 n28 c29) ∧ Keep [bm0, bm1, b24] w25 w26 ∧ (((.slice a14 n15 c16) : Value) = (.slice a14 n15 c16)) ∧
 Calls Tryz.prog 116 #[.slice a14 n15 c16] w26 fun e w30 => ∃ (a31 : Option Addr) (n32 c33 : Nat), e = .returned (.slice a31 n32 c33) ∧ Keep [bm0, bm1, b24] w26 w30 ∧
 ∀ w34, Adv [b24] [] w30 w34 →
 al w34 (.cells #[.int .i64 x4, .int .i64 x5, .int .i64 x6, .string s7, .int .i64 x8, .int .i64 x9, .int .i64 x10, .int .i64 x11, .int .i64 x12, .int .i64 x13, .slice a31 n32 c33, .string s17, .string s18, .int .i64 x19, .bool t20, .slice a27 n28 c29] 57) fun b35 w36 =>
 effSl Tryz.prog (Builtin.append_ #[39, 39] 39 #[.slice c4 c7 c6, (.slice (some ⟨b35, 0, none⟩) 1 1)]) w36 fun a38 n39 c40 w37 => Keep [bm0, bm1, b24] w36 w37 ∧
 K1 (message_Own_v1 c5 c8 d0 c9 bm0 bm1 a38 n39 c40 (IntKind.wrap .i64 (c3 + 1))) (message_Own_m1 bm0 b0 b1 b2 b3 b4 b5 b6 b7 b8 b9 c0 c2 c1 a6 a7 a8 a9 a3 a5 a4 a0 a2 a1 bm1) w37)
 (
 ∀ w41, Adv [bm0] [] w w41 →
 Calls Tryz.prog 117 #[.slice a3 a5 a4] w41 fun e w42 => ∃ (a43 : Option Addr) (n44 c45 : Nat), e = .returned (.slice a43 n44 c45) ∧ Keep [bm0, bm1] w41 w42 ∧ (((.slice a0 a2 a1) : Value) = (.slice a0 a2 a1)) ∧
 Calls Tryz.prog 118 #[.slice a0 a2 a1] w42 fun e w46 => ∃ (a47 : Option Addr) (n48 c49 : Nat), e = .returned (.slice a47 n48 c49) ∧ Keep [bm0, bm1] w42 w46 ∧
 ∀ w50, Adv [bm1, bm0] [] w46 w50 →
 R (.agg #[.int .i64 b0, .int .i64 b1, .int .i64 b2, .int .i64 b3, .int .i64 b4, .int .i64 b5, .int .i64 b6, .int .i64 b7, .int .i64 b8, .int .i64 b9, .slice c4 c7 c6, .int .i64 a6, .int .i64 a7, .int .i64 a8, .int .i64 a9, .slice a43 n44 c45, .slice a47 n48 c49]) w50)
theorem message_Own_L1_eq (c4 : Option Addr) (c8 c6 : Nat) (c9 : Int) (bm0 : Nat) (b3 b4 b5 b6 b7 b8 b9 c0 c1 c2 : Int) (a0 : Option Addr) (a6 a3 : Nat) (a9 b0 b1 b2 : Int) (a1 : Option Addr) (a7 a4 : Nat) (a2 : Option Addr) (a8 a5 bm1 : Nat) (c3 : Option Addr) (c7 c5 : Nat) (d0 : Int) (K1 : Kh) (js : Nat → Value) (R : Value → World → Prop) (w : World) :
 headA message_Own_la1 ((dnF Tryz.prog message_Own_an (code Tryz.f70) 396 [0, 0, 1, 0, 1, 1]) (kthen3 (atA message_Own_la1 K1) (kont3 Tryz.prog message_Own_an (code Tryz.f70) [1, 1, 0, 1, 0] [] (post3 Tryz.prog Tryz.f70 [] R)))) (message_Own_v1 c4 c8 c6 c9 bm0 bm1 c3 c7 c5 d0) js (message_Own_m1 bm0 b3 b4 b5 b6 b7 b8 b9 c0 c1 c2 a0 a6 a3 a9 b0 b1 b2 a1 a7 a4 a2 a8 a5 bm1) w = message_Own_L1 c4 c8 c6 c9 bm0 b3 b4 b5 b6 b7 b8 b9 c0 c1 c2 a0 a6 a3 a9 b0 b1 b2 a1 a7 a4 a2 a8 a5 bm1 c3 c7 c5 d0 K1 R w := by kernel_rfl
def message_Own_K1 (c7 : Option Addr) (c9 c8 : Nat) (d0 : Int) (bm0 : Nat) (b3 b4 b5 b6 b7 b8 b9 c0 c1 c2 : Int) (a0 : Option Addr) (a6 a3 : Nat) (a9 b0 b1 b2 : Int) (a1 : Option Addr) (a7 a4 : Nat) (a2 : Option Addr) (a8 a5 bm1 : Nat) (I : Nat → Option Addr → Nat → Nat → Int → World → Prop) (m : Nat) (vals : List Value) (mem : List TB) (w : World) : Prop := ∃ m', m' < m ∧ ∃ c3 c5 c4 c6, vals = (message_Own_v1 c7 c9 c8 d0 bm0 bm1 c3 c5 c4 c6) ∧ mem = (message_Own_m1 bm0 b3 b4 b5 b6 b7 b8 b9 c0 c1 c2 a0 a6 a3 a9 b0 b1 b2 a1 a7 a4 a2 a8 a5 bm1) ∧ I m' c3 c5 c4 c6 w
theorem message_Own_leaf1 {c4 : Option Addr} {c8 c6 : Nat} {c9 : Int} {bm0 : Nat} {b3 b4 b5 b6 b7 b8 b9 c0 c1 c2 : Int} {a0 : Option Addr} {a6 a3 : Nat} {a9 b0 b1 b2 : Int} {a1 : Option Addr} {a7 a4 : Nat} {a2 : Option Addr} {a8 a5 bm1 : Nat} {I : Nat → Option Addr → Nat → Nat → Int → World → Prop} {m : Nat} {c3 : Option Addr} {c7 c5 : Nat} {d0 : Int} {w : World} (m' : Nat) (h1 : m' < m) (h2 : I m' c3 c7 c5 d0 w) : message_Own_K1 c4 c8 c6 c9 bm0 b3 b4 b5 b6 b7 b8 b9 c0 c1 c2 a0 a6 a3 a9 b0 b1 b2 a1 a7 a4 a2 a8 a5 bm1 I m (message_Own_v1 c4 c8 c6 c9 bm0 bm1 c3 c7 c5 d0) (message_Own_m1 bm0 b3 b4 b5 b6 b7 b8 b9 c0 c1 c2 a0 a6 a3 a9 b0 b1 b2 a1 a7 a4 a2 a8 a5 bm1) w := ⟨m', h1, _, _, _, _, rfl, rfl, h2⟩
theorem message_Own_rule1 {c7 : Option Addr} {c9 c8 : Nat} {d0 : Int} {bm0 : Nat} {b3 b4 b5 b6 b7 b8 b9 c0 c1 c2 : Int} {a0 : Option Addr} {a6 a3 : Nat} {a9 b0 b1 b2 : Int} {a1 : Option Addr} {a7 a4 : Nat} {a2 : Option Addr} {a8 a5 bm1 : Nat} {d1 : Option Addr} {d3 d2 : Nat} {d4 : Int} {R : Value → World → Prop} {w0 : World} (I : Nat → Option Addr → Nat → Nat → Int → World → Prop) (m0 : Nat) (h0 : I m0 d1 d3 d2 d4 w0)
 (hr : ∀ (m : Nat) (c3 : Option Addr) (c5 c4 : Nat) (c6 : Int) (w : World), I m c3 c5 c4 c6 w → message_Own_L1 c7 c9 c8 d0 bm0 b3 b4 b5 b6 b7 b8 b9 c0 c1 c2 a0 a6 a3 a9 b0 b1 b2 a1 a7 a4 a2 a8 a5 bm1 c3 c5 c4 c6 (message_Own_K1 c7 c9 c8 d0 bm0 b3 b4 b5 b6 b7 b8 b9 c0 c1 c2 a0 a6 a3 a9 b0 b1 b2 a1 a7 a4 a2 a8 a5 bm1 I m) R w) :
 loopD3 message_Own_la1 (dnF Tryz.prog message_Own_an (code Tryz.f70) 396 [0, 0, 1, 0, 1, 1]) (kont3 Tryz.prog message_Own_an (code Tryz.f70) [1, 1, 0, 1, 0] [] (post3 Tryz.prog Tryz.f70 [] R)) (message_Own_v1 c7 c9 c8 d0 bm0 bm1 d1 d3 d2 d4) (message_Own_m1 bm0 b3 b4 b5 b6 b7 b8 b9 c0 c1 c2 a0 a6 a3 a9 b0 b1 b2 a1 a7 a4 a2 a8 a5 bm1) w0 := by
 refine ⟨fun m vals mem w => ∃ c3 c5 c4 c6, vals = (message_Own_v1 c7 c9 c8 d0 bm0 bm1 c3 c5 c4 c6) ∧ mem = (message_Own_m1 bm0 b3 b4 b5 b6 b7 b8 b9 c0 c1 c2 a0 a6 a3 a9 b0 b1 b2 a1 a7 a4 a2 a8 a5 bm1) ∧ I m c3 c5 c4 c6 w, m0, ⟨_, _, _, _, rfl, rfl, h0⟩, ?_⟩
 rintro m vals mem w ⟨c3, c5, c4, c6, rfl, rfl, hI⟩
 refine ⟨rfl, rfl, fun js => ?_⟩
 have h := hr m c3 c5 c4 c6 w hI
 rw [← message_Own_L1_eq _ _ _ _ _ _ _ _ _ _ _ _ _ _ _ _ _ _ _ _ _ _ _ _ _ _ _ _ _ _ _ _ _ _ js] at h
 exact h
def message_Own_T (b5 b6 b7 b8 b9 c0 c1 c2 c3 c4 : Int) (a1 : Option Addr) (a0 a2 : Nat) (a9 b0 b3 b4 : Int) (a3 : Option Addr) (a5 a4 : Nat) (a6 : Option Addr) (a8 a7 : Nat) (R : Value → World → Prop) (w : World) : Prop :=
 ∀ b1, w.heap.size ≤ b1 →
 ∀ b2, w.heap.size ≤ b2 →
 ∀ w51, Adv [] [b2, b1] w w51 →
 loopD3 message_Own_la1 (dnF Tryz.prog message_Own_an (code Tryz.f70) 396 [0, 0, 1, 0, 1, 1]) (kont3 Tryz.prog message_Own_an (code Tryz.f70) [1, 1, 0, 1, 0] [] (post3 Tryz.prog Tryz.f70 [] R)) (message_Own_v1 a1 a0 a2 (a0 : Int) b1 b2 none 0 0 0) (message_Own_m1 b1 b5 b6 b7 b8 b9 c0 c1 c2 c3 c4 a1 a0 a2 a9 b0 b3 b4 a3 a5 a4 a6 a8 a7 b2) w51
theorem message_Own_eq (b3 b4 b5 b6 b7 b8 b9 c0 c1 c2 : Int) (a0 : Option Addr) (a2 a1 : Nat) (a9 b0 b1 b2 : Int) (a3 : Option Addr) (a5 a4 : Nat) (a6 : Option Addr) (a8 a7 : Nat) (R : Value → World → Prop) (w : World) :
 dnF Tryz.prog message_Own_an (code Tryz.f70) 400 [] (post3 Tryz.prog Tryz.f70 [] R) ⟨args0 0 [(.agg #[.int .i64 b3, .int .i64 b4, .int .i64 b5, .int .i64 b6, .int .i64 b7, .int .i64 b8, .int .i64 b9, .int .i64 c0, .int .i64 c1, .int .i64 c2, .slice a0 a2 a1, .int .i64 a9, .int .i64 b0, .int .i64 b1, .int .i64 b2, .slice a3 a5 a4, .slice a6 a8 a7])], fun _ => undef⟩ ⟨[], w, [], [], true⟩ = message_Own_T b3 b4 b5 b6 b7 b8 b9 c0 c1 c2 a0 a2 a1 a9 b0 b1 b2 a3 a5 a4 a6 a8 a7 R w := by kernel_rfl
theorem message_Own_go {b3 b4 b5 b6 b7 b8 b9 c0 c1 c2 : Int} {a0 : Option Addr} {a2 a1 : Nat} {a9 b0 b1 b2 : Int} {a3 : Option Addr} {a5 a4 : Nat} {a6 : Option Addr} {a8 a7 : Nat} {R : Value → World → Prop} {w : World} (h : message_Own_T b3 b4 b5 b6 b7 b8 b9 c0 c1 c2 a0 a2 a1 a9 b0 b1 b2 a3 a5 a4 a6 a8 a7 R w) :
 Calls Tryz.prog 70 #[(.agg #[.int .i64 b3, .int .i64 b4, .int .i64 b5, .int .i64 b6, .int .i64 b7, .int .i64 b8, .int .i64 b9, .int .i64 c0, .int .i64 c1, .int .i64 c2, .slice a0 a2 a1, .int .i64 a9, .int .i64 b0, .int .i64 b1, .int .i64 b2, .slice a3 a5 a4, .slice a6 a8 a7])] w fun e w' => ∃ v, e = .returned v ∧ R v w' :=
 calls_none Tryz.wide_mixed (f := 70) (args := [(.agg #[.int .i64 b3, .int .i64 b4, .int .i64 b5, .int .i64 b6, .int .i64 b7, .int .i64 b8, .int .i64 b9, .int .i64 c0, .int .i64 c1, .int .i64 c2, .slice a0 a2 a1, .int .i64 a9, .int .i64 b0, .int .i64 b1, .int .i64 b2, .slice a3 a5 a4, .slice a6 a8 a7])]) Tryz.func70 rfl rfl (by kernel_rfl) rfl (Eq.mpr (message_Own_eq b3 b4 b5 b6 b7 b8 b9 c0 c1 c2 a0 a2 a1 a9 b0 b1 b2 a3 a5 a4 a6 a8 a7 R w) h)
def oplog_Text_la1 : LA := ⟨[0, 0, 1, 0, 1, 1, 1, 1, 1], [5, 23, 24, 25], [(5, 0, 0)], 1, [0]⟩
def oplog_Text_an : List LA := [oplog_Text_la1]
def oplog_Text_v1 (a0 : Option Addr) (a2 a1 : Nat) (a3 : Int) (bm0 : Nat) (a4 : Int) : List Value := [(.pointer (some ⟨bm0, 0, none⟩)), .slice a0 a2 a1, .int .i64 a3, .int .i64 a4]
def oplog_Text_m1 (bm0 : Nat) (a3 a0 : Option Addr) (a2 a1 : Nat) : List TB := [⟨bm0, 124, [.pointer a3, .slice a0 a2 a1], true⟩]
def oplog_Text_L1 (a5 : Option Addr) (a6 a8 : Nat) (a7 : Int) (bm0 : Nat) (a4 : Int) (a3 a0 : Option Addr) (a2 a1 : Nat) (K1 : Kh) (R : Value → World → Prop) (w : World) : Prop :=
 w.heap[bm0]? = some (.cells #[.pointer a3, .slice a0 a2 a1] 124) →
 brB (decide (a4 < a7)) (
 ixA a5 a6 a4 16 fun q15 =>
 ldInt .i64 w q15 fun x16 => ldInt .i64 w (Addr.add q15 1) fun x17 => ldInt .i64 w (Addr.add q15 2) fun x18 => ldStr w (Addr.add q15 3) fun s19 => ldInt .i64 w (Addr.add q15 4) fun x20 => ldInt .i64 w (Addr.add q15 5) fun x21 => ldInt .i64 w (Addr.add q15 6) fun x22 => ldInt .i64 w (Addr.add q15 7) fun x23 => ldInt .i64 w (Addr.add q15 8) fun x24 => ldInt .i64 w (Addr.add q15 9) fun x25 => ldSlice w (Addr.add q15 10) fun a26 n27 c28 => ldStr w (Addr.add q15 11) fun s29 => ldStr w (Addr.add q15 12) fun s30 => ldInt .i64 w (Addr.add q15 13) fun x31 => ldBool w (Addr.add q15 14) fun t32 => ldSlice w (Addr.add q15 15) fun a33 n34 c35 =>
 ∀ b36, w.heap.size ≤ b36 →
 ∀ w37, Adv [] [b36] w w37 → w37.heap[bm0]? = some (.cells #[.pointer a3, .slice a0 a2 a1] 124) →
 Calls Tryz.prog 78 #[(.agg #[.int .i64 x18, .string s19, .int .i64 x20, .int .i64 x21, .int .i64 x22, .int .i64 x23, .int .i64 x24, .int .i64 x25, .slice a26 n27 c28, .string s29, .string s30, .int .i64 x31, .bool t32, .slice a33 n34 c35])] w37 fun e w38 => ∃ (s39 : ByteArray) (x40 : Int), e = .returned (.tuple #[.string s39, .int .i64 x40]) ∧ KeepE [bm0] [(b36, 57)] [b36] w37 w38 ∧ ∃ (p41 a42 : Option Addr) (n43 c44 : Nat), w38.heap[bm0]? = some (.cells #[.pointer p41, .slice a42 n43 c44] 124) ∧
 ∀ w45, Adv [] [] w38 w45 → w45.heap[bm0]? = some (.cells #[.pointer p41, .slice a42 n43 c44] 124) →
 Calls Tryz.prog 77 #[(.int .u64 (IntKind.wrap .u64 x16))] w45 fun e w46 => ∃ s47 : ByteArray, e = .returned (.string s47) ∧ KeepE [bm0] [(b36, 57)] [b36] w45 w46 ∧ ∃ (p48 a49 : Option Addr) (n50 c51 : Nat), w46.heap[bm0]? = some (.cells #[.pointer p48, .slice a49 n50 c51] 124) ∧ (((.int .i64 x17) : Value) = (.int .i64 x17)) ∧
 Calls Tryz.prog 77 #[(.int .u64 (IntKind.wrap .u64 x17))] w46 fun e w52 => ∃ s53 : ByteArray, e = .returned (.string s53) ∧ KeepE [bm0] [(b36, 57)] [b36] w46 w52 ∧ ∃ (p54 a55 : Option Addr) (n56 c57 : Nat), w52.heap[bm0]? = some (.cells #[.pointer p54, .slice a55 n56 c57] 124) ∧
 catS s47 s53 fun s58 =>
 Calls Tryz.prog 80 #[.string s39] w52 fun e w59 => ∃ s60 : ByteArray, e = .returned (.string s60) ∧ KeepE [bm0] [(b36, 57)] [b36] w52 w59 ∧ ∃ (p61 a62 : Option Addr) (n63 c64 : Nat), w59.heap[bm0]? = some (.cells #[.pointer p61, .slice a62 n63 c64] 124) ∧
 catS s58 s60 fun s65 =>
 Calls Tryz.prog 79 #[.string s65] w59 fun e w66 => ∃ s67 : ByteArray, e = .returned (.string s67) ∧ KeepE [bm0] [(b36, 57)] [b36] w59 w66 ∧ ∃ (p68 a69 : Option Addr) (n70 c71 : Nat), w66.heap[bm0]? = some (.cells #[.pointer p68, .slice a69 n70 c71] 124) ∧
 Calls Tryz.prog 76 #[(.pointer (some ⟨bm0, 0, none⟩)), .string s67] w66 fun e w72 => ∃ (x73 : Int) (v74 : Value), e = .returned (.tuple #[.int .i64 x73, v74]) ∧ KeepE [bm0] [(b36, 57)] [b36] w66 w72 ∧ ∃ (p75 a76 : Option Addr) (n77 c78 : Nat), w72.heap[bm0]? = some (.cells #[.pointer p75, .slice a76 n77 c78] 124) ∧
 K1 (oplog_Text_v1 a5 a6 a8 a7 bm0 (IntKind.wrap .i64 (a4 + 1))) (oplog_Text_m1 bm0 p75 a76 n77 c78) w72)
 (
 Calls Tryz.prog 81 #[(.pointer (some ⟨bm0, 0, none⟩))] w fun e w79 => ∃ s80 : ByteArray, e = .returned (.string s80) ∧ ∃ (p81 a82 : Option Addr) (n83 c84 : Nat), w79.heap[bm0]? = some (.cells #[.pointer p81, .slice a82 n83 c84] 124) ∧
 R (.tuple #[.string s80, .int .i64 0]) w79)
theorem oplog_Text_L1_eq (a4 : Option Addr) (a6 a5 : Nat) (a7 : Int) (bm0 : Nat) (a8 : Int) (a3 a0 : Option Addr) (a2 a1 : Nat) (K1 : Kh) (js : Nat → Value) (R : Value → World → Prop) (w : World) :
 headA oplog_Text_la1 ((dnF Tryz.prog oplog_Text_an (code Tryz.f31) 393 [0, 0, 1, 0, 1, 1, 1, 1, 1]) (kthen3 (atA oplog_Text_la1 K1) (kont3 Tryz.prog oplog_Text_an (code Tryz.f31) [1, 1, 1, 1, 1, 0, 1, 0] [] (post3 Tryz.prog Tryz.f31 [] R)))) (oplog_Text_v1 a4 a6 a5 a7 bm0 a8) js (oplog_Text_m1 bm0 a3 a0 a2 a1) w = oplog_Text_L1 a4 a6 a5 a7 bm0 a8 a3 a0 a2 a1 K1 R w := by kernel_rfl
def oplog_Text_K1 (a5 : Option Addr) (a7 a6 : Nat) (a8 : Int) (bm0 : Nat) (I : Nat → Int → Option Addr → Option Addr → Nat → Nat → World → Prop) (m : Nat) (vals : List Value) (mem : List TB) (w : World) : Prop := ∃ m', m' < m ∧ ∃ a4 a3 a0 a2 a1, vals = (oplog_Text_v1 a5 a7 a6 a8 bm0 a4) ∧ mem = (oplog_Text_m1 bm0 a3 a0 a2 a1) ∧ I m' a4 a3 a0 a2 a1 w
theorem oplog_Text_leaf1 {a4 : Option Addr} {a6 a5 : Nat} {a7 : Int} {bm0 : Nat} {I : Nat → Int → Option Addr → Option Addr → Nat → Nat → World → Prop} {m : Nat} {a8 : Int} {a3 a0 : Option Addr} {a2 a1 : Nat} {w : World} (m' : Nat) (h1 : m' < m) (h2 : I m' a8 a3 a0 a2 a1 w) : oplog_Text_K1 a4 a6 a5 a7 bm0 I m (oplog_Text_v1 a4 a6 a5 a7 bm0 a8) (oplog_Text_m1 bm0 a3 a0 a2 a1) w := ⟨m', h1, _, _, _, _, _, rfl, rfl, h2⟩
theorem oplog_Text_rule1 {a9 : Option Addr} {b1 b0 : Nat} {b2 : Int} {bm0 : Nat} {b3 : Int} {a8 a5 : Option Addr} {a7 a6 : Nat} {R : Value → World → Prop} {w0 : World} (I : Nat → Int → Option Addr → Option Addr → Nat → Nat → World → Prop) (m0 : Nat) (h0 : I m0 b3 a8 a5 a7 a6 w0)
 (hr : ∀ (m : Nat) (a4 : Int) (a3 a0 : Option Addr) (a2 a1 : Nat) (w : World), I m a4 a3 a0 a2 a1 w → oplog_Text_L1 a9 b1 b0 b2 bm0 a4 a3 a0 a2 a1 (oplog_Text_K1 a9 b1 b0 b2 bm0 I m) R w) :
 loopD3 oplog_Text_la1 (dnF Tryz.prog oplog_Text_an (code Tryz.f31) 393 [0, 0, 1, 0, 1, 1, 1, 1, 1]) (kont3 Tryz.prog oplog_Text_an (code Tryz.f31) [1, 1, 1, 1, 1, 0, 1, 0] [] (post3 Tryz.prog Tryz.f31 [] R)) (oplog_Text_v1 a9 b1 b0 b2 bm0 b3) (oplog_Text_m1 bm0 a8 a5 a7 a6) w0 := by
 refine ⟨fun m vals mem w => ∃ a4 a3 a0 a2 a1, vals = (oplog_Text_v1 a9 b1 b0 b2 bm0 a4) ∧ mem = (oplog_Text_m1 bm0 a3 a0 a2 a1) ∧ I m a4 a3 a0 a2 a1 w, m0, ⟨_, _, _, _, _, rfl, rfl, h0⟩, ?_⟩
 rintro m vals mem w ⟨a4, a3, a0, a2, a1, rfl, rfl, hI⟩
 refine ⟨rfl, rfl, fun js => ?_⟩
 have h := hr m a4 a3 a0 a2 a1 w hI
 rw [← oplog_Text_L1_eq _ _ _ _ _ _ _ _ _ _ _ js] at h
 exact h
def oplog_Text_T (a1 : Option Addr) (a0 a2 : Nat) (R : Value → World → Prop) (w : World) : Prop :=
 brB (decide ((a0 : Int) > 4096)) (
 R (.tuple #[(.string (⟨#[]⟩ : ByteArray)), .int .i64 2]) w)
 (
 Calls Tryz.prog 75 #[.slice a1 a0 a2] w fun e w1 => ∃ x2 : Int, e = .returned (.int .i64 x2) ∧
 brB (x2 != 0) (
 R (.tuple #[(.string (⟨#[]⟩ : ByteArray)), .int .i64 x2]) w1)
 (
 ∀ b3, w1.heap.size ≤ b3 →
 ∀ w4, Adv [] [b3] w1 w4 →
 Calls Tryz.prog 77 #[(.int .u64 (IntKind.wrap .u64 (a0 : Int)))] w4 fun e w5 => ∃ s6 : ByteArray, e = .returned (.string s6) ∧ Keep [b3] w4 w5 ∧
 ∀ w7, Adv [] [] w5 w7 → w7.heap[b3]? = some (.cells #[.pointer none, .slice none 0 0] 124) →
 Calls Tryz.prog 76 #[(.pointer (some ⟨b3, 0, none⟩)), .string s6] w7 fun e w8 => ∃ (x9 : Int) (v10 : Value), e = .returned (.tuple #[.int .i64 x9, v10]) ∧ ∃ (p11 a12 : Option Addr) (n13 c14 : Nat), w8.heap[b3]? = some (.cells #[.pointer p11, .slice a12 n13 c14] 124) ∧
 loopD3 oplog_Text_la1 (dnF Tryz.prog oplog_Text_an (code Tryz.f31) 393 [0, 0, 1, 0, 1, 1, 1, 1, 1]) (kont3 Tryz.prog oplog_Text_an (code Tryz.f31) [1, 1, 1, 1, 1, 0, 1, 0] [] (post3 Tryz.prog Tryz.f31 [] R)) (oplog_Text_v1 a1 a0 a2 (a0 : Int) b3 0) (oplog_Text_m1 b3 p11 a12 n13 c14) w8))
theorem oplog_Text_eq (a0 : Option Addr) (a2 a1 : Nat) (R : Value → World → Prop) (w : World) :
 dnF Tryz.prog oplog_Text_an (code Tryz.f31) 400 [] (post3 Tryz.prog Tryz.f31 [] R) ⟨args0 0 [.slice a0 a2 a1], fun _ => undef⟩ ⟨[], w, [], [], true⟩ = oplog_Text_T a0 a2 a1 R w := by kernel_rfl
theorem oplog_Text_go {a0 : Option Addr} {a2 a1 : Nat} {R : Value → World → Prop} {w : World} (h : oplog_Text_T a0 a2 a1 R w) :
 Calls Tryz.prog 31 #[.slice a0 a2 a1] w fun e w' => ∃ v, e = .returned v ∧ R v w' :=
 calls_none Tryz.wide_mixed (f := 31) (args := [.slice a0 a2 a1]) Tryz.func31 rfl rfl (by kernel_rfl) rfl (Eq.mpr (oplog_Text_eq a0 a2 a1 R w) h)
def oplog_checked_la1 : LA := ⟨[0, 0, 1, 0, 1, 1, 1], [10, 11, 12], [], 1, [0]⟩
def oplog_checked_an : List LA := [oplog_checked_la1]
def oplog_checked_v1 (a0 : Option Addr) (a2 a1 : Nat) (a3 a4 : Int) : List Value := [.slice a0 a2 a1, .int .i64 a3, .int .i64 a4]
def oplog_checked_m1 (bm0 : Nat) (a0 : Value) : List TB := [⟨bm0, 147, [a0], true⟩]
def oplog_checked_L1 (a2 : Option Addr) (a3 a5 : Nat) (a4 : Int) (bm0 : Nat) (a1 : Int) (a0 : Value) (K1 : Kh) (R : Value → World → Prop) (w : World) : Prop :=
 w.heap[bm0]? = some (.cells #[a0] 147) →
 brB (decide (a1 < a4)) (
 ixA a2 a3 a1 16 fun q6 =>
 ldInt .i64 w q6 fun x7 => ldInt .i64 w (Addr.add q6 1) fun x8 => ldInt .i64 w (Addr.add q6 2) fun x9 => ldStr w (Addr.add q6 3) fun s10 => ldInt .i64 w (Addr.add q6 4) fun x11 => ldInt .i64 w (Addr.add q6 5) fun x12 => ldInt .i64 w (Addr.add q6 6) fun x13 => ldInt .i64 w (Addr.add q6 7) fun x14 => ldInt .i64 w (Addr.add q6 8) fun x15 => ldInt .i64 w (Addr.add q6 9) fun x16 => ldSlice w (Addr.add q6 10) fun a17 n18 c19 => ldStr w (Addr.add q6 11) fun s20 => ldStr w (Addr.add q6 12) fun s21 => ldInt .i64 w (Addr.add q6 13) fun x22 => ldBool w (Addr.add q6 14) fun t23 => ldSlice w (Addr.add q6 15) fun a24 n25 c26 =>
 ∀ b27, w.heap.size ≤ b27 →
 ∀ w28, Adv [] [b27] w w28 → w28.heap[bm0]? = some (.cells #[a0] 147) →
 Calls Tryz.prog 59 #[(.agg #[.int .i64 x9, .string s10, .int .i64 x11, .int .i64 x12, .int .i64 x13, .int .i64 x14, .int .i64 x15, .int .i64 x16, .slice a17 n18 c19, .string s20, .string s21, .int .i64 x22, .bool t23, .slice a24 n25 c26])] w28 fun e w29 => ∃ x30 : Int, e = .returned (.int .i64 x30) ∧ KeepE [bm0] [(b27, 57)] [b27] w28 w29 ∧ ∃ v31 : Value, w29.heap[bm0]? = some (.cells #[v31] 147) ∧
 brB (x30 != 0) (
 R (.int .i64 x30) w29)
 (
 K1 (oplog_checked_v1 a2 a3 a5 a4 (IntKind.wrap .i64 (a1 + 1))) (oplog_checked_m1 bm0 v31) w29))
 (
 R (.int .i64 0) w)
theorem oplog_checked_L1_eq (a1 : Option Addr) (a3 a2 : Nat) (a4 : Int) (bm0 : Nat) (a5 : Int) (a0 : Value) (K1 : Kh) (js : Nat → Value) (R : Value → World → Prop) (w : World) :
 headA oplog_checked_la1 ((dnF Tryz.prog oplog_checked_an (code Tryz.f75) 395 [0, 0, 1, 0, 1, 1, 1]) (kthen3 (atA oplog_checked_la1 K1) (kont3 Tryz.prog oplog_checked_an (code Tryz.f75) [1, 1, 1, 0, 1, 0] [] (post3 Tryz.prog Tryz.f75 [] R)))) (oplog_checked_v1 a1 a3 a2 a4 a5) js (oplog_checked_m1 bm0 a0) w = oplog_checked_L1 a1 a3 a2 a4 bm0 a5 a0 K1 R w := by kernel_rfl
def oplog_checked_K1 (a2 : Option Addr) (a4 a3 : Nat) (a5 : Int) (bm0 : Nat) (I : Nat → Int → Value → World → Prop) (m : Nat) (vals : List Value) (mem : List TB) (w : World) : Prop := ∃ m', m' < m ∧ ∃ a1 a0, vals = (oplog_checked_v1 a2 a4 a3 a5 a1) ∧ mem = (oplog_checked_m1 bm0 a0) ∧ I m' a1 a0 w
theorem oplog_checked_leaf1 {a1 : Option Addr} {a3 a2 : Nat} {a4 : Int} {bm0 : Nat} {I : Nat → Int → Value → World → Prop} {m : Nat} {a5 : Int} {a0 : Value} {w : World} (m' : Nat) (h1 : m' < m) (h2 : I m' a5 a0 w) : oplog_checked_K1 a1 a3 a2 a4 bm0 I m (oplog_checked_v1 a1 a3 a2 a4 a5) (oplog_checked_m1 bm0 a0) w := ⟨m', h1, _, _, rfl, rfl, h2⟩
theorem oplog_checked_rule1 {a3 : Option Addr} {a5 a4 : Nat} {a6 : Int} {bm0 : Nat} {a7 : Int} {a2 : Value} {R : Value → World → Prop} {w0 : World} (I : Nat → Int → Value → World → Prop) (m0 : Nat) (h0 : I m0 a7 a2 w0)
 (hr : ∀ (m : Nat) (a1 : Int) (a0 : Value) (w : World), I m a1 a0 w → oplog_checked_L1 a3 a5 a4 a6 bm0 a1 a0 (oplog_checked_K1 a3 a5 a4 a6 bm0 I m) R w) :
 loopD3 oplog_checked_la1 (dnF Tryz.prog oplog_checked_an (code Tryz.f75) 395 [0, 0, 1, 0, 1, 1, 1]) (kont3 Tryz.prog oplog_checked_an (code Tryz.f75) [1, 1, 1, 0, 1, 0] [] (post3 Tryz.prog Tryz.f75 [] R)) (oplog_checked_v1 a3 a5 a4 a6 a7) (oplog_checked_m1 bm0 a2) w0 := by
 refine ⟨fun m vals mem w => ∃ a1 a0, vals = (oplog_checked_v1 a3 a5 a4 a6 a1) ∧ mem = (oplog_checked_m1 bm0 a0) ∧ I m a1 a0 w, m0, ⟨_, _, rfl, rfl, h0⟩, ?_⟩
 rintro m vals mem w ⟨a1, a0, rfl, rfl, hI⟩
 refine ⟨rfl, rfl, fun js => ?_⟩
 have h := hr m a1 a0 w hI
 rw [← oplog_checked_L1_eq _ _ _ _ _ _ _ _ js] at h
 exact h
def oplog_checked_T (a1 : Option Addr) (a0 a2 : Nat) (R : Value → World → Prop) (w : World) : Prop :=
 ∀ b1, w.heap.size ≤ b1 →
 ∀ w2, Adv [] [b1] w w2 → w2.heap[b1]? = some (.cells #[(.func (.func 122) #[] #[])] 147) →
 Calls Tryz.prog 123 #[.slice a1 a0 a2, (.func (.func 124) #[] #[(.pointer (some ⟨b1, 0, none⟩))])] w2 fun e w3 => ∃ t4 : Bool, e = .returned (.bool t4) ∧ ∃ v5 : Value, w3.heap[b1]? = some (.cells #[v5] 147) ∧
 brB t4 (
 R (.int .i64 1) w3)
 (
 loopD3 oplog_checked_la1 (dnF Tryz.prog oplog_checked_an (code Tryz.f75) 395 [0, 0, 1, 0, 1, 1, 1]) (kont3 Tryz.prog oplog_checked_an (code Tryz.f75) [1, 1, 1, 0, 1, 0] [] (post3 Tryz.prog Tryz.f75 [] R)) (oplog_checked_v1 a1 a0 a2 (a0 : Int) 0) (oplog_checked_m1 b1 v5) w3)
theorem oplog_checked_eq (a0 : Option Addr) (a2 a1 : Nat) (R : Value → World → Prop) (w : World) :
 dnF Tryz.prog oplog_checked_an (code Tryz.f75) 400 [] (post3 Tryz.prog Tryz.f75 [] R) ⟨args0 0 [.slice a0 a2 a1], fun _ => undef⟩ ⟨[], w, [], [], true⟩ = oplog_checked_T a0 a2 a1 R w := by kernel_rfl
theorem oplog_checked_go {a0 : Option Addr} {a2 a1 : Nat} {R : Value → World → Prop} {w : World} (h : oplog_checked_T a0 a2 a1 R w) :
 Calls Tryz.prog 75 #[.slice a0 a2 a1] w fun e w' => ∃ v, e = .returned v ∧ R v w' :=
 calls_none Tryz.wide_mixed (f := 75) (args := [.slice a0 a2 a1]) Tryz.func75 rfl rfl (by kernel_rfl) rfl (Eq.mpr (oplog_checked_eq a0 a2 a1 R w) h)
def oplog_checked_1_an : List LA := []
def oplog_checked_1_T (a0 : Int) (R : Value → World → Prop) (w : World) : Prop :=
 brB (decide (a0 < 1)) (
 R (.bool true) w)
 (
 R (.bool (decide (a0 > 1099511627776))) w)
theorem oplog_checked_1_eq (a0 : Int) (R : Value → World → Prop) (w : World) :
 dnF Tryz.prog oplog_checked_1_an (code Tryz.f122) 400 [] (post3 Tryz.prog Tryz.f122 [] R) ⟨args0 0 [.int .i64 a0], fun _ => undef⟩ ⟨[], w, [], [], true⟩ = oplog_checked_1_T a0 R w := by kernel_rfl
theorem oplog_checked_1_go {a0 : Int} {R : Value → World → Prop} {w : World} (h : oplog_checked_1_T a0 R w) :
 Calls Tryz.prog 122 #[.int .i64 a0] w fun e w' => ∃ v, e = .returned v ∧ R v w' :=
 calls_none Tryz.wide_mixed (f := 122) (args := [.int .i64 a0]) Tryz.func122 rfl rfl (by kernel_rfl) rfl (Eq.mpr (oplog_checked_1_eq a0 R w) h)
def slices_ContainsFunc_api_Call_api_Call_an : List LA := []
def slices_ContainsFunc_api_Call_api_Call_T (a0 : Option Addr) (a2 a1 : Nat) (cp1 : Addr) (R : Value → World → Prop) (w : World) : Prop :=
 Calls Tryz.prog 151 #[.slice a0 a2 a1, (.func (.func 124) #[] #[(.pointer (some cp1))])] w fun e w1 => ∃ x2 : Int, e = .returned (.int .i64 x2) ∧
 R (.bool (decide (x2 ≥ 0))) w1
theorem slices_ContainsFunc_api_Call_api_Call_eq (a0 : Option Addr) (a2 a1 : Nat) (cp1 : Addr) (R : Value → World → Prop) (w : World) :
 dnF Tryz.prog slices_ContainsFunc_api_Call_api_Call_an (code Tryz.f123) 400 [] (post3 Tryz.prog Tryz.f123 [] R) ⟨args0 0 [.slice a0 a2 a1, (.func (.func 124) #[] #[(.pointer (some cp1))])], fun _ => undef⟩ ⟨[], w, [], [], true⟩ = slices_ContainsFunc_api_Call_api_Call_T a0 a2 a1 cp1 R w := by kernel_rfl
theorem slices_ContainsFunc_api_Call_api_Call_go {a0 : Option Addr} {a2 a1 : Nat} {cp1 : Addr} {R : Value → World → Prop} {w : World} (h : slices_ContainsFunc_api_Call_api_Call_T a0 a2 a1 cp1 R w) :
 Calls Tryz.prog 123 #[.slice a0 a2 a1, (.func (.func 124) #[] #[(.pointer (some cp1))])] w fun e w' => ∃ v, e = .returned v ∧ R v w' :=
 calls_none Tryz.wide_mixed (f := 123) (args := [.slice a0 a2 a1, (.func (.func 124) #[] #[(.pointer (some cp1))])]) Tryz.func123 rfl rfl (by kernel_rfl) rfl (Eq.mpr (slices_ContainsFunc_api_Call_api_Call_eq a0 a2 a1 cp1 R w) h)
def slices_IndexFunc_api_Call_api_Call_la1 : LA := ⟨[0, 0, 1, 0, 1], [0, 1, 7, 8], [], 0, []⟩
def slices_IndexFunc_api_Call_api_Call_an : List LA := [slices_IndexFunc_api_Call_api_Call_la1]
def slices_IndexFunc_api_Call_api_Call_v1 (a1 : Option Addr) (a3 a2 : Nat) (a0 : Addr) (a4 a5 : Int) : List Value := [.slice a1 a3 a2, (.func (.func 124) #[] #[(.pointer (some a0))]), .int .i64 a4, .int .i64 a5]
def slices_IndexFunc_api_Call_api_Call_m1 : List TB := []
def slices_IndexFunc_api_Call_api_Call_L1 (a2 : Option Addr) (a3 a5 : Nat) (a0 : Addr) (a4 a1 : Int) (K1 : Kh) (R : Value → World → Prop) (w : World) : Prop :=
 brB (decide (a1 < a4)) (
 ixA a2 a3 a1 16 fun q1 =>
 ldInt .i64 w q1 fun x2 => ldInt .i64 w (Addr.add q1 1) fun x3 => ldInt .i64 w (Addr.add q1 2) fun x4 => ldStr w (Addr.add q1 3) fun s5 => ldInt .i64 w (Addr.add q1 4) fun x6 => ldInt .i64 w (Addr.add q1 5) fun x7 => ldInt .i64 w (Addr.add q1 6) fun x8 => ldInt .i64 w (Addr.add q1 7) fun x9 => ldInt .i64 w (Addr.add q1 8) fun x10 => ldInt .i64 w (Addr.add q1 9) fun x11 => ldSlice w (Addr.add q1 10) fun a12 n13 c14 => ldStr w (Addr.add q1 11) fun s15 => ldStr w (Addr.add q1 12) fun s16 => ldInt .i64 w (Addr.add q1 13) fun x17 => ldBool w (Addr.add q1 14) fun t18 => ldSlice w (Addr.add q1 15) fun a19 n20 c21 =>
 Calls Tryz.prog 124 #[(.agg #[.int .i64 x2, .int .i64 x3, .int .i64 x4, .string s5, .int .i64 x6, .int .i64 x7, .int .i64 x8, .int .i64 x9, .int .i64 x10, .int .i64 x11, .slice a12 n13 c14, .string s15, .string s16, .int .i64 x17, .bool t18, .slice a19 n20 c21]), (.pointer (some a0))] w fun e w22 => ∃ t23 : Bool, e = .returned (.bool t23) ∧
 brB t23 (
 R (.int .i64 a1) w22)
 (
 K1 (slices_IndexFunc_api_Call_api_Call_v1 a2 a3 a5 a0 a4 (IntKind.wrap .i64 (a1 + 1))) (slices_IndexFunc_api_Call_api_Call_m1) w22))
 (
 R (.int .i64 (-1)) w)
theorem slices_IndexFunc_api_Call_api_Call_L1_eq (a1 : Option Addr) (a3 a2 : Nat) (a0 : Addr) (a4 a5 : Int) (K1 : Kh) (js : Nat → Value) (R : Value → World → Prop) (w : World) :
 headA slices_IndexFunc_api_Call_api_Call_la1 ((dnF Tryz.prog slices_IndexFunc_api_Call_api_Call_an (code Tryz.f151) 397 [0, 0, 1, 0, 1]) (kthen3 (atA slices_IndexFunc_api_Call_api_Call_la1 K1) (kont3 Tryz.prog slices_IndexFunc_api_Call_api_Call_an (code Tryz.f151) [1, 0, 1, 0] [] (post3 Tryz.prog Tryz.f151 [] R)))) (slices_IndexFunc_api_Call_api_Call_v1 a1 a3 a2 a0 a4 a5) js (slices_IndexFunc_api_Call_api_Call_m1) w = slices_IndexFunc_api_Call_api_Call_L1 a1 a3 a2 a0 a4 a5 K1 R w := by kernel_rfl
def slices_IndexFunc_api_Call_api_Call_K1 (a2 : Option Addr) (a4 a3 : Nat) (a0 : Addr) (a5 : Int) (I : Nat → Int → World → Prop) (m : Nat) (vals : List Value) (mem : List TB) (w : World) : Prop := ∃ m', m' < m ∧ ∃ a1, vals = (slices_IndexFunc_api_Call_api_Call_v1 a2 a4 a3 a0 a5 a1) ∧ mem = (slices_IndexFunc_api_Call_api_Call_m1) ∧ I m' a1 w
theorem slices_IndexFunc_api_Call_api_Call_leaf1 {a1 : Option Addr} {a3 a2 : Nat} {a0 : Addr} {a4 : Int} {I : Nat → Int → World → Prop} {m : Nat} {a5 : Int} {w : World} (m' : Nat) (h1 : m' < m) (h2 : I m' a5 w) : slices_IndexFunc_api_Call_api_Call_K1 a1 a3 a2 a0 a4 I m (slices_IndexFunc_api_Call_api_Call_v1 a1 a3 a2 a0 a4 a5) (slices_IndexFunc_api_Call_api_Call_m1) w := ⟨m', h1, _, rfl, rfl, h2⟩
theorem slices_IndexFunc_api_Call_api_Call_rule1 {a2 : Option Addr} {a4 a3 : Nat} {a0 : Addr} {a5 a6 : Int} {R : Value → World → Prop} {w0 : World} (I : Nat → Int → World → Prop) (m0 : Nat) (h0 : I m0 a6 w0)
 (hr : ∀ (m : Nat) (a1 : Int) (w : World), I m a1 w → slices_IndexFunc_api_Call_api_Call_L1 a2 a4 a3 a0 a5 a1 (slices_IndexFunc_api_Call_api_Call_K1 a2 a4 a3 a0 a5 I m) R w) :
 loopD3 slices_IndexFunc_api_Call_api_Call_la1 (dnF Tryz.prog slices_IndexFunc_api_Call_api_Call_an (code Tryz.f151) 397 [0, 0, 1, 0, 1]) (kont3 Tryz.prog slices_IndexFunc_api_Call_api_Call_an (code Tryz.f151) [1, 0, 1, 0] [] (post3 Tryz.prog Tryz.f151 [] R)) (slices_IndexFunc_api_Call_api_Call_v1 a2 a4 a3 a0 a5 a6) (slices_IndexFunc_api_Call_api_Call_m1) w0 := by
 refine ⟨fun m vals mem w => ∃ a1, vals = (slices_IndexFunc_api_Call_api_Call_v1 a2 a4 a3 a0 a5 a1) ∧ mem = (slices_IndexFunc_api_Call_api_Call_m1) ∧ I m a1 w, m0, ⟨_, rfl, rfl, h0⟩, ?_⟩
 rintro m vals mem w ⟨a1, rfl, rfl, hI⟩
 refine ⟨rfl, rfl, fun js => ?_⟩
 have h := hr m a1 w hI
 rw [← slices_IndexFunc_api_Call_api_Call_L1_eq _ _ _ _ _ _ _ js] at h
 exact h
def slices_IndexFunc_api_Call_api_Call_T (a1 : Option Addr) (a0 a2 : Nat) (cp1 : Addr) (R : Value → World → Prop) (w : World) : Prop :=
 loopD3 slices_IndexFunc_api_Call_api_Call_la1 (dnF Tryz.prog slices_IndexFunc_api_Call_api_Call_an (code Tryz.f151) 397 [0, 0, 1, 0, 1]) (kont3 Tryz.prog slices_IndexFunc_api_Call_api_Call_an (code Tryz.f151) [1, 0, 1, 0] [] (post3 Tryz.prog Tryz.f151 [] R)) (slices_IndexFunc_api_Call_api_Call_v1 a1 a0 a2 cp1 (a0 : Int) 0) (slices_IndexFunc_api_Call_api_Call_m1) w
theorem slices_IndexFunc_api_Call_api_Call_eq (a0 : Option Addr) (a2 a1 : Nat) (cp1 : Addr) (R : Value → World → Prop) (w : World) :
 dnF Tryz.prog slices_IndexFunc_api_Call_api_Call_an (code Tryz.f151) 400 [] (post3 Tryz.prog Tryz.f151 [] R) ⟨args0 0 [.slice a0 a2 a1, (.func (.func 124) #[] #[(.pointer (some cp1))])], fun _ => undef⟩ ⟨[], w, [], [], true⟩ = slices_IndexFunc_api_Call_api_Call_T a0 a2 a1 cp1 R w := by kernel_rfl
theorem slices_IndexFunc_api_Call_api_Call_go {a0 : Option Addr} {a2 a1 : Nat} {cp1 : Addr} {R : Value → World → Prop} {w : World} (h : slices_IndexFunc_api_Call_api_Call_T a0 a2 a1 cp1 R w) :
 Calls Tryz.prog 151 #[.slice a0 a2 a1, (.func (.func 124) #[] #[(.pointer (some cp1))])] w fun e w' => ∃ v, e = .returned v ∧ R v w' :=
 calls_none Tryz.wide_mixed (f := 151) (args := [.slice a0 a2 a1, (.func (.func 124) #[] #[(.pointer (some cp1))])]) Tryz.func151 rfl rfl (by kernel_rfl) rfl (Eq.mpr (slices_IndexFunc_api_Call_api_Call_eq a0 a2 a1 cp1 R w) h)
def ref18_nums_an : List LA := []
def ref18_nums_T (a0 a1 a2 a3 a4 a5 a6 a7 a8 a9 : Int) (b0 : Option Addr) (b4 b2 : Nat) (c1 c2 c3 c4 : Int) (b5 : Option Addr) (b7 b6 : Nat) (b8 : Option Addr) (c0 b9 : Nat) (R : Value → World → Prop) (w : World) : Prop :=
 ∀ b1, w.heap.size ≤ b1 →
 ∀ w2, Adv [] [b1] w w2 →
 al w2 (.cells #[.int .i64 a0, .int .i64 a1, .int .i64 a2, .int .i64 a3, .int .i64 a4, .int .i64 a5, .int .i64 a6, .int .i64 a7, .int .i64 a8, .int .i64 a9] 3) fun b3 w4 =>
 R (.slice (some ⟨b3, 0, none⟩) 10 10) w4
theorem ref18_nums_eq (b3 b4 b5 b6 b7 b8 b9 c0 c1 c2 : Int) (a0 : Option Addr) (a2 a1 : Nat) (a9 b0 b1 b2 : Int) (a3 : Option Addr) (a5 a4 : Nat) (a6 : Option Addr) (a8 a7 : Nat) (R : Value → World → Prop) (w : World) :
 dnF Tryz.prog ref18_nums_an (code Tryz.f66) 400 [] (post3 Tryz.prog Tryz.f66 [] R) ⟨args0 0 [(.agg #[.int .i64 b3, .int .i64 b4, .int .i64 b5, .int .i64 b6, .int .i64 b7, .int .i64 b8, .int .i64 b9, .int .i64 c0, .int .i64 c1, .int .i64 c2, .slice a0 a2 a1, .int .i64 a9, .int .i64 b0, .int .i64 b1, .int .i64 b2, .slice a3 a5 a4, .slice a6 a8 a7])], fun _ => undef⟩ ⟨[], w, [], [], true⟩ = ref18_nums_T b3 b4 b5 b6 b7 b8 b9 c0 c1 c2 a0 a2 a1 a9 b0 b1 b2 a3 a5 a4 a6 a8 a7 R w := by kernel_rfl
theorem ref18_nums_go {b3 b4 b5 b6 b7 b8 b9 c0 c1 c2 : Int} {a0 : Option Addr} {a2 a1 : Nat} {a9 b0 b1 b2 : Int} {a3 : Option Addr} {a5 a4 : Nat} {a6 : Option Addr} {a8 a7 : Nat} {R : Value → World → Prop} {w : World} (h : ref18_nums_T b3 b4 b5 b6 b7 b8 b9 c0 c1 c2 a0 a2 a1 a9 b0 b1 b2 a3 a5 a4 a6 a8 a7 R w) :
 Calls Tryz.prog 66 #[(.agg #[.int .i64 b3, .int .i64 b4, .int .i64 b5, .int .i64 b6, .int .i64 b7, .int .i64 b8, .int .i64 b9, .int .i64 c0, .int .i64 c1, .int .i64 c2, .slice a0 a2 a1, .int .i64 a9, .int .i64 b0, .int .i64 b1, .int .i64 b2, .slice a3 a5 a4, .slice a6 a8 a7])] w fun e w' => ∃ v, e = .returned v ∧ R v w' :=
 calls_none Tryz.wide_mixed (f := 66) (args := [(.agg #[.int .i64 b3, .int .i64 b4, .int .i64 b5, .int .i64 b6, .int .i64 b7, .int .i64 b8, .int .i64 b9, .int .i64 c0, .int .i64 c1, .int .i64 c2, .slice a0 a2 a1, .int .i64 a9, .int .i64 b0, .int .i64 b1, .int .i64 b2, .slice a3 a5 a4, .slice a6 a8 a7])]) Tryz.func66 rfl rfl (by kernel_rfl) rfl (Eq.mpr (ref18_nums_eq b3 b4 b5 b6 b7 b8 b9 c0 c1 c2 a0 a2 a1 a9 b0 b1 b2 a3 a5 a4 a6 a8 a7 R w) h)
def ref18_Same_la1 : LA := ⟨[0, 0, 1, 0, 1, 1], [2, 3, 5, 6, 7], [(2, 0, 0), (3, 1, 0)], 2, []⟩
def ref18_Same_an : List LA := [ref18_Same_la1]
def ref18_Same_v1 (a0 : Option Addr) (a4 a2 : Nat) (a1 : Option Addr) (a5 a3 bm0 bm1 : Nat) (a6 : Int) : List Value := [(.pointer (some ⟨bm0, 0, none⟩)), (.pointer (some ⟨bm1, 0, none⟩)), .slice a0 a4 a2, .slice a1 a5 a3, .int .i64 a6]
def ref18_Same_m1 (bm0 : Nat) (c6 c7 c8 c9 d0 d1 d2 d3 d4 d5 : Int) (a0 : Option Addr) (b2 a6 : Nat) (b8 b9 c0 c1 : Int) (a1 : Option Addr) (b3 a7 : Nat) (a2 : Option Addr) (b4 a8 bm1 : Nat) (d6 d7 d8 d9 e0 e1 e2 e3 e4 e5 : Int) (a3 : Option Addr) (b5 a9 : Nat) (c2 c3 c4 c5 : Int) (a4 : Option Addr) (b6 b0 : Nat) (a5 : Option Addr) (b7 b1 : Nat) : List TB := [⟨bm0, 45, [.int .i64 c6, .int .i64 c7, .int .i64 c8, .int .i64 c9, .int .i64 d0, .int .i64 d1, .int .i64 d2, .int .i64 d3, .int .i64 d4, .int .i64 d5, .slice a0 b2 a6, .int .i64 b8, .int .i64 b9, .int .i64 c0, .int .i64 c1, .slice a1 b3 a7, .slice a2 b4 a8], false⟩, ⟨bm1, 45, [.int .i64 d6, .int .i64 d7, .int .i64 d8, .int .i64 d9, .int .i64 e0, .int .i64 e1, .int .i64 e2, .int .i64 e3, .int .i64 e4, .int .i64 e5, .slice a3 b5 a9, .int .i64 c2, .int .i64 c3, .int .i64 c4, .int .i64 c5, .slice a4 b6 b0, .slice a5 b7 b1], false⟩]
def ref18_Same_L1 (e8 : Option Addr) (c7 f1 : Nat) (e9 : Option Addr) (f0 f2 bm0 : Nat) (c8 c9 d0 d1 d2 d3 d4 d5 d6 d7 : Int) (a0 : Option Addr) (b2 a6 : Nat) (b8 b9 c0 c1 : Int) (a1 : Option Addr) (b3 a7 : Nat) (a2 : Option Addr) (b4 a8 bm1 : Nat) (d8 d9 e0 e1 e2 e3 e4 e5 e6 e7 : Int) (a3 : Option Addr) (b5 a9 : Nat) (c2 c3 c4 c5 : Int) (a4 : Option Addr) (b6 b0 : Nat) (a5 : Option Addr) (b7 b1 : Nat) (c6 : Int) (K1 : Kh) (R : Value → World → Prop) (w : World) : Prop :=
 brB (decide (c6 < (c7 : Int))) (
 ixA e8 c7 c6 1 fun q12 =>
 ldInt .i64 w q12 fun x13 =>
 ixA e9 f0 c6 1 fun q14 =>
 ldInt .i64 w q14 fun x15 =>
 brB (x13 != x15) (
 ∀ w16, Adv [] [] w w16 →
 R (.bool false) w16)
 (
 ∀ w17, Adv [] [] w w17 →
 K1 (ref18_Same_v1 e8 c7 f1 e9 f0 f2 bm0 bm1 (IntKind.wrap .i64 (c6 + 1))) (ref18_Same_m1 bm0 c8 c9 d0 d1 d2 d3 d4 d5 d6 d7 a0 b2 a6 b8 b9 c0 c1 a1 b3 a7 a2 b4 a8 bm1 d8 d9 e0 e1 e2 e3 e4 e5 e6 e7 a3 b5 a9 c2 c3 c4 c5 a4 b6 b0 a5 b7 b1) w17))
 (
 Calls Tryz.prog 28 #[.slice a0 b2 a6, .slice a3 b5 a9] w fun e w18 => ∃ t19 : Bool, e = .returned (.bool t19) ∧ Keep [bm0, bm1] w w18 ∧
 brB t19 (
 Calls Tryz.prog 23 #[(.agg #[.int .i64 b8, .int .i64 b9, .int .i64 c0, .int .i64 c1, .slice a1 b3 a7, .slice a2 b4 a8]), (.agg #[.int .i64 c2, .int .i64 c3, .int .i64 c4, .int .i64 c5, .slice a4 b6 b0, .slice a5 b7 b1])] w18 fun e w20 => ∃ t21 : Bool, e = .returned (.bool t21) ∧ Keep [bm0, bm1] w18 w20 ∧
 R (.bool t21) w20)
 (
 R (.bool false) w18))
theorem ref18_Same_L1_eq (e6 : Option Addr) (f0 e8 : Nat) (e7 : Option Addr) (f1 e9 bm0 : Nat) (c6 c7 c8 c9 d0 d1 d2 d3 d4 d5 : Int) (a0 : Option Addr) (b2 a6 : Nat) (b8 b9 c0 c1 : Int) (a1 : Option Addr) (b3 a7 : Nat) (a2 : Option Addr) (b4 a8 bm1 : Nat) (d6 d7 d8 d9 e0 e1 e2 e3 e4 e5 : Int) (a3 : Option Addr) (b5 a9 : Nat) (c2 c3 c4 c5 : Int) (a4 : Option Addr) (b6 b0 : Nat) (a5 : Option Addr) (b7 b1 : Nat) (f2 : Int) (K1 : Kh) (js : Nat → Value) (R : Value → World → Prop) (w : World) :
 headA ref18_Same_la1 ((dnF Tryz.prog ref18_Same_an (code Tryz.f17) 396 [0, 0, 1, 0, 1, 1]) (kthen3 (atA ref18_Same_la1 K1) (kont3 Tryz.prog ref18_Same_an (code Tryz.f17) [1, 1, 0, 1, 0] [] (post3 Tryz.prog Tryz.f17 [] R)))) (ref18_Same_v1 e6 f0 e8 e7 f1 e9 bm0 bm1 f2) js (ref18_Same_m1 bm0 c6 c7 c8 c9 d0 d1 d2 d3 d4 d5 a0 b2 a6 b8 b9 c0 c1 a1 b3 a7 a2 b4 a8 bm1 d6 d7 d8 d9 e0 e1 e2 e3 e4 e5 a3 b5 a9 c2 c3 c4 c5 a4 b6 b0 a5 b7 b1) w = ref18_Same_L1 e6 f0 e8 e7 f1 e9 bm0 c6 c7 c8 c9 d0 d1 d2 d3 d4 d5 a0 b2 a6 b8 b9 c0 c1 a1 b3 a7 a2 b4 a8 bm1 d6 d7 d8 d9 e0 e1 e2 e3 e4 e5 a3 b5 a9 c2 c3 c4 c5 a4 b6 b0 a5 b7 b1 f2 K1 R w := by kernel_rfl
def ref18_Same_K1 (e7 : Option Addr) (f1 e9 : Nat) (e8 : Option Addr) (f2 f0 bm0 : Nat) (c6 c7 c8 c9 d0 d1 d2 d3 d4 d5 : Int) (a0 : Option Addr) (b2 a6 : Nat) (b8 b9 c0 c1 : Int) (a1 : Option Addr) (b3 a7 : Nat) (a2 : Option Addr) (b4 a8 bm1 : Nat) (d6 d7 d8 d9 e0 e1 e2 e3 e4 e5 : Int) (a3 : Option Addr) (b5 a9 : Nat) (c2 c3 c4 c5 : Int) (a4 : Option Addr) (b6 b0 : Nat) (a5 : Option Addr) (b7 b1 : Nat) (I : Nat → Int → World → Prop) (m : Nat) (vals : List Value) (mem : List TB) (w : World) : Prop := ∃ m', m' < m ∧ ∃ e6, vals = (ref18_Same_v1 e7 f1 e9 e8 f2 f0 bm0 bm1 e6) ∧ mem = (ref18_Same_m1 bm0 c6 c7 c8 c9 d0 d1 d2 d3 d4 d5 a0 b2 a6 b8 b9 c0 c1 a1 b3 a7 a2 b4 a8 bm1 d6 d7 d8 d9 e0 e1 e2 e3 e4 e5 a3 b5 a9 c2 c3 c4 c5 a4 b6 b0 a5 b7 b1) ∧ I m' e6 w
theorem ref18_Same_leaf1 {e6 : Option Addr} {f0 e8 : Nat} {e7 : Option Addr} {f1 e9 bm0 : Nat} {c6 c7 c8 c9 d0 d1 d2 d3 d4 d5 : Int} {a0 : Option Addr} {b2 a6 : Nat} {b8 b9 c0 c1 : Int} {a1 : Option Addr} {b3 a7 : Nat} {a2 : Option Addr} {b4 a8 bm1 : Nat} {d6 d7 d8 d9 e0 e1 e2 e3 e4 e5 : Int} {a3 : Option Addr} {b5 a9 : Nat} {c2 c3 c4 c5 : Int} {a4 : Option Addr} {b6 b0 : Nat} {a5 : Option Addr} {b7 b1 : Nat} {I : Nat → Int → World → Prop} {m : Nat} {f2 : Int} {w : World} (m' : Nat) (h1 : m' < m) (h2 : I m' f2 w) : ref18_Same_K1 e6 f0 e8 e7 f1 e9 bm0 c6 c7 c8 c9 d0 d1 d2 d3 d4 d5 a0 b2 a6 b8 b9 c0 c1 a1 b3 a7 a2 b4 a8 bm1 d6 d7 d8 d9 e0 e1 e2 e3 e4 e5 a3 b5 a9 c2 c3 c4 c5 a4 b6 b0 a5 b7 b1 I m (ref18_Same_v1 e6 f0 e8 e7 f1 e9 bm0 bm1 f2) (ref18_Same_m1 bm0 c6 c7 c8 c9 d0 d1 d2 d3 d4 d5 a0 b2 a6 b8 b9 c0 c1 a1 b3 a7 a2 b4 a8 bm1 d6 d7 d8 d9 e0 e1 e2 e3 e4 e5 a3 b5 a9 c2 c3 c4 c5 a4 b6 b0 a5 b7 b1) w := ⟨m', h1, _, rfl, rfl, h2⟩
theorem ref18_Same_rule1 {e7 : Option Addr} {f1 e9 : Nat} {e8 : Option Addr} {f2 f0 bm0 : Nat} {c6 c7 c8 c9 d0 d1 d2 d3 d4 d5 : Int} {a0 : Option Addr} {b2 a6 : Nat} {b8 b9 c0 c1 : Int} {a1 : Option Addr} {b3 a7 : Nat} {a2 : Option Addr} {b4 a8 bm1 : Nat} {d6 d7 d8 d9 e0 e1 e2 e3 e4 e5 : Int} {a3 : Option Addr} {b5 a9 : Nat} {c2 c3 c4 c5 : Int} {a4 : Option Addr} {b6 b0 : Nat} {a5 : Option Addr} {b7 b1 : Nat} {f3 : Int} {R : Value → World → Prop} {w0 : World} (I : Nat → Int → World → Prop) (m0 : Nat) (h0 : I m0 f3 w0)
 (hr : ∀ (m : Nat) (e6 : Int) (w : World), I m e6 w → ref18_Same_L1 e7 f1 e9 e8 f2 f0 bm0 c6 c7 c8 c9 d0 d1 d2 d3 d4 d5 a0 b2 a6 b8 b9 c0 c1 a1 b3 a7 a2 b4 a8 bm1 d6 d7 d8 d9 e0 e1 e2 e3 e4 e5 a3 b5 a9 c2 c3 c4 c5 a4 b6 b0 a5 b7 b1 e6 (ref18_Same_K1 e7 f1 e9 e8 f2 f0 bm0 c6 c7 c8 c9 d0 d1 d2 d3 d4 d5 a0 b2 a6 b8 b9 c0 c1 a1 b3 a7 a2 b4 a8 bm1 d6 d7 d8 d9 e0 e1 e2 e3 e4 e5 a3 b5 a9 c2 c3 c4 c5 a4 b6 b0 a5 b7 b1 I m) R w) :
 loopD3 ref18_Same_la1 (dnF Tryz.prog ref18_Same_an (code Tryz.f17) 396 [0, 0, 1, 0, 1, 1]) (kont3 Tryz.prog ref18_Same_an (code Tryz.f17) [1, 1, 0, 1, 0] [] (post3 Tryz.prog Tryz.f17 [] R)) (ref18_Same_v1 e7 f1 e9 e8 f2 f0 bm0 bm1 f3) (ref18_Same_m1 bm0 c6 c7 c8 c9 d0 d1 d2 d3 d4 d5 a0 b2 a6 b8 b9 c0 c1 a1 b3 a7 a2 b4 a8 bm1 d6 d7 d8 d9 e0 e1 e2 e3 e4 e5 a3 b5 a9 c2 c3 c4 c5 a4 b6 b0 a5 b7 b1) w0 := by
 refine ⟨fun m vals mem w => ∃ e6, vals = (ref18_Same_v1 e7 f1 e9 e8 f2 f0 bm0 bm1 e6) ∧ mem = (ref18_Same_m1 bm0 c6 c7 c8 c9 d0 d1 d2 d3 d4 d5 a0 b2 a6 b8 b9 c0 c1 a1 b3 a7 a2 b4 a8 bm1 d6 d7 d8 d9 e0 e1 e2 e3 e4 e5 a3 b5 a9 c2 c3 c4 c5 a4 b6 b0 a5 b7 b1) ∧ I m e6 w, m0, ⟨_, rfl, rfl, h0⟩, ?_⟩
 rintro m vals mem w ⟨e6, rfl, rfl, hI⟩
 refine ⟨rfl, rfl, fun js => ?_⟩
 have h := hr m e6 w hI
 rw [← ref18_Same_L1_eq _ _ _ _ _ _ _ _ _ _ _ _ _ _ _ _ _ _ _ _ _ _ _ _ _ _ _ _ _ _ _ _ _ _ _ _ _ _ _ _ _ _ _ _ _ _ _ _ _ _ _ _ _ _ _ _ js] at h
 exact h
def ref18_Same_T (e1 e2 e3 e4 e5 e6 e7 e8 e9 f0 : Int) (c8 : Option Addr) (d0 c9 : Nat) (d7 d8 d9 e0 : Int) (d1 : Option Addr) (d3 d2 : Nat) (d4 : Option Addr) (d6 d5 : Nat) (b7 b8 b9 c0 c1 c2 c3 c4 c5 c6 : Int) (a0 : Option Addr) (a2 a1 : Nat) (b3 b4 b5 b6 : Int) (a3 : Option Addr) (a6 a4 : Nat) (a7 : Option Addr) (b0 a8 : Nat) (R : Value → World → Prop) (w : World) : Prop :=
 ∀ b1, w.heap.size ≤ b1 →
 ∀ b2, w.heap.size ≤ b2 →
 ∀ w3, Adv [] [b2, b1] w w3 →
 Calls Tryz.prog 66 #[(.agg #[.int .i64 e1, .int .i64 e2, .int .i64 e3, .int .i64 e4, .int .i64 e5, .int .i64 e6, .int .i64 e7, .int .i64 e8, .int .i64 e9, .int .i64 f0, .slice c8 d0 c9, .int .i64 d7, .int .i64 d8, .int .i64 d9, .int .i64 e0, .slice d1 d3 d2, .slice d4 d6 d5])] w3 fun e w4 => ∃ (a5 : Option Addr) (n6 c7 : Nat), e = .returned (.slice a5 n6 c7) ∧ Keep [b1, b2] w3 w4 ∧ (((.agg #[.int .i64 b7, .int .i64 b8, .int .i64 b9, .int .i64 c0, .int .i64 c1, .int .i64 c2, .int .i64 c3, .int .i64 c4, .int .i64 c5, .int .i64 c6, .slice a0 a2 a1, .int .i64 b3, .int .i64 b4, .int .i64 b5, .int .i64 b6, .slice a3 a6 a4, .slice a7 b0 a8]) : Value) = (.agg #[.int .i64 b7, .int .i64 b8, .int .i64 b9, .int .i64 c0, .int .i64 c1, .int .i64 c2, .int .i64 c3, .int .i64 c4, .int .i64 c5, .int .i64 c6, .slice a0 a2 a1, .int .i64 b3, .int .i64 b4, .int .i64 b5, .int .i64 b6, .slice a3 a6 a4, .slice a7 b0 a8])) ∧
 Calls Tryz.prog 66 #[(.agg #[.int .i64 b7, .int .i64 b8, .int .i64 b9, .int .i64 c0, .int .i64 c1, .int .i64 c2, .int .i64 c3, .int .i64 c4, .int .i64 c5, .int .i64 c6, .slice a0 a2 a1, .int .i64 b3, .int .i64 b4, .int .i64 b5, .int .i64 b6, .slice a3 a6 a4, .slice a7 b0 a8])] w4 fun e w8 => ∃ (a9 : Option Addr) (n10 c11 : Nat), e = .returned (.slice a9 n10 c11) ∧ Keep [b1, b2] w4 w8 ∧
 loopD3 ref18_Same_la1 (dnF Tryz.prog ref18_Same_an (code Tryz.f17) 396 [0, 0, 1, 0, 1, 1]) (kont3 Tryz.prog ref18_Same_an (code Tryz.f17) [1, 1, 0, 1, 0] [] (post3 Tryz.prog Tryz.f17 [] R)) (ref18_Same_v1 a5 n6 c7 a9 n10 c11 b1 b2 0) (ref18_Same_m1 b1 e1 e2 e3 e4 e5 e6 e7 e8 e9 f0 c8 d0 c9 d7 d8 d9 e0 d1 d3 d2 d4 d6 d5 b2 b7 b8 b9 c0 c1 c2 c3 c4 c5 c6 a0 a2 a1 b3 b4 b5 b6 a3 a6 a4 a7 b0 a8) w8
theorem ref18_Same_eq (c6 c7 c8 c9 d0 d1 d2 d3 d4 d5 : Int) (a0 : Option Addr) (a2 a1 : Nat) (b8 b9 c0 c1 : Int) (a3 : Option Addr) (a5 a4 : Nat) (a6 : Option Addr) (a8 a7 : Nat) (d6 d7 d8 d9 e0 e1 e2 e3 e4 e5 : Int) (a9 : Option Addr) (b1 b0 : Nat) (c2 c3 c4 c5 : Int) (b2 : Option Addr) (b4 b3 : Nat) (b5 : Option Addr) (b7 b6 : Nat) (R : Value → World → Prop) (w : World) :
 dnF Tryz.prog ref18_Same_an (code Tryz.f17) 400 [] (post3 Tryz.prog Tryz.f17 [] R) ⟨args0 0 [(.agg #[.int .i64 c6, .int .i64 c7, .int .i64 c8, .int .i64 c9, .int .i64 d0, .int .i64 d1, .int .i64 d2, .int .i64 d3, .int .i64 d4, .int .i64 d5, .slice a0 a2 a1, .int .i64 b8, .int .i64 b9, .int .i64 c0, .int .i64 c1, .slice a3 a5 a4, .slice a6 a8 a7]), (.agg #[.int .i64 d6, .int .i64 d7, .int .i64 d8, .int .i64 d9, .int .i64 e0, .int .i64 e1, .int .i64 e2, .int .i64 e3, .int .i64 e4, .int .i64 e5, .slice a9 b1 b0, .int .i64 c2, .int .i64 c3, .int .i64 c4, .int .i64 c5, .slice b2 b4 b3, .slice b5 b7 b6])], fun _ => undef⟩ ⟨[], w, [], [], true⟩ = ref18_Same_T c6 c7 c8 c9 d0 d1 d2 d3 d4 d5 a0 a2 a1 b8 b9 c0 c1 a3 a5 a4 a6 a8 a7 d6 d7 d8 d9 e0 e1 e2 e3 e4 e5 a9 b1 b0 c2 c3 c4 c5 b2 b4 b3 b5 b7 b6 R w := by kernel_rfl
theorem ref18_Same_go {c6 c7 c8 c9 d0 d1 d2 d3 d4 d5 : Int} {a0 : Option Addr} {a2 a1 : Nat} {b8 b9 c0 c1 : Int} {a3 : Option Addr} {a5 a4 : Nat} {a6 : Option Addr} {a8 a7 : Nat} {d6 d7 d8 d9 e0 e1 e2 e3 e4 e5 : Int} {a9 : Option Addr} {b1 b0 : Nat} {c2 c3 c4 c5 : Int} {b2 : Option Addr} {b4 b3 : Nat} {b5 : Option Addr} {b7 b6 : Nat} {R : Value → World → Prop} {w : World} (h : ref18_Same_T c6 c7 c8 c9 d0 d1 d2 d3 d4 d5 a0 a2 a1 b8 b9 c0 c1 a3 a5 a4 a6 a8 a7 d6 d7 d8 d9 e0 e1 e2 e3 e4 e5 a9 b1 b0 c2 c3 c4 c5 b2 b4 b3 b5 b7 b6 R w) :
 Calls Tryz.prog 17 #[(.agg #[.int .i64 c6, .int .i64 c7, .int .i64 c8, .int .i64 c9, .int .i64 d0, .int .i64 d1, .int .i64 d2, .int .i64 d3, .int .i64 d4, .int .i64 d5, .slice a0 a2 a1, .int .i64 b8, .int .i64 b9, .int .i64 c0, .int .i64 c1, .slice a3 a5 a4, .slice a6 a8 a7]), (.agg #[.int .i64 d6, .int .i64 d7, .int .i64 d8, .int .i64 d9, .int .i64 e0, .int .i64 e1, .int .i64 e2, .int .i64 e3, .int .i64 e4, .int .i64 e5, .slice a9 b1 b0, .int .i64 c2, .int .i64 c3, .int .i64 c4, .int .i64 c5, .slice b2 b4 b3, .slice b5 b7 b6])] w fun e w' => ∃ v, e = .returned v ∧ R v w' :=
 calls_none Tryz.wide_mixed (f := 17) (args := [(.agg #[.int .i64 c6, .int .i64 c7, .int .i64 c8, .int .i64 c9, .int .i64 d0, .int .i64 d1, .int .i64 d2, .int .i64 d3, .int .i64 d4, .int .i64 d5, .slice a0 a2 a1, .int .i64 b8, .int .i64 b9, .int .i64 c0, .int .i64 c1, .slice a3 a5 a4, .slice a6 a8 a7]), (.agg #[.int .i64 d6, .int .i64 d7, .int .i64 d8, .int .i64 d9, .int .i64 e0, .int .i64 e1, .int .i64 e2, .int .i64 e3, .int .i64 e4, .int .i64 e5, .slice a9 b1 b0, .int .i64 c2, .int .i64 c3, .int .i64 c4, .int .i64 c5, .slice b2 b4 b3, .slice b5 b7 b6])]) Tryz.func17 rfl rfl (by kernel_rfl) rfl (Eq.mpr (ref18_Same_eq c6 c7 c8 c9 d0 d1 d2 d3 d4 d5 a0 a2 a1 b8 b9 c0 c1 a3 a5 a4 a6 a8 a7 d6 d7 d8 d9 e0 e1 e2 e3 e4 e5 a9 b1 b0 c2 c3 c4 c5 b2 b4 b3 b5 b7 b6 R w) h)
def ref18_All_la1 : LA := ⟨[0, 0, 1, 0, 1, 1], [0, 1, 5], [], 0, []⟩
def ref18_All_an : List LA := [ref18_All_la1]
def ref18_All_v1 (a0 : Option Addr) (a4 a2 : Nat) (a1 : Option Addr) (a5 a3 : Nat) (a6 : Int) : List Value := [.slice a0 a4 a2, .slice a1 a5 a3, .int .i64 a6]
def ref18_All_m1 : List TB := []
def ref18_All_L1 (a2 : Option Addr) (a1 a5 : Nat) (a3 : Option Addr) (a4 a6 : Nat) (a0 : Int) (K1 : Kh) (R : Value → World → Prop) (w : World) : Prop :=
 brB (decide (a0 < (a1 : Int))) (
 ixA a2 a1 a0 17 fun q1 =>
 ∀ w2, Adv [] [] w w2 →
 ldInt .i64 w2 q1 fun x3 => ldInt .i64 w2 (Addr.add q1 1) fun x4 => ldInt .i64 w2 (Addr.add q1 2) fun x5 => ldInt .i64 w2 (Addr.add q1 3) fun x6 => ldInt .i64 w2 (Addr.add q1 4) fun x7 => ldInt .i64 w2 (Addr.add q1 5) fun x8 => ldInt .i64 w2 (Addr.add q1 6) fun x9 => ldInt .i64 w2 (Addr.add q1 7) fun x10 => ldInt .i64 w2 (Addr.add q1 8) fun x11 => ldInt .i64 w2 (Addr.add q1 9) fun x12 => ldSlice w2 (Addr.add q1 10) fun a13 n14 c15 => ldInt .i64 w2 (Addr.add q1 11) fun x16 => ldInt .i64 w2 (Addr.add q1 12) fun x17 => ldInt .i64 w2 (Addr.add q1 13) fun x18 => ldInt .i64 w2 (Addr.add q1 14) fun x19 => ldSlice w2 (Addr.add q1 15) fun a20 n21 c22 => ldSlice w2 (Addr.add q1 16) fun a23 n24 c25 =>
 ixA a3 a4 a0 17 fun q26 =>
 ldInt .i64 w2 q26 fun x27 => ldInt .i64 w2 (Addr.add q26 1) fun x28 => ldInt .i64 w2 (Addr.add q26 2) fun x29 => ldInt .i64 w2 (Addr.add q26 3) fun x30 => ldInt .i64 w2 (Addr.add q26 4) fun x31 => ldInt .i64 w2 (Addr.add q26 5) fun x32 => ldInt .i64 w2 (Addr.add q26 6) fun x33 => ldInt .i64 w2 (Addr.add q26 7) fun x34 => ldInt .i64 w2 (Addr.add q26 8) fun x35 => ldInt .i64 w2 (Addr.add q26 9) fun x36 => ldSlice w2 (Addr.add q26 10) fun a37 n38 c39 => ldInt .i64 w2 (Addr.add q26 11) fun x40 => ldInt .i64 w2 (Addr.add q26 12) fun x41 => ldInt .i64 w2 (Addr.add q26 13) fun x42 => ldInt .i64 w2 (Addr.add q26 14) fun x43 => ldSlice w2 (Addr.add q26 15) fun a44 n45 c46 => ldSlice w2 (Addr.add q26 16) fun a47 n48 c49 =>
 Calls Tryz.prog 17 #[(.agg #[.int .i64 x3, .int .i64 x4, .int .i64 x5, .int .i64 x6, .int .i64 x7, .int .i64 x8, .int .i64 x9, .int .i64 x10, .int .i64 x11, .int .i64 x12, .slice a13 n14 c15, .int .i64 x16, .int .i64 x17, .int .i64 x18, .int .i64 x19, .slice a20 n21 c22, .slice a23 n24 c25]), (.agg #[.int .i64 x27, .int .i64 x28, .int .i64 x29, .int .i64 x30, .int .i64 x31, .int .i64 x32, .int .i64 x33, .int .i64 x34, .int .i64 x35, .int .i64 x36, .slice a37 n38 c39, .int .i64 x40, .int .i64 x41, .int .i64 x42, .int .i64 x43, .slice a44 n45 c46, .slice a47 n48 c49])] w2 fun e w50 => ∃ t51 : Bool, e = .returned (.bool t51) ∧
 brB (!t51) (
 R (.bool false) w50)
 (
 K1 (ref18_All_v1 a2 a1 a5 a3 a4 a6 (IntKind.wrap .i64 (a0 + 1))) (ref18_All_m1) w50))
 (
 R (.bool true) w)
theorem ref18_All_L1_eq (a0 : Option Addr) (a4 a2 : Nat) (a1 : Option Addr) (a5 a3 : Nat) (a6 : Int) (K1 : Kh) (js : Nat → Value) (R : Value → World → Prop) (w : World) :
 headA ref18_All_la1 ((dnF Tryz.prog ref18_All_an (code Tryz.f19) 396 [0, 0, 1, 0, 1, 1]) (kthen3 (atA ref18_All_la1 K1) (kont3 Tryz.prog ref18_All_an (code Tryz.f19) [1, 1, 0, 1, 0] [] (post3 Tryz.prog Tryz.f19 [] R)))) (ref18_All_v1 a0 a4 a2 a1 a5 a3 a6) js (ref18_All_m1) w = ref18_All_L1 a0 a4 a2 a1 a5 a3 a6 K1 R w := by kernel_rfl
def ref18_All_K1 (a1 : Option Addr) (a5 a3 : Nat) (a2 : Option Addr) (a6 a4 : Nat) (I : Nat → Int → World → Prop) (m : Nat) (vals : List Value) (mem : List TB) (w : World) : Prop := ∃ m', m' < m ∧ ∃ a0, vals = (ref18_All_v1 a1 a5 a3 a2 a6 a4 a0) ∧ mem = (ref18_All_m1) ∧ I m' a0 w
theorem ref18_All_leaf1 {a0 : Option Addr} {a4 a2 : Nat} {a1 : Option Addr} {a5 a3 : Nat} {I : Nat → Int → World → Prop} {m : Nat} {a6 : Int} {w : World} (m' : Nat) (h1 : m' < m) (h2 : I m' a6 w) : ref18_All_K1 a0 a4 a2 a1 a5 a3 I m (ref18_All_v1 a0 a4 a2 a1 a5 a3 a6) (ref18_All_m1) w := ⟨m', h1, _, rfl, rfl, h2⟩
theorem ref18_All_rule1 {a1 : Option Addr} {a5 a3 : Nat} {a2 : Option Addr} {a6 a4 : Nat} {a7 : Int} {R : Value → World → Prop} {w0 : World} (I : Nat → Int → World → Prop) (m0 : Nat) (h0 : I m0 a7 w0)
 (hr : ∀ (m : Nat) (a0 : Int) (w : World), I m a0 w → ref18_All_L1 a1 a5 a3 a2 a6 a4 a0 (ref18_All_K1 a1 a5 a3 a2 a6 a4 I m) R w) :
 loopD3 ref18_All_la1 (dnF Tryz.prog ref18_All_an (code Tryz.f19) 396 [0, 0, 1, 0, 1, 1]) (kont3 Tryz.prog ref18_All_an (code Tryz.f19) [1, 1, 0, 1, 0] [] (post3 Tryz.prog Tryz.f19 [] R)) (ref18_All_v1 a1 a5 a3 a2 a6 a4 a7) (ref18_All_m1) w0 := by
 refine ⟨fun m vals mem w => ∃ a0, vals = (ref18_All_v1 a1 a5 a3 a2 a6 a4 a0) ∧ mem = (ref18_All_m1) ∧ I m a0 w, m0, ⟨_, rfl, rfl, h0⟩, ?_⟩
 rintro m vals mem w ⟨a0, rfl, rfl, hI⟩
 refine ⟨rfl, rfl, fun js => ?_⟩
 have h := hr m a0 w hI
 rw [← ref18_All_L1_eq _ _ _ _ _ _ _ _ js] at h
 exact h
def ref18_All_T (a2 : Option Addr) (a0 a3 : Nat) (a4 : Option Addr) (a1 a5 : Nat) (R : Value → World → Prop) (w : World) : Prop :=
 brB ((a0 : Int) != (a1 : Int)) (
 R (.bool false) w)
 (
 loopD3 ref18_All_la1 (dnF Tryz.prog ref18_All_an (code Tryz.f19) 396 [0, 0, 1, 0, 1, 1]) (kont3 Tryz.prog ref18_All_an (code Tryz.f19) [1, 1, 0, 1, 0] [] (post3 Tryz.prog Tryz.f19 [] R)) (ref18_All_v1 a2 a0 a3 a4 a1 a5 0) (ref18_All_m1) w)
theorem ref18_All_eq (a0 : Option Addr) (a2 a1 : Nat) (a3 : Option Addr) (a5 a4 : Nat) (R : Value → World → Prop) (w : World) :
 dnF Tryz.prog ref18_All_an (code Tryz.f19) 400 [] (post3 Tryz.prog Tryz.f19 [] R) ⟨args0 0 [.slice a0 a2 a1, .slice a3 a5 a4], fun _ => undef⟩ ⟨[], w, [], [], true⟩ = ref18_All_T a0 a2 a1 a3 a5 a4 R w := by kernel_rfl
theorem ref18_All_go {a0 : Option Addr} {a2 a1 : Nat} {a3 : Option Addr} {a5 a4 : Nat} {R : Value → World → Prop} {w : World} (h : ref18_All_T a0 a2 a1 a3 a5 a4 R w) :
 Calls Tryz.prog 19 #[.slice a0 a2 a1, .slice a3 a5 a4] w fun e w' => ∃ v, e = .returned v ∧ R v w' :=
 calls_none Tryz.wide_mixed (f := 19) (args := [.slice a0 a2 a1, .slice a3 a5 a4]) Tryz.func19 rfl rfl (by kernel_rfl) rfl (Eq.mpr (ref18_All_eq a0 a2 a1 a3 a5 a4 R w) h)
def ref16_Same_la1 : LA := ⟨[0, 0, 1, 0, 1, 1], [0, 1, 5], [], 0, []⟩
def ref16_Same_an : List LA := [ref16_Same_la1]
def ref16_Same_v1 (a0 : Option Addr) (a4 a2 : Nat) (a1 : Option Addr) (a5 a3 : Nat) (a6 : Int) : List Value := [.slice a0 a4 a2, .slice a1 a5 a3, .int .i64 a6]
def ref16_Same_m1 : List TB := []
def ref16_Same_L1 (a2 : Option Addr) (a1 a5 : Nat) (a3 : Option Addr) (a4 a6 : Nat) (a0 : Int) (K1 : Kh) (R : Value → World → Prop) (w : World) : Prop :=
 brB (decide (a0 < (a1 : Int))) (
 ixA a2 a1 a0 16 fun q1 =>
 ∀ w2, Adv [] [] w w2 →
 ldInt .i64 w2 q1 fun x3 =>
 ixA a3 a4 a0 16 fun q4 =>
 ldInt .i64 w2 q4 fun x5 =>
 brB (x3 != x5) (
 R (.bool false) w2)
 (
 ixA a2 a1 a0 16 fun q6 =>
 ldInt .i64 w2 (Addr.add q6 1) fun x7 =>
 ixA a3 a4 a0 16 fun q8 =>
 ldInt .i64 w2 (Addr.add q8 1) fun x9 =>
 brB (x7 != x9) (
 R (.bool false) w2)
 (
 ixA a2 a1 a0 16 fun q10 =>
 ldInt .i64 w2 (Addr.add q10 2) fun x11 => ldStr w2 (Addr.add (Addr.add q10 2) 1) fun s12 => ldInt .i64 w2 (Addr.add (Addr.add q10 2) 2) fun x13 => ldInt .i64 w2 (Addr.add (Addr.add q10 2) 3) fun x14 => ldInt .i64 w2 (Addr.add (Addr.add q10 2) 4) fun x15 => ldInt .i64 w2 (Addr.add (Addr.add q10 2) 5) fun x16 => ldInt .i64 w2 (Addr.add (Addr.add q10 2) 6) fun x17 => ldInt .i64 w2 (Addr.add (Addr.add q10 2) 7) fun x18 => ldSlice w2 (Addr.add (Addr.add q10 2) 8) fun a19 n20 c21 => ldStr w2 (Addr.add (Addr.add q10 2) 9) fun s22 => ldStr w2 (Addr.add (Addr.add q10 2) 10) fun s23 => ldInt .i64 w2 (Addr.add (Addr.add q10 2) 11) fun x24 => ldBool w2 (Addr.add (Addr.add q10 2) 12) fun t25 => ldSlice w2 (Addr.add (Addr.add q10 2) 13) fun a26 n27 c28 =>
 ixA a3 a4 a0 16 fun q29 =>
 ldInt .i64 w2 (Addr.add q29 2) fun x30 => ldStr w2 (Addr.add (Addr.add q29 2) 1) fun s31 => ldInt .i64 w2 (Addr.add (Addr.add q29 2) 2) fun x32 => ldInt .i64 w2 (Addr.add (Addr.add q29 2) 3) fun x33 => ldInt .i64 w2 (Addr.add (Addr.add q29 2) 4) fun x34 => ldInt .i64 w2 (Addr.add (Addr.add q29 2) 5) fun x35 => ldInt .i64 w2 (Addr.add (Addr.add q29 2) 6) fun x36 => ldInt .i64 w2 (Addr.add (Addr.add q29 2) 7) fun x37 => ldSlice w2 (Addr.add (Addr.add q29 2) 8) fun a38 n39 c40 => ldStr w2 (Addr.add (Addr.add q29 2) 9) fun s41 => ldStr w2 (Addr.add (Addr.add q29 2) 10) fun s42 => ldInt .i64 w2 (Addr.add (Addr.add q29 2) 11) fun x43 => ldBool w2 (Addr.add (Addr.add q29 2) 12) fun t44 => ldSlice w2 (Addr.add (Addr.add q29 2) 13) fun a45 n46 c47 =>
 Calls Tryz.prog 74 #[(.agg #[.int .i64 x11, .string s12, .int .i64 x13, .int .i64 x14, .int .i64 x15, .int .i64 x16, .int .i64 x17, .int .i64 x18, .slice a19 n20 c21, .string s22, .string s23, .int .i64 x24, .bool t25, .slice a26 n27 c28]), (.agg #[.int .i64 x30, .string s31, .int .i64 x32, .int .i64 x33, .int .i64 x34, .int .i64 x35, .int .i64 x36, .int .i64 x37, .slice a38 n39 c40, .string s41, .string s42, .int .i64 x43, .bool t44, .slice a45 n46 c47])] w2 fun e w48 => ∃ t49 : Bool, e = .returned (.bool t49) ∧
 brB (!t49) (
 R (.bool false) w48)
 (
 K1 (ref16_Same_v1 a2 a1 a5 a3 a4 a6 (IntKind.wrap .i64 (a0 + 1))) (ref16_Same_m1) w48))))
 (
 R (.bool true) w)
theorem ref16_Same_L1_eq (a0 : Option Addr) (a4 a2 : Nat) (a1 : Option Addr) (a5 a3 : Nat) (a6 : Int) (K1 : Kh) (js : Nat → Value) (R : Value → World → Prop) (w : World) :
 headA ref16_Same_la1 ((dnF Tryz.prog ref16_Same_an (code Tryz.f28) 396 [0, 0, 1, 0, 1, 1]) (kthen3 (atA ref16_Same_la1 K1) (kont3 Tryz.prog ref16_Same_an (code Tryz.f28) [1, 1, 0, 1, 0] [] (post3 Tryz.prog Tryz.f28 [] R)))) (ref16_Same_v1 a0 a4 a2 a1 a5 a3 a6) js (ref16_Same_m1) w = ref16_Same_L1 a0 a4 a2 a1 a5 a3 a6 K1 R w := by kernel_rfl
def ref16_Same_K1 (a1 : Option Addr) (a5 a3 : Nat) (a2 : Option Addr) (a6 a4 : Nat) (I : Nat → Int → World → Prop) (m : Nat) (vals : List Value) (mem : List TB) (w : World) : Prop := ∃ m', m' < m ∧ ∃ a0, vals = (ref16_Same_v1 a1 a5 a3 a2 a6 a4 a0) ∧ mem = (ref16_Same_m1) ∧ I m' a0 w
theorem ref16_Same_leaf1 {a0 : Option Addr} {a4 a2 : Nat} {a1 : Option Addr} {a5 a3 : Nat} {I : Nat → Int → World → Prop} {m : Nat} {a6 : Int} {w : World} (m' : Nat) (h1 : m' < m) (h2 : I m' a6 w) : ref16_Same_K1 a0 a4 a2 a1 a5 a3 I m (ref16_Same_v1 a0 a4 a2 a1 a5 a3 a6) (ref16_Same_m1) w := ⟨m', h1, _, rfl, rfl, h2⟩
theorem ref16_Same_rule1 {a1 : Option Addr} {a5 a3 : Nat} {a2 : Option Addr} {a6 a4 : Nat} {a7 : Int} {R : Value → World → Prop} {w0 : World} (I : Nat → Int → World → Prop) (m0 : Nat) (h0 : I m0 a7 w0)
 (hr : ∀ (m : Nat) (a0 : Int) (w : World), I m a0 w → ref16_Same_L1 a1 a5 a3 a2 a6 a4 a0 (ref16_Same_K1 a1 a5 a3 a2 a6 a4 I m) R w) :
 loopD3 ref16_Same_la1 (dnF Tryz.prog ref16_Same_an (code Tryz.f28) 396 [0, 0, 1, 0, 1, 1]) (kont3 Tryz.prog ref16_Same_an (code Tryz.f28) [1, 1, 0, 1, 0] [] (post3 Tryz.prog Tryz.f28 [] R)) (ref16_Same_v1 a1 a5 a3 a2 a6 a4 a7) (ref16_Same_m1) w0 := by
 refine ⟨fun m vals mem w => ∃ a0, vals = (ref16_Same_v1 a1 a5 a3 a2 a6 a4 a0) ∧ mem = (ref16_Same_m1) ∧ I m a0 w, m0, ⟨_, rfl, rfl, h0⟩, ?_⟩
 rintro m vals mem w ⟨a0, rfl, rfl, hI⟩
 refine ⟨rfl, rfl, fun js => ?_⟩
 have h := hr m a0 w hI
 rw [← ref16_Same_L1_eq _ _ _ _ _ _ _ _ js] at h
 exact h
def ref16_Same_T (a2 : Option Addr) (a0 a3 : Nat) (a4 : Option Addr) (a1 a5 : Nat) (R : Value → World → Prop) (w : World) : Prop :=
 brB ((a0 : Int) != (a1 : Int)) (
 R (.bool false) w)
 (
 loopD3 ref16_Same_la1 (dnF Tryz.prog ref16_Same_an (code Tryz.f28) 396 [0, 0, 1, 0, 1, 1]) (kont3 Tryz.prog ref16_Same_an (code Tryz.f28) [1, 1, 0, 1, 0] [] (post3 Tryz.prog Tryz.f28 [] R)) (ref16_Same_v1 a2 a0 a3 a4 a1 a5 0) (ref16_Same_m1) w)
theorem ref16_Same_eq (a0 : Option Addr) (a2 a1 : Nat) (a3 : Option Addr) (a5 a4 : Nat) (R : Value → World → Prop) (w : World) :
 dnF Tryz.prog ref16_Same_an (code Tryz.f28) 400 [] (post3 Tryz.prog Tryz.f28 [] R) ⟨args0 0 [.slice a0 a2 a1, .slice a3 a5 a4], fun _ => undef⟩ ⟨[], w, [], [], true⟩ = ref16_Same_T a0 a2 a1 a3 a5 a4 R w := by kernel_rfl
theorem ref16_Same_go {a0 : Option Addr} {a2 a1 : Nat} {a3 : Option Addr} {a5 a4 : Nat} {R : Value → World → Prop} {w : World} (h : ref16_Same_T a0 a2 a1 a3 a5 a4 R w) :
 Calls Tryz.prog 28 #[.slice a0 a2 a1, .slice a3 a5 a4] w fun e w' => ∃ v, e = .returned v ∧ R v w' :=
 calls_none Tryz.wide_mixed (f := 28) (args := [.slice a0 a2 a1, .slice a3 a5 a4]) Tryz.func28 rfl rfl (by kernel_rfl) rfl (Eq.mpr (ref16_Same_eq a0 a2 a1 a3 a5 a4 R w) h)
def quorum_may_an : List LA := []
def quorum_may_T (a0 : Int) (R : Value → World → Prop) (w : World) : Prop :=
 brB (decide (a0 ≥ 1)) (
 R (.bool (decide (a0 ≤ 7))) w)
 (
 R (.bool false) w)
theorem quorum_may_eq (a0 : Int) (R : Value → World → Prop) (w : World) :
 dnF Tryz.prog quorum_may_an (code Tryz.f102) 400 [] (post3 Tryz.prog Tryz.f102 [] R) ⟨args0 0 [.int .i64 a0], fun _ => undef⟩ ⟨[], w, [], [], true⟩ = quorum_may_T a0 R w := by kernel_rfl
theorem quorum_may_go {a0 : Int} {R : Value → World → Prop} {w : World} (h : quorum_may_T a0 R w) :
 Calls Tryz.prog 102 #[.int .i64 a0] w fun e w' => ∃ v, e = .returned v ∧ R v w' :=
 calls_none Tryz.wide_mixed (f := 102) (args := [.int .i64 a0]) Tryz.func102 rfl rfl (by kernel_rfl) rfl (Eq.mpr (quorum_may_eq a0 R w) h)
def quorum_Need_an : List LA := []
def quorum_Need_T (a0 : Int) (R : Value → World → Prop) (w : World) : Prop :=
 Calls Tryz.prog 102 #[.int .i64 a0] w fun e w1 => ∃ t2 : Bool, e = .returned (.bool t2) ∧
 brB (!t2) (
 R (.int .i64 0) w1)
 (nz 2 (
 R (.int .i64 (IntKind.wrap .i64 ((IntKind.wrap .i64 (Int.tdiv a0 2)) + 1))) w1))
theorem quorum_Need_eq (a0 : Int) (R : Value → World → Prop) (w : World) :
 dnF Tryz.prog quorum_Need_an (code Tryz.f56) 400 [] (post3 Tryz.prog Tryz.f56 [] R) ⟨args0 0 [.int .i64 a0], fun _ => undef⟩ ⟨[], w, [], [], true⟩ = quorum_Need_T a0 R w := by kernel_rfl
theorem quorum_Need_go {a0 : Int} {R : Value → World → Prop} {w : World} (h : quorum_Need_T a0 R w) :
 Calls Tryz.prog 56 #[.int .i64 a0] w fun e w' => ∃ v, e = .returned v ∧ R v w' :=
 calls_none Tryz.wide_mixed (f := 56) (args := [.int .i64 a0]) Tryz.func56 rfl rfl (by kernel_rfl) rfl (Eq.mpr (quorum_Need_eq a0 R w) h)
def quorum_Primary_an : List LA := []
def quorum_Primary_T (a1 a0 : Int) (R : Value → World → Prop) (w : World) : Prop :=
 Calls Tryz.prog 102 #[.int .i64 a0] w fun e w1 => ∃ t2 : Bool, e = .returned (.bool t2) ∧
 brB (!t2) (
 R (.int .i64 (-1)) w1)
 (
 brB (decide (a1 < 0)) (
 R (.int .i64 (-1)) w1)
 (nz a0 (
 R (.int .i64 (Int.tmod a1 a0)) w1)))
theorem quorum_Primary_eq (a1 a0 : Int) (R : Value → World → Prop) (w : World) :
 dnF Tryz.prog quorum_Primary_an (code Tryz.f62) 400 [] (post3 Tryz.prog Tryz.f62 [] R) ⟨args0 0 [.int .i64 a1, .int .i64 a0], fun _ => undef⟩ ⟨[], w, [], [], true⟩ = quorum_Primary_T a1 a0 R w := by kernel_rfl
theorem quorum_Primary_go {a1 a0 : Int} {R : Value → World → Prop} {w : World} (h : quorum_Primary_T a1 a0 R w) :
 Calls Tryz.prog 62 #[.int .i64 a1, .int .i64 a0] w fun e w' => ∃ v, e = .returned v ∧ R v w' :=
 calls_none Tryz.wide_mixed (f := 62) (args := [.int .i64 a1, .int .i64 a0]) Tryz.func62 rfl rfl (by kernel_rfl) rfl (Eq.mpr (quorum_Primary_eq a1 a0 R w) h)

end Go.Proofs.YtohgihgddknmmaaGreat

/- Calls and messages: of one's own. -/
namespace Go.Proofs.YtohgihgddknmmaaGreat
open Go Go.RowKit
set_option linter.unusedVariables false
set_option linter.unusedSimpArgs false

/-- A call as it is held: where its lists lie. -/
structure CV where
  x : PCall
  rs : Sl
  ts : Sl
def CV.cs (q : CV) : List Value := [.int .i64 q.x.c, .int .i64 q.x.n, .int .i64 q.x.op.kind, .string q.x.op.part.t, .int .i64 q.x.op.part.n, .int .i64 q.x.op.n, .int .i64 q.x.op.off, .int .i64 q.x.op.b.prod, .int .i64 q.x.op.b.epoch, .int .i64 q.x.op.b.seq, .slice q.rs.a q.rs.n q.rs.c, .string q.x.op.g, .string q.x.op.m, .int .i64 q.x.op.gen, .bool q.x.op.robin, .slice q.ts.a q.ts.n q.ts.c]
def CV.v (q : CV) : Value := .agg #[.int .i64 q.x.c, .int .i64 q.x.n, .int .i64 q.x.op.kind, .string q.x.op.part.t, .int .i64 q.x.op.part.n, .int .i64 q.x.op.n, .int .i64 q.x.op.off, .int .i64 q.x.op.b.prod, .int .i64 q.x.op.b.epoch, .int .i64 q.x.op.b.seq, .slice q.rs.a q.rs.n q.rs.c, .string q.x.op.g, .string q.x.op.m, .int .i64 q.x.op.gen, .bool q.x.op.robin, .slice q.ts.a q.ts.n q.ts.c]
theorem CV.cs_len (q : CV) : q.cs.length = 16 := rfl
theorem CV.cs_one (q : CV) : ∀ u ∈ q.cs, u.oneCell' = true := by simp [CV.cs, Value.oneCell']
structure PMail where
  kind : Int
  fr : Int
  to : Int
  view : Int
  normal : Int
  last : Int
  commit : Int
  nonce : Int
  base : Int
  n : Int
  calls : List PCall
  r : PRep
  deriving DecidableEq
def PMail.v (m : PMail) (s f p : Sl) : Value := .agg #[.int .i64 m.kind, .int .i64 m.fr, .int .i64 m.to, .int .i64 m.view, .int .i64 m.normal, .int .i64 m.last, .int .i64 m.commit, .int .i64 m.nonce, .int .i64 m.base, .int .i64 m.n, .slice s.a s.n s.c, .int .i64 m.r.e, .int .i64 m.r.off, .int .i64 m.r.n, .int .i64 m.r.gen, .slice f.a f.n f.c, .slice p.a p.n p.c]
def PMail.cs (m : PMail) (s f p : Sl) : List Value := [.int .i64 m.kind, .int .i64 m.fr, .int .i64 m.to, .int .i64 m.view, .int .i64 m.normal, .int .i64 m.last, .int .i64 m.commit, .int .i64 m.nonce, .int .i64 m.base, .int .i64 m.n, .slice s.a s.n s.c, .int .i64 m.r.e, .int .i64 m.r.off, .int .i64 m.r.n, .int .i64 m.r.gen, .slice f.a f.n f.c, .slice p.a p.n p.c]
def rep00 : PRep := ⟨0, 0, 0, 0, [], []⟩
def mail0 : PMail := ⟨0, 0, 0, 0, 0, 0, 0, 0, 0, 0, [], rep00⟩
def CallsAt (w : World) (s : Sl) (xs : List PCall) : Prop := ∃ ll : List CV, SlAt w 16 CV.cs s.a s.n ll ∧ (∀ q ∈ ll, OpAt w q.x.op q.rs q.ts) ∧ ll.map (·.x) = xs
def CallsOwn (w : World) (base : Nat) (s : Sl) (xs : List PCall) : Prop := ∃ ll : List CV, Row w base 57 16 CV.cs s.a s.n s.c ll ∧ (∀ q ∈ ll, OpOwn w base q.x.op q.rs q.ts) ∧ ll.map (·.x) = xs
theorem CallsOwn.at {w : World} {base : Nat} {s : Sl} {xs : List PCall} (h : CallsOwn w base s xs) : CallsAt w s xs := by
  obtain ⟨ll, h1, h2, h3⟩ := h; exact ⟨ll, h1.sl CV.cs_len, fun q hq => (h2 q hq).at, h3⟩
theorem CallsAt.keep0 {w w' : World} {s : Sl} {xs : List PCall} (h : CallsAt w s xs) (M : Mod [] w w') : CallsAt w' s xs := by
  obtain ⟨ll, h1, h2, h3⟩ := h; exact ⟨ll, h1.keep0 M, fun q hq => (h2 q hq).keep0 M, h3⟩
theorem CallsOwn.keep0 {w w' : World} {base : Nat} {s : Sl} {xs : List PCall} (h : CallsOwn w base s xs) (M : Mod [] w w') : CallsOwn w' base s xs := by
  obtain ⟨ll, h1, h2, h3⟩ := h; exact ⟨ll, h1.keep0 M, fun q hq => (h2 q hq).keep0 M, h3⟩
theorem CallsOwn.rebase {w : World} {base base' : Nat} {s : Sl} {xs : List PCall} (h : CallsOwn w base s xs) (hb : base' ≤ base) : CallsOwn w base' s xs := by
  obtain ⟨ll, h1, h2, h3⟩ := h; exact ⟨ll, h1.rebase hb, fun q hq => (h2 q hq).rebase hb, h3⟩
structure MailAt (w : World) (m : PMail) (s f p : Sl) : Prop where
  calls : CallsAt w s m.calls
  rep : RepAt w m.r f p
structure MailOwn (w : World) (base : Nat) (m : PMail) (s f p : Sl) : Prop where
  calls : CallsOwn w base s m.calls
  rep : RepOwn w base m.r f p
theorem MailOwn.at {w : World} {base : Nat} {m : PMail} {s f p : Sl} (h : MailOwn w base m s f p) : MailAt w m s f p := ⟨h.calls.at, h.rep.at⟩
theorem MailAt.keep0 {w w' : World} {m : PMail} {s f p : Sl} (h : MailAt w m s f p) (M : Mod [] w w') : MailAt w' m s f p := ⟨h.calls.keep0 M, h.rep.keep0 M⟩
theorem MailOwn.keep0 {w w' : World} {base : Nat} {m : PMail} {s f p : Sl} (h : MailOwn w base m s f p) (M : Mod [] w w') : MailOwn w' base m s f p := ⟨h.calls.keep0 M, h.rep.keep0 M⟩
theorem MailOwn.rebase {w : World} {base base' : Nat} {m : PMail} {s f p : Sl} (h : MailOwn w base m s f p) (hb : base' ≤ base) : MailOwn w base' m s f p := ⟨h.calls.rebase hb, h.rep.rebase hb⟩
theorem OpOwn.keep {S : List Nat} {w w' : World} {base : Nat} {o : POp} {rs ts : Sl} (h : OpOwn w base o rs ts) (M : Mod S w w') (hS : ∀ k ∈ S, ∀ cs T, w.heap[k]? = some (.cells cs T) → T ≠ 149 ∧ T ≠ 9) : OpOwn w' base o rs ts :=
  ⟨h.recs.keep M fun ad ha hk => by obtain ⟨_, cur, hc⟩ := h.recs.block ad ha; exact (hS _ hk _ _ hc).1 rfl,
   h.topics.keep M fun ad ha hk => by obtain ⟨_, cur, hc⟩ := h.topics.block ad ha; exact (hS _ hk _ _ hc).2 rfl, h.lr, h.lt⟩
/-- A new variable was written: older rows stand. -/
theorem OpOwn.keepB {S : List Nat} {w w' : World} {base : Nat} {o : POp} {rs ts : Sl} (h : OpOwn w base o rs ts) (M : Mod S w w') (hS : ∀ k ∈ S, k < base) : OpOwn w' base o rs ts :=
  ⟨h.recs.keep M fun ad ha hk => by have := h.recs.base ad ha; have := hS _ hk; omega, h.topics.keep M fun ad ha hk => by have := h.topics.base ad ha; have := hS _ hk; omega, h.lr, h.lt⟩
theorem RepOwn.keepB {S : List Nat} {w w' : World} {base : Nat} {r : PRep} {f p : Sl} (h : RepOwn w base r f p) (M : Mod S w w') (hS : ∀ k ∈ S, k < base) : RepOwn w' base r f p :=
  ⟨h.found.keep M fun ad ha hk => by have := h.found.base ad ha; have := hS _ hk; omega, h.parts.keep M fun ad ha hk => by have := h.parts.base ad ha; have := hS _ hk; omega, h.lf, h.lp⟩
theorem CallsOwn.keepB {S : List Nat} {w w' : World} {base : Nat} {s : Sl} {xs : List PCall} (h : CallsOwn w base s xs) (M : Mod S w w') (hS : ∀ k ∈ S, k < base) : CallsOwn w' base s xs := by
  obtain ⟨ll, h1, h2, h3⟩ := h
  exact ⟨ll, h1.keep M fun ad ha hk => by have := h1.base ad ha; have := hS _ hk; omega, fun q hq => (h2 q hq).keepB M hS, h3⟩
theorem MailOwn.keepB {S : List Nat} {w w' : World} {base : Nat} {m : PMail} {s f p : Sl} (h : MailOwn w base m s f p) (M : Mod S w w') (hS : ∀ k ∈ S, k < base) : MailOwn w' base m s f p := ⟨h.calls.keepB M hS, h.rep.keepB M hS⟩
theorem infoR : (Tryz.prog.info? 149).map (fun i => (i.zero, i.size, i.bytes)) = some (some (.agg #[.bool false, .string ByteArray.empty, .bool false, .string ByteArray.empty]), 4, 48) := by kernel_rfl
theorem infoS : (Tryz.prog.info? 9).map (fun i => (i.zero, i.size, i.bytes)) = some (some (.string ByteArray.empty), 1, 16) := by kernel_rfl
def cv0 : CV := ⟨⟨0, 0, op0⟩, nilS, nilS⟩
theorem infoCall : (Tryz.prog.info? 57).map (fun i => (i.zero, i.size, i.bytes)) = some (some (.agg #[.int .i64 0, .int .i64 0, .int .i64 0, .string ByteArray.empty, .int .i64 0, .int .i64 0, .int .i64 0, .int .i64 0, .int .i64 0, .int .i64 0, .slice none 0 0, .string ByteArray.empty, .string ByteArray.empty, .int .i64 0, .bool false, .slice none 0 0]), 16, 184) := by kernel_rfl
theorem CloneS_ok {w : World} {s : Sl} {l : List ByteArray} (h : SlAt w 1 encS s.a s.n l) (hl : l.length ≤ 1000000) :
    Calls Tryz.prog 115 #[.slice s.a s.n s.c] w fun e w' => ∃ v, e = .returned v ∧ ∃ s' : Sl, v = .slice s'.a s'.n s'.c ∧ Row w' w.heap.size 9 1 encS s'.a s'.n s'.c l ∧ Mod [] w w' := by
  refine slices_Clone_string_string_go ?_
  refine brB_of (fun h0 => ?_) fun _ => ?_
  · have hl0 : l = [] := by
      cases l with
      | nil => rfl
      | cons x r => obtain ⟨ad, ha, _⟩ := h.2 0 x rfl; rw [ha] at h0; cases h0
    subst hl0
    exact ⟨⟨none, 0, 0⟩, rfl, Row.nil .., Mod.refl _⟩
  · refine al_of fun b w1 c1 M1 f1 => ?_
    obtain ⟨i0, hi, hz0, hz1, hz2⟩ := info_parts infoS
    refine appendAll_of (Row.fresh c1 f1) Tryz.underlying36 hi hz0 hz1 hz2 rfl (by decide) (h.keep0 M1) encS_len encS_one (by simp; omega) (by simp; unfold maxLen; omega) M1.size fun a' n' c' w2 hR hM => ?_
    exact ⟨⟨a', n', c'⟩, rfl, by simpa using hR, M1.go0 (hM [b] (by simp)) (by simpa using f1)⟩

theorem CloneR_ok {w : World} {s : Sl} {l : List PRec} (h : SlAt w 4 encR s.a s.n l) (hl : l.length ≤ 1000000) :
    Calls Tryz.prog 116 #[.slice s.a s.n s.c] w fun e w' => ∃ v, e = .returned v ∧ ∃ s' : Sl, v = .slice s'.a s'.n s'.c ∧ Row w' w.heap.size 149 4 encR s'.a s'.n s'.c l ∧ Mod [] w w' := by
  refine slices_Clone_api_Record_api_Record_go ?_
  refine brB_of (fun h0 => ?_) fun _ => ?_
  · have hl0 : l = [] := by
      cases l with
      | nil => rfl
      | cons x r => obtain ⟨ad, ha, _⟩ := h.2 0 x rfl; rw [ha] at h0; cases h0
    subst hl0
    exact ⟨⟨none, 0, 0⟩, rfl, Row.nil .., Mod.refl _⟩
  · refine al_of fun b w1 c1 M1 f1 => ?_
    obtain ⟨i0, hi, hz0, hz1, hz2⟩ := info_parts infoR
    refine appendAll_of (Row.fresh c1 f1) Tryz.underlying33 hi hz0 hz1 hz2 rfl (by decide) (h.keep0 M1) encR_len encR_one (by simp; omega) (by simp; unfold maxLen; omega) M1.size fun a' n' c' w2 hR hM => ?_
    exact ⟨⟨a', n', c'⟩, rfl, by simpa using hR, M1.go0 (hM [b] (by simp)) (by simpa using f1)⟩

theorem rowS_block {α : Type} {w : World} {base T sz : Nat} {enc : α → List Value} {a : Option Addr} {n c : Nat} {l : List α} (h : Row w base T sz enc a n c l) : ∀ k ∈ rowS a, base ≤ k ∧ k < w.heap.size ∧ ∃ cur, w.heap[k]? = some (.cells cur T) := by
  cases a with
  | none => simp [rowS]
  | some ad => intro k hk; simp [rowS] at hk; subst hk; obtain ⟨h1, cur, h2⟩ := h.block ad rfl; exact ⟨h1, lt_of_block h2, cur, h2⟩
set_option maxHeartbeats 1000000 in
theorem Own_ok {w : World} {m : PMail} {s f p : Sl} (h : MailAt w m s f p) (hl : m.calls.length ≤ 100000) :
    Calls Tryz.prog 70 #[m.v s f p] w fun e w' => ∃ v, e = .returned v ∧ ∃ s' f' p' : Sl, v = m.v s' f' p' ∧ MailOwn w' w.heap.size m s' f' p' ∧ Mod [] w w' := by
  obtain ⟨⟨ll, hS, hO, hll⟩, hR⟩ := h
  have hlen : ll.length ≤ 100000 := by rw [← hll] at hl; simpa using hl
  have hn := hS.1
  refine message_Own_go ?_
  intro b1 f1 b2 f2 w1 A1
  have l2 := A1.lt b2 (by simp)
  have l1 := A1.lt b1 (by simp)
  have s1 := A1.mod.size
  refine message_Own_rule1 (fun mm a n c x w' => ∃ (k : Nat) (l : List CV), x = k ∧ k ≤ ll.length ∧ Row w' w1.heap.size 57 16 CV.cs a n c l ∧ (∀ q ∈ l, OpOwn w' w1.heap.size q.x.op q.rs q.ts) ∧ l.map (·.x) = (ll.take k).map (·.x) ∧ Mod [] w1 w' ∧ mm = ll.length - k) ll.length
    ⟨0, [], rfl, by omega, Row.nil .., by simp, by simp, Mod.refl _, rfl⟩ ?_
  rintro mm a n c x w2 ⟨k, l, rfl, hk, hRow, hOw, hlm, M2, rfl⟩
  have s2 := M2.size
  have N2 := A1.mod.go0 M2 (by simp)
  refine brB_dec (fun hlt => ?_) fun hge => ?_
  · obtain ⟨q, hq⟩ : ∃ q, ll[k]? = some q := ⟨_, List.getElem?_eq_getElem (by omega)⟩
    refine (hS.keep0 N2).ix hq fun ad ha => ldInt_of (x := q.x.c) (by simpa [add_zero] using ha 0 _ rfl) (ldInt_of (ha 1 _ rfl) (ldInt_of (ha 2 _ rfl) (ldStr_of (ha 3 _ rfl) (ldInt_of (ha 4 _ rfl) (ldInt_of (ha 5 _ rfl) (ldInt_of (ha 6 _ rfl) (ldInt_of (ha 7 _ rfl) (ldInt_of (ha 8 _ rfl) (ldInt_of (ha 9 _ rfl) (ldSlice_of (ha 10 _ rfl) (ldStr_of (ha 11 _ rfl) (ldStr_of (ha 12 _ rfl) (ldInt_of (ha 13 _ rfl) (ldBool_of (ha 14 _ rfl) (ldSlice_of (ha 15 _ rfl) ?_)))))))))))))))
    intro b3 f3 w3 A3
    have l3 := A3.lt b3 (by simp)
    have s3 := A3.mod.size
    have hop := (hO q (List.mem_of_getElem? hq)).keep0 (N2.go0 A3.mod (by simp))
    refine (CloneS_ok (s := q.ts) hop.topics hop.lt).mono ?_
    rintro e w4 ⟨_, rfl, ts', rfl, hT, M4⟩
    refine ⟨_, _, _, rfl, Keep.of0 M4, rfl, ?_⟩
    have s4 := M4.size
    refine (CloneR_ok (s := q.rs) (hop.recs.keep0 M4) hop.lr).mono ?_
    rintro e w5 ⟨_, rfl, rs', rfl, hRc, M5⟩
    refine ⟨_, _, _, rfl, Keep.of0 M5, ?_⟩
    have s5 := M5.size
    intro w6 A6
    have s6 := A6.mod.size
    have K5 : Mod [] w2 w5 := (A3.mod.go0 M4 (by simp)).go0 M5 (by simp)
    have K6 : Mod [] w2 w6 := K5.go0 A6.mod (by simpa using f3)
    have hnew : OpOwn w6 w1.heap.size q.x.op rs' ts' := by
      refine OpOwn.rebase (base := w3.heap.size) ?_ (by omega)
      exact OpOwn.keepB ⟨hRc.rebase (by omega), hT.keep0 M5, hop.lr, hop.lt⟩ A6.mod (by simp; omega)
    refine al_of fun b7 w7 c7 M7 f7 => ?_
    have s7 := M7.size
    have hll' : l.length ≤ 100000 := by have := congrArg List.length hlm; simp at this; omega
    obtain ⟨i0, hi, hz0, hz1, hz2⟩ := info_parts infoCall
    refine append_of (x := (⟨q.x, rs', ts'⟩ : CV)) ((hRow.keep0 K6).keep0 M7) Tryz.underlying39 hi hz0 hz1 hz2 rfl (by decide) c7 rfl (CV.cs_one _) (by omega) (by unfold maxLen; omega) (by omega) fun a' c' w8 hR8 hM8 => ?_
    have M8 := hM8 _ (rowS_ok a)
    have hrow := rowS_block hRow
    have K7 := K6.go0 M7 (by simp)
    have kp : ∀ {o rs ts}, OpOwn w7 w1.heap.size o rs ts → OpOwn w8 w1.heap.size o rs ts := fun hh => hh.keep M8 fun k hk cs T hc => by
      obtain ⟨_, _, cur, hcur⟩ := hrow k hk
      rw [K7.keep0 hcur] at hc; cases hc; decide
    refine ⟨Keep.of M8 fun b hb _ hb' => ?_, ?_⟩
    · have := hrow b hb'; simp at hb; omega
    refine message_Own_leaf1 (ll.length - (k + 1)) (by omega) ⟨k + 1, _, by rw [wrap_id (by omega) (by omega)]; omega, by omega, hR8, fun y hy => ?_, ?_, (M2.go0 K7 (by simp)).go0 M8 fun i hi => (hrow i hi).1, rfl⟩
    · rcases List.mem_append.1 hy with hy | hy
      · exact kp ((hOw y hy).keep0 K7)
      · simp at hy; subst hy; exact kp (hnew.keep0 M7)
    · rw [List.take_add_one, hq, List.map_append, List.map_append, hlm]; rfl
  · have hk' : k = ll.length := by omega
    subst hk'
    rw [List.take_length, hll] at hlm
    intro w3 A3
    have N3 := N2.go0 A3.mod (by simpa using f1)
    have s3 := A3.mod.size
    have h3 := hR.keep0 N3
    refine (CloneF_ok (s := f) h3.found h3.lf).mono ?_
    rintro e w4 ⟨_, rfl, f', rfl, hF, M4⟩
    refine ⟨_, _, _, rfl, Keep.of0 M4, rfl, ?_⟩
    have s4 := M4.size
    have h4 := h3.keep0 M4
    refine (CloneP_ok (s := p) h4.parts h4.lp).mono ?_
    rintro e w5 ⟨_, rfl, p', rfl, hP, M5⟩
    refine ⟨_, _, _, rfl, Keep.of0 M5, ?_⟩
    have s5 := M5.size
    intro w6 A6
    have hC3 : CallsOwn w3 w1.heap.size ⟨a, n, c⟩ m.calls := CallsOwn.keepB ⟨l, hRow, hOw, hlm⟩ A3.mod (by simp; omega)
    have hM5 : MailOwn w5 w1.heap.size m ⟨a, n, c⟩ f' p' := ⟨(hC3.keep0 M4).keep0 M5, (hF.keep0 M5).rebase (by omega), hP.rebase (by omega), hR.lf, hR.lp⟩
    refine ⟨⟨a, n, c⟩, f', p', rfl, (hM5.keepB A6.mod (by simp; omega)).rebase s1, ((N3.go0 M4 (by simp)).go0 M5 (by simp)).go0 A6.mod (by simp; omega)⟩
end Go.Proofs.YtohgihgddknmmaaGreat

/- A reply's bytes. -/
namespace Go.Proofs.YtohgihgddknmmaaGreat
open Go Go.RowKit
set_option linter.unusedVariables false
set_option linter.unusedSimpArgs false

theorem Wr.keep {B b v : Nat} {w w' : World} {cs : Array Value} {T : TypeId} (W : Wr B b w w') (h : w.heap[v]? = some (.cells cs T)) (hv : v ≠ b) (hT : T ≠ 5) : w'.heap[v]? = some (.cells cs T) :=
  W.oth v _ h (by simpa using hv) fun c fz e => hT (by cases e; rfl)
theorem Wr.keepE {B b : Nat} {w w' : World} {es : List Nat} {ts : List (Nat × TypeId)} {bs : List Nat} (W : Wr B b w w') (h : ∀ k ∈ bs, k ∉ es → k ≠ b ∧ (k < B ∨ ∃ T, (k, T) ∈ ts ∧ T ≠ 5)) : KeepE es ts bs w w' := fun k hk hl he hty => by
  obtain ⟨hne, h1 | ⟨T, hT, h2⟩⟩ := h k hk he
  · exact W.bel.block k h1
  · obtain ⟨cs, hc⟩ := hty _ hT rfl
    rw [hc]; exact W.keep hc hne h2
theorem Wr.mod {B b : Nat} {w0 w w' : World} (W : Wr B b w w') (M : Mod [] w0 w) (hB : w0.heap.size ≤ B) : Mod [] w0 w' :=
  ⟨W.bel.os.trans M.os, W.bel.tape.trans M.tape, W.bel.output.trans M.output, Nat.le_trans M.size W.bel.size, fun k hk _ => (W.bel.block k (by omega)).trans (M.block k hk (by simp))⟩
def partB (x : PPart) : List UInt8 := putT x.t ++ vPutL x.n.toNat
theorem part_ok {B b v : Nat} {l : List UInt8} {w : World} {x : PPart} (h : Bd B b l w) (hlen : l.length ≤ 1000000000) (hB : B ≤ w.heap.size) (hv : w.heap[v]? = some (.cells #[.string x.t, .int .i64 x.n] 32)) (hvb : v ≠ b) (hs : x.t.size ≤ 1000) (hn : num x.n = true) :
    Calls Tryz.prog 142 #[.iface 182 (.pointer (some ⟨b, 0, none⟩)), .pointer (some ⟨v, 0, none⟩)] w fun e w' => e = .returned (.tuple #[]) ∧ (Bd B b (l ++ partB x) w' ∧ Wr B b w w') := by
  have hn : 0 ≤ x.n ∧ x.n ≤ 1099511627776 := by simpa [num] using hn
  obtain ⟨n, hn'⟩ := Int.eq_ofNat_of_zero_le hn.1
  refine go_of (request_part_go ?_)
  intro w1 A1
  have h1 := h.keep0 A1.mod
  have v1 := A1.mod.keep0 hv
  have s1 := A1.mod.size
  refine (Wname_ok h1 (by omega) (by omega) (a := ⟨v, 0, none⟩) (s := x.t) (by rw [cell_at v1]; rfl) (by omega)).mono ?_
  rintro e w2 ⟨rfl, h2, W2⟩
  refine ⟨rfl, ?_⟩
  intro w3 A3
  have h3 := h2.keep0 A3.mod
  have v2 := W2.keep v1 hvb (by decide)
  have v3 := A3.mod.keep0 v2
  have s2 := W2.bel.size
  have s3 := A3.mod.size
  have lt := putT_len x.t (by omega)
  refine (Wnum_ok h3 (by simp; omega) (by omega) (a := (⟨v, 0, none⟩ : Addr).add 1) (x := n) (by rw [addr_add, cell_at v3, hn']; rfl) (by omega)).mono ?_
  rintro e w4 ⟨rfl, h4, W4⟩
  refine ⟨rfl, rfl, ?_, ((Wr.of0 A1.mod hB).trans W2).trans ((Wr.of0 A3.mod (by omega)).trans W4)⟩
  rw [partB, hn', Int.toNat_natCast, ← List.append_assoc]
  exact h4

/-! ### the reply's bytes -/
def hdL (r : PRep) : List Nat := [r.e.toNat, r.off.toNat, r.n.toNat, r.gen.toNat, r.found.length]
def foundB (x : PFound) : List UInt8 := vPutL x.off.toNat ++ recB x.r
def rep1 (r : PRep) (k : Nat) : List UInt8 := ((hdL r).take k).flatMap vPutL
def rep2 (r : PRep) (k : Nat) : List UInt8 := (hdL r).flatMap vPutL ++ (r.found.take k).flatMap foundB
def rep3 (r : PRep) (k : Nat) : List UInt8 := (hdL r).flatMap vPutL ++ r.found.flatMap foundB ++ vPutL r.parts.length ++ (r.parts.take k).flatMap partB
def repB (r : PRep) : List UInt8 := rep3 r r.parts.length
theorem take_flat {α β : Type} {f : α → List β} {l : List α} {k : Nat} {x : α} (hx : l[k]? = some x) : (l.take (k + 1)).flatMap f = (l.take k).flatMap f ++ f x := by
  rw [List.take_add_one, hx]; simp
theorem flat_le {α β : Type} {f : α → List β} {c : Nat} : ∀ {l : List α}, (∀ x ∈ l, (f x).length ≤ c) → (l.flatMap f).length ≤ l.length * c
  | [], _ => by simp
  | x :: r, h => by
    have h1 := h x (by simp)
    have h2 := flat_le (l := r) fun y hy => h y (by simp [hy])
    rw [List.flatMap_cons, List.length_append, List.length_cons, Nat.succ_mul]; omega
structure RepGood (r : PRep) : Prop where
  hd : ∀ x ∈ hdL r, x ≤ 1099511627776
  nn : 0 ≤ r.e ∧ 0 ≤ r.off ∧ 0 ≤ r.n ∧ 0 ≤ r.gen
  f : ∀ x ∈ r.found, num x.off = true ∧ recE x.r = 0
  p : ∀ x ∈ r.parts, num x.n = true ∧ nameB x.t = true
  lf : r.found.length ≤ 64
  lp : r.parts.length ≤ 64
theorem RepGood.of {r : PRep} (h : repE r = 0) : RepGood r := by
  unfold repE at h
  split at h
  · omega
  rename_i h1
  split at h
  · omega
  split at h
  · omega
  split at h
  · omega
  rename_i h2 h3 h4
  have h1 := Bool.not_eq_false _ ▸ h1
  simp only [Bool.and_eq_true, List.all_eq_true, ok0] at h1
  simp [badF, badP] at h4
  obtain ⟨⟨⟨⟨⟨a1, a2⟩, a3⟩, a4⟩, hf⟩, hp⟩ := h1
  have nb : ∀ {x : Int}, num x = true → 0 ≤ x ∧ x ≤ 1099511627776 := fun h => by simpa [num] using h
  have a1 := nb a1
  have a2 := nb a2
  have a3 := nb a3
  have a4 := nb a4
  refine ⟨?_, by omega, fun x hx => ⟨hf x hx, h4.1 x hx⟩, fun x hx => ⟨hp x hx, h4.2 x hx⟩, by omega, by omega⟩
  intro x hx
  simp [hdL] at hx
  omega
theorem RepGood.len1 {r : PRep} (h : RepGood r) (k : Nat) : (rep1 r k).length ≤ 50 := by
  have := flat_le (f := vPutL) (c := 10) (l := (hdL r).take k) fun x hx => (vPutL_len x (by have := h.hd x (List.mem_of_mem_take hx); omega)).2
  have e : ((hdL r).take k).length ≤ 5 := by rw [List.length_take]; simp [hdL]; omega
  unfold rep1; omega
theorem RepGood.lenF {r : PRep} (h : RepGood r) {x : PFound} (hx : x ∈ r.found) : (foundB x).length ≤ 610 := by
  obtain ⟨h1, h2⟩ := h.f x hx
  have h3 := recB_len h2
  have h4 : 0 ≤ x.off ∧ x.off ≤ 1099511627776 := by simpa [num] using h1
  have h5 := (vPutL_len x.off.toNat (by omega)).2
  unfold foundB; rw [List.length_append]; omega
theorem RepGood.len2 {r : PRep} (h : RepGood r) (k : Nat) : (rep2 r k).length ≤ 50000 := by
  have h1 := h.len1 5
  have e : rep1 r 5 = (hdL r).flatMap vPutL := by rw [rep1, List.take_of_length_le (by simp [hdL])]
  rw [e] at h1
  have h2 := flat_le (f := foundB) (c := 610) (l := r.found.take k) fun x hx => h.lenF (List.mem_of_mem_take hx)
  have e : (r.found.take k).length ≤ 64 := by have := h.lf; rw [List.length_take]; omega
  unfold rep2; rw [List.length_append]; omega
theorem RepGood.lenP {r : PRep} (h : RepGood r) {x : PPart} (hx : x ∈ r.parts) : (partB x).length ≤ 40 ∧ x.t.size ≤ 16 := by
  obtain ⟨h1, h2⟩ := h.p x hx
  have h4 : 0 ≤ x.n ∧ x.n ≤ 1099511627776 := by simpa [num] using h1
  have h5 := (vPutL_len x.n.toNat (by omega)).2
  have h6 : x.t.size ≤ 16 := by simp [nameB] at h2; omega
  have h7 := putT_len x.t (by omega)
  unfold partB; rw [List.length_append]; omega
theorem RepGood.len3 {r : PRep} (h : RepGood r) (k : Nat) : (rep3 r k).length ≤ 60000 := by
  have h1 := h.len2 r.found.length
  have e : rep2 r r.found.length = (hdL r).flatMap vPutL ++ r.found.flatMap foundB := by rw [rep2, List.take_length]
  rw [e] at h1
  have h2 := flat_le (f := partB) (c := 40) (l := r.parts.take k) fun x hx => (h.lenP (List.mem_of_mem_take hx)).1
  have e : (r.parts.take k).length ≤ 64 := by have := h.lp; rw [List.length_take]; omega
  have h5 := (vPutL_len r.parts.length (by have := h.lp; omega)).2
  unfold rep3; rw [List.length_append, List.length_append]; omega

theorem hdL_get {r : PRep} (h : RepGood r) {k : Nat} (hk : k < 5) : ∃ x : Nat, (hdL r)[k]? = some x ∧ x ≤ 1099511627776 := by
  have hk' : k < (hdL r).length := by simp [hdL]; omega
  exact ⟨(hdL r)[k], List.getElem?_eq_getElem hk', h.hd _ (List.getElem_mem hk')⟩
def encN (x : Nat) : List Value := [.int .i64 (x : Nat)]
theorem Reply_okW {w : World} {r : PRep} {f p : Sl} (h : RepAtW w r f p) :
    Calls Tryz.prog 114 #[r.v f p] w fun e w' => e = .returned (.tuple #[.string (if repE r = 0 then bs (repB r) else bs []), .int .i64 (repE r)]) ∧ Mod [] w w' := by
  refine go_of (request_Reply_go ?_)
  intro b1 f1 w1 A1
  have l1 := A1.lt b1 (by simp)
  refine (check_okW Name_ok (h.keep0 A1.mod)).mono ?_
  rintro e w2 ⟨rfl, M2⟩
  refine ⟨_, rfl, Keep.of0 M2, ?_⟩
  have N2 := A1.mod.go0 M2 (by simp)
  have s2 := N2.size
  have s2' := M2.size
  refine brB_of (fun g1 => ?_) fun g1 => ?_
  · have g : ¬ repE r = 0 := by simpa using g1
    rw [if_neg g]; exact ⟨rfl, N2⟩
  have g : repE r = 0 := by simpa using g1
  have G := RepGood.of g
  intro b3 f3 w3 A3
  have l3 := A3.lt b3 (by simp)
  refine al_of fun b4 w4 c4 M4 f4 => ?_
  intro w5 A5 hb5
  have s3 := A3.mod.size
  have s4 := M4.size
  have s5 := A5.mod.size
  have M5 := (A3.mod.go0 M4 (by simp)).go0 A5.mod (by simp)
  have c5 := A5.mod.keep0 c4
  have hbd : Bd w2.heap.size b3 [] w5 := .inl ⟨f3, .slice none 0 0, hb5, ⟨by simp [Lib.byteCells], .inl ⟨rfl, by simp [Lib.byteCells]⟩⟩, by simp [Value.ownBlock]⟩
  have hne : b4 ≠ b3 := by omega
  have Wr0 : Wr w2.heap.size b3 w2 w5 := Wr.of0 M5 (Nat.le_refl _)
  have hk1 : ∀ {es : List Nat} {ts : List (Nat × TypeId)} {x y : World}, Wr w2.heap.size b3 x y → KeepE es ts [b1] x y := fun W b hb _ _ _ => by
    simp at hb; subst hb; exact W.bel.block _ (by omega)
  have hcell : ∀ {w' : World}, Wr w2.heap.size b3 w5 w' → SlAt w' 1 encN (some ⟨b4, 0, none⟩) 5 (hdL r) := fun {w'} W => by
    have c6 := W.keep c5 hne (by decide)
    refine ⟨rfl, fun i x hx => ⟨_, rfl, fun j v hv => ?_⟩⟩
    have hj : j = 0 := by have := (List.getElem?_eq_some_iff.1 hv).1; simp [encN] at this; omega
    subst hj
    rw [addr_add, addr_add, cell_at c6]
    simp [encN] at hv
    subst hv
    have hnn := G.nn
    have hi := (List.getElem?_eq_some_iff.1 hx).1
    simp [hdL] at hi
    have : r.e = (r.e.toNat : Int) ∧ r.off = (r.off.toNat : Int) ∧ r.n = (r.n.toNat : Int) ∧ r.gen = (r.gen.toNat : Int) := by omega
    have e4 := h.found.1
    match i, hi, hx with
    | 0, _, hx => simp [hdL] at hx; subst hx; simp; omega
    | 1, _, hx => simp [hdL] at hx; subst hx; simp; omega
    | 2, _, hx => simp [hdL] at hx; subst hx; simp; omega
    | 3, _, hx => simp [hdL] at hx; subst hx; simp; omega
    | 4, _, hx => simp [hdL] at hx; subst hx; simp; omega
  refine request_Reply_rule1 (fun mm x p0 a0 n0 c0 w' => ∃ k : Nat, x = k ∧ k ≤ 5 ∧ Bd w2.heap.size b3 (rep1 r k) w' ∧ Wr w2.heap.size b3 w5 w' ∧ mm = 5 - k) 5 ⟨0, rfl, by omega, by simpa [rep1] using hbd, Wr.of0 (Mod.refl _) (by omega), rfl⟩ ?_
  rintro mm x p0 a0 n0 c0 w6 ⟨k, rfl, hk, hB6, W6, rfl⟩ hc6
  have s6 := W6.bel.size
  have lb := hB6.lt
  refine brB_dec (fun hlt => ?_) fun hge => ?_
  · obtain ⟨x, hx, hx2⟩ := hdL_get G (k := k) (by omega)
    refine (hcell W6).ix hx fun q hq => ldInt_of (by simpa [add_zero] using hq 0 _ rfl) ?_
    intro b7 f7 w7 A7 hb7 hv7
    have s7 := A7.mod.size
    refine (Wnum_ok (hB6.keep0 A7.mod) (by have := G.len1 k; omega) (by omega) (a := ⟨b7, 0, none⟩) (x := x) (by rw [cell_at hv7]; rfl) (by omega)).mono ?_
    rintro e w8 ⟨rfl, hB8, W8⟩
    obtain ⟨p8, a8, n8, c8, hc8⟩ := hB8.cells
    refine ⟨rfl, hk1 W8, p8, a8, n8, c8, hc8, _, W8.keep hv7 (by omega) (by decide), ?_⟩
    refine request_Reply_leaf1 (5 - (k + 1)) (by omega) ⟨k + 1, by rw [wrap_id (by omega) (by omega)]; omega, by omega, ?_, (W6.trans (Wr.of0 A7.mod (by omega))).trans W8, rfl⟩
    rw [rep1, take_flat hx]
    exact hB8
  have hk5 : k = 5 := by omega
  subst hk5
  have e1 : rep1 r 5 = rep2 r 0 := by rw [rep1, rep2, List.take_of_length_le (by simp [hdL])]; simp
  rw [e1] at hB6
  have e4 := h.found.1
  have e5 := h.parts.1
  have lf := G.lf
  have lp := G.lp
  have mod0 : ∀ {w'}, Wr w2.heap.size b3 w5 w' → Mod [] w w' := fun W => (Wr0.trans W).mod N2 s2
  refine request_Reply_rule2 (fun mm x p0 a0 n0 c0 w' => ∃ k : Nat, x = k ∧ k ≤ r.found.length ∧ Bd w2.heap.size b3 (rep2 r k) w' ∧ Wr w2.heap.size b3 w5 w' ∧ mm = r.found.length - k) r.found.length ⟨0, rfl, by omega, hB6, W6, rfl⟩ ?_
  clear hB6 W6 hc6 lb s6
  rintro mm x p0 a0 n0 c0 w6 ⟨k, rfl, hk, hB6, W6, rfl⟩ hc6
  have s6 := W6.bel.size
  have lb := hB6.lt
  refine brB_dec (fun hlt => ?_) fun hge => ?_
  · have g1 : k < r.found.length := by omega
    obtain ⟨x, hx⟩ : ∃ x, r.found[k]? = some x := ⟨_, List.getElem?_eq_getElem g1⟩
    obtain ⟨hx1, hx2⟩ := G.f x (List.mem_of_getElem? hx)
    have hx1 : 0 ≤ x.off ∧ x.off ≤ 1099511627776 := by simpa [num] using hx1
    obtain ⟨n, hn'⟩ := Int.eq_ofNat_of_zero_le hx1.1
    refine (h.keep0 (mod0 W6)).found.ix hx fun q hq => ldInt_of (by simpa [add_zero] using hq 0 _ rfl) (ldBool_of (hq 1 _ rfl) (ldStr_of (hq 2 _ rfl) (ldBool_of (hq 3 _ rfl) (ldStr_of (hq 4 _ rfl) ?_))))
    intro b7 f7 w7 A7 hb7 hv7
    have s7 := A7.mod.size
    have lr := recB_len hx2
    have lk := G.len2 k
    have lv := vPutL_len n (by omega)
    refine (Wnum_ok (hB6.keep0 A7.mod) (by omega) (by omega) (a := ⟨b7, 0, none⟩) (x := n) (by rw [cell_at hv7, hn']; rfl) (by omega)).mono ?_
    rintro e w8 ⟨rfl, hB8, W8⟩
    have s8 := W8.bel.size
    obtain ⟨p8, a8, n8, c8, hc8⟩ := hB8.cells
    have hv8 := W8.keep hv7 (by omega) (by decide)
    refine ⟨rfl, hk1 W8, p8, a8, n8, c8, hc8, _, _, _, _, _, hv8, ?_⟩
    refine (RecPut_ok x.r w8).mono ?_
    rintro e w9 ⟨rfl, M9⟩
    have hB9 := hB8.keep0 M9
    have s9 := M9.size
    refine ⟨_, _, rfl, Keep.of0 M9, p8, a8, n8, c8, M9.keep0 hc8, _, _, _, _, _, M9.keep0 hv8, ?_⟩
    rw [if_pos hx2]
    refine (WS_ok hB9 (by rw [List.length_append]; omega) (by omega)).mono ?_
    rintro e w10 ⟨rfl, hB10, W10⟩
    obtain ⟨p10, a10, n10, c10, hc10⟩ := hB10.cells
    refine ⟨_, _, rfl, hk1 W10, p10, a10, n10, c10, hc10, _, _, _, _, _, W10.keep (M9.keep0 hv8) (by omega) (by decide), ?_⟩
    refine request_Reply_leaf2 (r.found.length - (k + 1)) (by omega) ⟨k + 1, by rw [wrap_id (by omega) (by omega)]; omega, by omega, ?_, (W6.trans (Wr.of0 A7.mod (by omega))).trans ((W8.trans (Wr.of0 M9 (by omega))).trans W10), rfl⟩
    have e : rep2 r (k + 1) = rep2 r k ++ vPutL n ++ recB x.r := by
      rw [rep2, take_flat hx, foundB, hn', Int.toNat_natCast, rep2]; simp
    rw [e]
    exact hB10
  have hkf : k = r.found.length := by omega
  subst hkf
  intro b7 f7 w7 A7 hb7 hv7
  have s7 := A7.mod.size
  have lk := G.len2 r.found.length
  refine (Wnum_ok (hB6.keep0 A7.mod) (by omega) (by omega) (a := ⟨b7, 0, none⟩) (x := r.parts.length) (by rw [cell_at hv7, e5]; rfl) (by omega)).mono ?_
  rintro e w8 ⟨rfl, hB8, W8⟩
  have s8 := W8.bel.size
  obtain ⟨p8, a8, n8, c8, hc8⟩ := hB8.cells
  have hv8 := W8.keep hv7 (by omega) (by decide)
  refine ⟨rfl, hk1 W8, p8, a8, n8, c8, hc8, _, hv8, ?_⟩
  have W8' : Wr w2.heap.size b3 w5 w8 := (W6.trans (Wr.of0 A7.mod (by omega))).trans W8
  have e3 : rep2 r r.found.length ++ vPutL r.parts.length = rep3 r 0 := by rw [rep2, rep3, List.take_length]; simp
  rw [e3] at hB8
  have lb8 := lt_of_block hv8
  refine request_Reply_rule3 (fun mm x p0 a0 n0 c0 y w' => ∃ k : Nat, x = k ∧ k ≤ r.parts.length ∧ Bd w2.heap.size b3 (rep3 r k) w' ∧ Wr w2.heap.size b3 w5 w' ∧ w8.heap.size ≤ w'.heap.size ∧ mm = r.parts.length - k) r.parts.length ⟨0, rfl, by omega, hB8, W8', Nat.le_refl _, rfl⟩ ?_
  rintro mm x p0 a0 n0 c0 y w9 ⟨k, rfl, hk, hB9, W9, hs9, rfl⟩ hc9 hv9
  have s9 := W9.bel.size
  refine brB_dec (fun hlt => ?_) fun hge => ?_
  · have g1 : k < r.parts.length := by omega
    obtain ⟨x, hx⟩ : ∃ x, r.parts[k]? = some x := ⟨_, List.getElem?_eq_getElem g1⟩
    have hxm := List.mem_of_getElem? hx
    refine (h.keep0 (mod0 W9)).parts.ix hx fun q hq => ldStr_of (by simpa [add_zero] using hq 0 _ rfl) (ldInt_of (hq 1 _ rfl) ?_)
    intro b10 f10 w10 A10 hb10 hv10' hv10
    have s10 := A10.mod.size
    have lk := G.len3 k
    refine (part_ok (hB9.keep0 A10.mod) (by omega) (by omega) hv10 (by omega) (by have := (G.lenP hxm).2; omega) (G.p x hxm).1).mono ?_
    rintro e w11 ⟨rfl, hB11, W11⟩
    have s11 := W11.bel.size
    obtain ⟨p11, a11, n11, c11, hc11⟩ := hB11.cells
    refine ⟨rfl, hk1 W11, p11, a11, n11, c11, hc11, _, W11.keep hv10' (by omega) (by decide), _, _, W11.keep hv10 (by omega) (by decide), ?_⟩
    refine request_Reply_leaf3 (r.parts.length - (k + 1)) (by omega) ⟨k + 1, by rw [wrap_id (by omega) (by omega)]; omega, by omega, ?_, (W9.trans (Wr.of0 A10.mod (by omega))).trans W11, by omega, rfl⟩
    have e : rep3 r (k + 1) = rep3 r k ++ partB x := by
      rw [rep3, take_flat hx, rep3]; simp
    rw [e]
    exact hB11
  · have hkp : k = r.parts.length := by omega
    subst hkp
    refine (String_ok BTw w2.heap.size b3 (repB r) w9 hB9 ?_).mono ?_
    · intro e0
      have h1 : (repB r).length = 0 := by rw [e0]; rfl
      have h2 := (vPutL_len r.parts.length (by omega)).1
      rw [repB, rep3, List.length_append, List.length_append] at h1
      omega
    · rintro e w10 ⟨rfl, hB10, h10, o10⟩
      have W10 : Wr w2.heap.size b3 w9 w10 := ⟨h10, o10⟩
      obtain ⟨p10, a10, n10, c10, hc10⟩ := Bd.cells hB10
      refine ⟨_, rfl, hk1 W10, p10, a10, n10, c10, hc10, _, W10.keep hv9 (by omega) (by decide), ?_, mod0 (W9.trans W10)⟩
      rw [if_pos g, g]; rfl
end Go.Proofs.YtohgihgddknmmaaGreat

/- A message's check, where it has no calls. -/
namespace Go.Proofs.YtohgihgddknmmaaGreat
open Go Go.RowKit
set_option linter.unusedVariables false
set_option linter.unusedSimpArgs false

/-! ### a builder of its own -/
theorem BTs : BT 124 := ⟨by kernel_rfl, by decide⟩
abbrev Sb (B b : Nat) (l : List UInt8) (w : World) : Prop := Lib.IsBuilderF 124 5 B b (Lib.byteCells l) w
theorem Sb.cells {B b : Nat} {l : List UInt8} {w : World} (h : Sb B b l w) : ∃ (p a : Option Addr) (n c : Nat), w.heap[b]? = some (.cells #[.pointer p, .slice a n c] 124) := by
  have one : ∀ {p bs}, Lib.BuilderAtF 124 5 B b (.pointer p) bs w → ∃ (p a : Option Addr) (n c : Nat), w.heap[b]? = some (.cells #[.pointer p, .slice a n c] 124) := by
    rintro p bs ⟨hB, v, hb, ⟨hl, ho⟩, hne⟩
    rcases ho with ⟨rfl, _⟩ | ⟨g, cap, cur, fz, rfl, hg, hh, r⟩
    · exact ⟨_, _, _, _, hb⟩
    · exact ⟨_, _, _, _, hb⟩
  exact h.elim one one
theorem Sb.keep0 {B b : Nat} {l : List UInt8} {w w' : World} (h : Sb B b l w) (M : Mod [] w w') : Sb B b l w' := by
  have one : ∀ {p bs}, Lib.BuilderAtF 124 5 B b p bs w → Lib.BuilderAtF 124 5 B b p bs w' := by
    rintro p bs ⟨hB, v, hb, ⟨hl, ho⟩, hne⟩
    refine ⟨hB, v, M.keep0 hb, ⟨hl, ?_⟩, hne⟩
    rcases ho with ho | ⟨g, cap, cur, fz, hv, hg, hh, r⟩
    · exact .inl ho
    · exact .inr ⟨g, cap, cur, fz, hv, hg, M.keep0 hh, r⟩
  exact h.elim (fun x => .inl (one x)) (fun x => .inr (one x))
theorem Sb.fresh {B b : Nat} {w : World} (hB : B ≤ b) (h : w.heap[b]? = some (.cells #[.pointer none, .slice none 0 0] 124)) : Sb B b [] w :=
  .inl ⟨hB, .slice none 0 0, h, ⟨by simp [Lib.byteCells], .inl ⟨rfl, by simp [Lib.byteCells]⟩⟩, by simp [Value.ownBlock]⟩
theorem SW_ok {B b : Nat} {l l2 : List UInt8} {w : World} (h : Sb B b l w) (hlen : l.length + l2.length ≤ 100000000000) (hB : B ≤ w.heap.size) :
    Calls Tryz.prog 76 #[.pointer (some ⟨b, 0, none⟩), .string (bs l2)] w fun e w' => e = .returned (.tuple #[.int .i64 ((bs l2).size : Nat), .nilIface]) ∧ (Sb B b (l ++ l2) w' ∧ Wr B b w w') := by
  refine (WriteString_ok BTs B b (Lib.byteCells l) (bs l2) w h (by rw [Lib.byteCells_length, bs_size]; omega) hB).mono ?_
  rintro e w' ⟨rfl, h1, h2, h3⟩
  refine ⟨rfl, .inr ?_, ⟨h2, h3⟩⟩
  have e : Lib.byteCells (l ++ l2) = Lib.byteCells l ++ Lib.strCells (bs l2) := by simp [Lib.byteCells, Lib.strCells, bs]
  rw [e]; exact h1
theorem SS_ok {B b : Nat} {l : List UInt8} {w : World} (h : Sb B b l w) (h0 : l ≠ []) :
    Calls Tryz.prog 81 #[.pointer (some ⟨b, 0, none⟩)] w fun e w' => e = .returned (.string (bs l)) ∧ (Sb B b l w' ∧ Wr B b w w') := by
  refine (String_ok BTs B b l w h h0).mono ?_
  rintro e w' ⟨rfl, h1, h2, h3⟩
  exact ⟨rfl, h1, h2, h3⟩

/-! ### no calls -/
theorem IndexCall0_ok {a : Option Addr} {c : Nat} {p : Addr} (w : World) :
    Calls Tryz.prog 151 #[.slice a 0 c, .func (.func 124) #[] #[.pointer (some p)]] w fun e w' => e = .returned (.int .i64 (-1)) ∧ w' = w := by
  refine go_of (slices_IndexFunc_api_Call_api_Call_go ?_)
  refine slices_IndexFunc_api_Call_api_Call_rule1 (fun mm x w' => x = 0 ∧ w' = w) 0 ⟨rfl, rfl⟩ ?_
  rintro mm x w' ⟨rfl, rfl⟩
  exact brB_dec (fun h => absurd h (by decide)) fun _ => ⟨rfl, rfl⟩
theorem ContainsCall0_ok {a : Option Addr} {c : Nat} {p : Addr} (w : World) :
    Calls Tryz.prog 123 #[.slice a 0 c, .func (.func 124) #[] #[.pointer (some p)]] w fun e w' => e = .returned (.bool false) ∧ w' = w := by
  refine go_of (slices_ContainsFunc_api_Call_api_Call_go ?_)
  refine (IndexCall0_ok w).mono ?_
  rintro e w1 ⟨rfl, rfl⟩
  exact ⟨_, rfl, rfl, rfl⟩
theorem Checked0_ok {a : Option Addr} {c : Nat} (w : World) :
    Calls Tryz.prog 75 #[.slice a 0 c] w fun e w' => e = .returned (.int .i64 0) ∧ Mod [] w w' := by
  refine go_of (oplog_checked_go ?_)
  intro b1 f1 w2 A2 h2
  refine (ContainsCall0_ok w2).mono ?_
  rintro e w3 ⟨rfl, rfl⟩
  refine ⟨_, rfl, _, h2, brB_of (fun h => by cases h) fun _ => ?_⟩
  refine oplog_checked_rule1 (fun mm x v w' => x = 0 ∧ w' = w3) 0 ⟨rfl, rfl⟩ ?_
  rintro mm x v w' ⟨rfl, rfl⟩ _
  exact brB_dec (fun h => absurd h (by decide)) fun _ => ⟨rfl, A2.mod⟩
theorem Text0_ok {a : Option Addr} {c : Nat} (w : World) :
    Calls Tryz.prog 31 #[.slice a 0 c] w fun e w' => e = .returned (.tuple #[.string (bs (vPutL 0)), .int .i64 0]) ∧ Mod [] w w' := by
  refine go_of (oplog_Text_go ?_)
  refine brB_dec (fun h => absurd h (by decide)) fun _ => ?_
  refine (Checked0_ok w).mono ?_
  rintro e w1 ⟨rfl, M1⟩
  have s1 := M1.size
  refine ⟨_, rfl, brB_of (fun h => absurd h (by decide)) fun _ => ?_⟩
  intro b3 f3 w4 A4
  have l4 := A4.lt b3 (by simp)
  refine (Put_ok 0 (by decide) w4).mono ?_
  rintro e w5 ⟨rfl, M5⟩
  refine ⟨_, rfl, Keep.of0 M5, ?_⟩
  intro w7 A7 h7
  have s4 := A4.mod.size
  have s5 := M5.size
  have s7 := A7.mod.size
  have M7 : Mod [] w w7 := ((M1.go0 A4.mod (by simp)).go0 M5 (by simp)).go0 A7.mod (by simp)
  have v0 := vPutL_len 0 (by decide)
  refine (SW_ok (B := w.heap.size) (Sb.fresh (by omega) h7) (l2 := vPutL 0) (by rw [List.length_nil]; omega) M7.size).mono ?_
  rintro e w8 ⟨rfl, hB8, W8⟩
  obtain ⟨p8, a8, n8, c8, hc8⟩ := Sb.cells hB8
  refine ⟨_, _, rfl, p8, a8, n8, c8, hc8, ?_⟩
  refine oplog_Text_rule1 (fun mm x p0 a0 n0 c0 w' => x = 0 ∧ w' = w8) 0 ⟨rfl, rfl⟩ ?_
  rintro mm x p0 a0 n0 c0 w' ⟨rfl, rfl⟩ _
  refine brB_dec (fun h => absurd h (by decide)) fun _ => ?_
  refine (SS_ok hB8 (by intro h; rw [List.nil_append] at h; rw [h] at v0; simp at v0)).mono ?_
  rintro e w9 ⟨rfl, hB9, W9⟩
  obtain ⟨p9, a9, n9, c9, hc9⟩ := Sb.cells hB9
  exact ⟨_, rfl, p9, a9, n9, c9, hc9, rfl, (W8.trans W9).mod M7 (Nat.le_refl _)⟩

/-! ### messages -/
def numsL (m : PMail) : List Int := [m.kind, m.fr, m.to, m.view, m.normal, m.last, m.commit, m.nonce, m.base, m.n]
def mailE0 (m : PMail) : Int := if m.kind < 0 ∨ m.kind ≥ 12 then 180 else if ((numsL m).all num) = false then 1 else repE m.r
theorem all_ok (b : Nat) (w : World) : Calls Tryz.prog 113 #[.pointer (some ⟨b, 0, none⟩)] w fun e w' => e = .returned (.agg #[.pointer (some ⟨b, 0, none⟩), .pointer (some ⟨b, 1, none⟩), .pointer (some ⟨b, 2, none⟩), .pointer (some ⟨b, 3, none⟩), .pointer (some ⟨b, 4, none⟩), .pointer (some ⟨b, 5, none⟩), .pointer (some ⟨b, 6, none⟩), .pointer (some ⟨b, 7, none⟩), .pointer (some ⟨b, 8, none⟩), .pointer (some ⟨b, 9, none⟩)]) ∧ Mod [] w w' := by
  refine go_of (message_all_go ?_)
  intro b1 f1 w2 A2
  exact ⟨rfl, A2.mod⟩
theorem numsL_cell {w : World} {b : Nat} {m : PMail} {s f p : Sl} (h : w.heap[b]? = some (.cells (m.cs s f p).toArray 45)) {k : Nat} {x : Int} (hx : (numsL m)[k]? = some x) : w.cell? ⟨b, k, none⟩ = some (.int .i64 x) := by
  rw [cell_at h]
  have hk := (List.getElem?_eq_some_iff.1 hx).1
  simp [numsL] at hk
  match k, hk, hx with
  | 0, _, hx | 1, _, hx | 2, _, hx | 3, _, hx | 4, _, hx | 5, _, hx | 6, _, hx | 7, _, hx | 8, _, hx | 9, _, hx => simp [numsL] at hx; subst hx; rfl
theorem arr10_0 (b : Nat) (w' : World) : (Instr.index 167 (.agg #[.pointer (some ⟨b, 0, none⟩), .pointer (some ⟨b, 1, none⟩), .pointer (some ⟨b, 2, none⟩), .pointer (some ⟨b, 3, none⟩), .pointer (some ⟨b, 4, none⟩), .pointer (some ⟨b, 5, none⟩), .pointer (some ⟨b, 6, none⟩), .pointer (some ⟨b, 7, none⟩), .pointer (some ⟨b, 8, none⟩), .pointer (some ⟨b, 9, none⟩)]) (.int .i64 0)).run Tryz.prog w' = .ok (.pointer (some ⟨b, 0, none⟩)) w' := by kernel_rfl
theorem arr10_1 (b : Nat) (w' : World) : (Instr.index 167 (.agg #[.pointer (some ⟨b, 0, none⟩), .pointer (some ⟨b, 1, none⟩), .pointer (some ⟨b, 2, none⟩), .pointer (some ⟨b, 3, none⟩), .pointer (some ⟨b, 4, none⟩), .pointer (some ⟨b, 5, none⟩), .pointer (some ⟨b, 6, none⟩), .pointer (some ⟨b, 7, none⟩), .pointer (some ⟨b, 8, none⟩), .pointer (some ⟨b, 9, none⟩)]) (.int .i64 1)).run Tryz.prog w' = .ok (.pointer (some ⟨b, 1, none⟩)) w' := by kernel_rfl
theorem arr10_2 (b : Nat) (w' : World) : (Instr.index 167 (.agg #[.pointer (some ⟨b, 0, none⟩), .pointer (some ⟨b, 1, none⟩), .pointer (some ⟨b, 2, none⟩), .pointer (some ⟨b, 3, none⟩), .pointer (some ⟨b, 4, none⟩), .pointer (some ⟨b, 5, none⟩), .pointer (some ⟨b, 6, none⟩), .pointer (some ⟨b, 7, none⟩), .pointer (some ⟨b, 8, none⟩), .pointer (some ⟨b, 9, none⟩)]) (.int .i64 2)).run Tryz.prog w' = .ok (.pointer (some ⟨b, 2, none⟩)) w' := by kernel_rfl
theorem arr10_3 (b : Nat) (w' : World) : (Instr.index 167 (.agg #[.pointer (some ⟨b, 0, none⟩), .pointer (some ⟨b, 1, none⟩), .pointer (some ⟨b, 2, none⟩), .pointer (some ⟨b, 3, none⟩), .pointer (some ⟨b, 4, none⟩), .pointer (some ⟨b, 5, none⟩), .pointer (some ⟨b, 6, none⟩), .pointer (some ⟨b, 7, none⟩), .pointer (some ⟨b, 8, none⟩), .pointer (some ⟨b, 9, none⟩)]) (.int .i64 3)).run Tryz.prog w' = .ok (.pointer (some ⟨b, 3, none⟩)) w' := by kernel_rfl
theorem arr10_4 (b : Nat) (w' : World) : (Instr.index 167 (.agg #[.pointer (some ⟨b, 0, none⟩), .pointer (some ⟨b, 1, none⟩), .pointer (some ⟨b, 2, none⟩), .pointer (some ⟨b, 3, none⟩), .pointer (some ⟨b, 4, none⟩), .pointer (some ⟨b, 5, none⟩), .pointer (some ⟨b, 6, none⟩), .pointer (some ⟨b, 7, none⟩), .pointer (some ⟨b, 8, none⟩), .pointer (some ⟨b, 9, none⟩)]) (.int .i64 4)).run Tryz.prog w' = .ok (.pointer (some ⟨b, 4, none⟩)) w' := by kernel_rfl
theorem arr10_5 (b : Nat) (w' : World) : (Instr.index 167 (.agg #[.pointer (some ⟨b, 0, none⟩), .pointer (some ⟨b, 1, none⟩), .pointer (some ⟨b, 2, none⟩), .pointer (some ⟨b, 3, none⟩), .pointer (some ⟨b, 4, none⟩), .pointer (some ⟨b, 5, none⟩), .pointer (some ⟨b, 6, none⟩), .pointer (some ⟨b, 7, none⟩), .pointer (some ⟨b, 8, none⟩), .pointer (some ⟨b, 9, none⟩)]) (.int .i64 5)).run Tryz.prog w' = .ok (.pointer (some ⟨b, 5, none⟩)) w' := by kernel_rfl
theorem arr10_6 (b : Nat) (w' : World) : (Instr.index 167 (.agg #[.pointer (some ⟨b, 0, none⟩), .pointer (some ⟨b, 1, none⟩), .pointer (some ⟨b, 2, none⟩), .pointer (some ⟨b, 3, none⟩), .pointer (some ⟨b, 4, none⟩), .pointer (some ⟨b, 5, none⟩), .pointer (some ⟨b, 6, none⟩), .pointer (some ⟨b, 7, none⟩), .pointer (some ⟨b, 8, none⟩), .pointer (some ⟨b, 9, none⟩)]) (.int .i64 6)).run Tryz.prog w' = .ok (.pointer (some ⟨b, 6, none⟩)) w' := by kernel_rfl
theorem arr10_7 (b : Nat) (w' : World) : (Instr.index 167 (.agg #[.pointer (some ⟨b, 0, none⟩), .pointer (some ⟨b, 1, none⟩), .pointer (some ⟨b, 2, none⟩), .pointer (some ⟨b, 3, none⟩), .pointer (some ⟨b, 4, none⟩), .pointer (some ⟨b, 5, none⟩), .pointer (some ⟨b, 6, none⟩), .pointer (some ⟨b, 7, none⟩), .pointer (some ⟨b, 8, none⟩), .pointer (some ⟨b, 9, none⟩)]) (.int .i64 7)).run Tryz.prog w' = .ok (.pointer (some ⟨b, 7, none⟩)) w' := by kernel_rfl
theorem arr10_8 (b : Nat) (w' : World) : (Instr.index 167 (.agg #[.pointer (some ⟨b, 0, none⟩), .pointer (some ⟨b, 1, none⟩), .pointer (some ⟨b, 2, none⟩), .pointer (some ⟨b, 3, none⟩), .pointer (some ⟨b, 4, none⟩), .pointer (some ⟨b, 5, none⟩), .pointer (some ⟨b, 6, none⟩), .pointer (some ⟨b, 7, none⟩), .pointer (some ⟨b, 8, none⟩), .pointer (some ⟨b, 9, none⟩)]) (.int .i64 8)).run Tryz.prog w' = .ok (.pointer (some ⟨b, 8, none⟩)) w' := by kernel_rfl
theorem arr10_9 (b : Nat) (w' : World) : (Instr.index 167 (.agg #[.pointer (some ⟨b, 0, none⟩), .pointer (some ⟨b, 1, none⟩), .pointer (some ⟨b, 2, none⟩), .pointer (some ⟨b, 3, none⟩), .pointer (some ⟨b, 4, none⟩), .pointer (some ⟨b, 5, none⟩), .pointer (some ⟨b, 6, none⟩), .pointer (some ⟨b, 7, none⟩), .pointer (some ⟨b, 8, none⟩), .pointer (some ⟨b, 9, none⟩)]) (.int .i64 9)).run Tryz.prog w' = .ok (.pointer (some ⟨b, 9, none⟩)) w' := by kernel_rfl
theorem arr10 (b : Nat) {k : Nat} (hk : k < 10) (w' : World) : (Instr.index 167 (.agg #[.pointer (some ⟨b, 0, none⟩), .pointer (some ⟨b, 1, none⟩), .pointer (some ⟨b, 2, none⟩), .pointer (some ⟨b, 3, none⟩), .pointer (some ⟨b, 4, none⟩), .pointer (some ⟨b, 5, none⟩), .pointer (some ⟨b, 6, none⟩), .pointer (some ⟨b, 7, none⟩), .pointer (some ⟨b, 8, none⟩), .pointer (some ⟨b, 9, none⟩)]) (.int .i64 (k : Nat))).run Tryz.prog w' = .ok (.pointer (some ⟨b, k, none⟩)) w' := by
  have e : k = 0 ∨ k = 1 ∨ k = 2 ∨ k = 3 ∨ k = 4 ∨ k = 5 ∨ k = 6 ∨ k = 7 ∨ k = 8 ∨ k = 9 := by omega
  rcases e with rfl | rfl | rfl | rfl | rfl | rfl | rfl | rfl | rfl | rfl
  · exact arr10_0 b w'
  · exact arr10_1 b w'
  · exact arr10_2 b w'
  · exact arr10_3 b w'
  · exact arr10_4 b w'
  · exact arr10_5 b w'
  · exact arr10_6 b w'
  · exact arr10_7 b w'
  · exact arr10_8 b w'
  · exact arr10_9 b w'
theorem MsgCheck0_ok {w : World} {m : PMail} {s f p : Sl} (hs : s.n = 0) (h : RepAtW w m.r f p) :
    Calls Tryz.prog 69 #[m.v s f p] w fun e w' => e = .returned (.int .i64 (mailE0 m)) ∧ Mod [] w w' := by
  refine go_of (message_Check_go ?_)
  intro b1 f1
  refine brB_dec (fun g1 => fun w2 A2 => ⟨by rw [mailE0, if_pos (.inl g1)], A2.mod⟩) fun g1 => ?_
  refine brB_dec (fun g2 => fun w2 A2 => ⟨by rw [mailE0, if_pos (.inr g2)], A2.mod⟩) fun g2 => ?_
  have hE : mailE0 m = if ((numsL m).all num) = false then 1 else repE m.r := by rw [mailE0, if_neg (by omega)]
  intro w4 A4 h4
  refine (all_ok b1 w4).mono ?_
  rintro e w5 ⟨rfl, M5⟩
  have N5 := A4.mod.go0 M5 (by simp)
  have h5 := M5.keep0 h4
  refine ⟨_, _, _, _, _, _, _, _, _, _, rfl, _, _, _, _, _, _, _, _, _, _, _, _, _, _, _, _, _, _, _, _, _, _, _, h5, ?_⟩
  refine message_Check_rule1 (fun mm x w' => ∃ k : Nat, x = k ∧ k ≤ 10 ∧ ((numsL m).take k).all num = true ∧ mm = 10 - k ∧ w' = w5) 10 ⟨0, rfl, by omega, by simp, rfl, rfl⟩ ?_
  rintro mm x w6 ⟨k, rfl, hk, hal, rfl, rfl⟩ h6
  refine brB_dec (fun hlt => ?_) fun hge => ?_
  · have hk' : k < 10 := by omega
    obtain ⟨x, hx⟩ : ∃ x, (numsL m)[k]? = some x := ⟨_, List.getElem?_eq_getElem (by simpa [numsL] using hk')⟩
    have hc := numsL_cell (s := s) (f := f) (p := p) h6 hx
    have bad : ¬ (0 ≤ x ∧ x ≤ 1099511627776) → mailE0 m = 1 := fun hn => by
      rw [hE, if_pos]
      apply Bool.eq_false_iff.2
      intro hh
      have := List.all_eq_true.1 hh x (List.mem_of_getElem? hx)
      exact hn (by simpa [num] using this)
    refine ⟨_, arr10 b1 hk', ldInt_of hc ?_⟩
    refine brB_dec (fun g3 => ⟨by rw [bad (by omega)], N5⟩) fun g3 => ?_
    refine ldInt_of hc ?_
    refine brB_dec (fun g4 => ⟨by rw [bad (by omega)], N5⟩) fun g4 => ?_
    refine message_Check_leaf1 (10 - (k + 1)) (by omega) ⟨k + 1, by rw [wrap_id (by omega) (by omega)]; omega, by omega, ?_, rfl, rfl⟩
    rw [take_all hx, hal]; simp [num]; omega
  · have hk' : k = 10 := by omega
    subst hk'
    rw [List.take_of_length_le (by simp [numsL])] at hal
    rw [hal] at hE
    obtain ⟨sa, sn, sc⟩ := s
    simp only at hs; subst hs
    refine (Text0_ok w6).mono ?_
    rintro e w7 ⟨rfl, M7⟩
    refine ⟨_, _, rfl, _, _, _, _, _, _, _, _, _, _, _, _, _, _, _, _, _, _, _, _, _, _, _, M7.keep0 h6, ?_⟩
    refine brB_of (fun h => absurd h (by decide)) fun _ => ?_
    have N7 := N5.go0 M7 (by simp)
    refine (Reply_okW (h.keep0 N7)).mono ?_
    rintro e w8 ⟨rfl, M8⟩
    refine ⟨_, _, rfl, _, _, _, _, _, _, _, _, _, _, _, _, _, _, _, _, _, _, _, _, _, _, _, (M7.go0 M8 (by simp)).keep0 h6, ?_⟩
    exact ⟨by rw [hE]; rfl, N7.go0 M8 (by simp)⟩
end Go.Proofs.YtohgihgddknmmaaGreat

/- The conditions of Go functions' bodies, printed by gen2.py. -/
namespace Go.Proofs.YtohgihgddknmmaaGreat
open Go Go.RowKit
set_option linter.unusedVariables false
set_option maxRecDepth 100000

def record_Batch_la1 : LA := ⟨[0, 0, 1, 0, 1, 1, 1], [1, 5, 24, 25, 26], [(1, 0, 0), (5, 1, 0)], 2, [1]⟩
def record_Batch_la2 : LA := ⟨[0, 0, 1, 0, 1, 1, 1, 1], [5, 36, 37, 38], [(5, 1, 0)], 2, [1]⟩
def record_Batch_an : List LA := [record_Batch_la1, record_Batch_la2]
def record_Batch_v1 (a0 : Option Addr) (a2 a1 bm0 bm1 : Nat) (a3 : Int) : List Value := [(.pointer (some ⟨bm0, 0, none⟩)), (.pointer (some ⟨bm1, 0, none⟩)), .slice a0 a2 a1, (.int .i64 (4 : Int)), .int .i64 a3]
def record_Batch_m1 (bm0 : Nat) (a7 a8 a9 : Int) (a0 : Option Addr) (a4 a2 bm1 : Nat) (a6 a1 : Option Addr) (a5 a3 : Nat) : List TB := [⟨bm0, 35, [.int .i64 a7, .int .i64 a8, .int .i64 a9, .slice a0 a4 a2], false⟩, ⟨bm1, 124, [.pointer a6, .slice a1 a5 a3], true⟩]
def record_Batch_v2 (a0 : Option Addr) (a2 a1 : Nat) (a3 : Int) (bm1 : Nat) (a4 : Int) : List Value := [(.pointer (some ⟨bm1, 0, none⟩)), .slice a0 a2 a1, .int .i64 a3, .int .i64 a4]
def record_Batch_m2 (bm0 : Nat) (a7 a8 a9 : Int) (a0 : Option Addr) (a4 a2 bm1 : Nat) (a6 a1 : Option Addr) (a5 a3 : Nat) : List TB := [⟨bm0, 35, [.int .i64 a7, .int .i64 a8, .int .i64 a9, .slice a0 a4 a2], false⟩, ⟨bm1, 124, [.pointer a6, .slice a1 a5 a3], true⟩]
def record_Batch_L1 (b1 : Option Addr) (b2 b3 bm0 : Nat) (a7 a8 a9 : Int) (a1 : Option Addr) (a0 a2 bm1 : Nat) (b0 : Int) (a6 a3 : Option Addr) (a5 a4 : Nat) (K1 : Kh) (R : Value → World → Prop) (w : World) : Prop :=
 w.heap[bm1]? = some (.cells #[.pointer a6, .slice a3 a5 a4] 124) →
 brB (decide (b0 < (4 : Int))) (
 ixA b1 b2 b0 1 fun q9 =>
 ldInt .i64 w q9 fun x10 =>
 Calls Tryz.prog 77 #[(.int .u64 (IntKind.wrap .u64 x10))] w fun e w11 => ∃ s12 : ByteArray, e = .returned (.string s12) ∧ KeepE [bm1] [(bm0, 35)] [bm0] w w11 ∧ ∃ (p13 a14 : Option Addr) (n15 c16 : Nat), w11.heap[bm1]? = some (.cells #[.pointer p13, .slice a14 n15 c16] 124) ∧
 Calls Tryz.prog 76 #[(.pointer (some ⟨bm1, 0, none⟩)), .string s12] w11 fun e w17 => ∃ (x18 : Int) (v19 : Value), e = .returned (.tuple #[.int .i64 x18, v19]) ∧ KeepE [bm1] [(bm0, 35)] [bm0] w11 w17 ∧ ∃ (p20 a21 : Option Addr) (n22 c23 : Nat), w17.heap[bm1]? = some (.cells #[.pointer p20, .slice a21 n22 c23] 124) ∧
 K1 (record_Batch_v1 b1 b2 b3 bm0 bm1 (IntKind.wrap .i64 (b0 + 1))) (record_Batch_m1 bm0 a7 a8 a9 a1 a0 a2 bm1 p20 a21 n22 c23) w17)
 (
 loopD3 record_Batch_la2 (dnF Tryz.prog record_Batch_an (code Tryz.f208) 394 [0, 0, 1, 0, 1, 1, 1, 1]) (kont3 Tryz.prog record_Batch_an (code Tryz.f208) [1, 1, 1, 1, 0, 1, 0] [] (post3 Tryz.prog Tryz.f208 [] R)) (record_Batch_v2 a1 a0 a2 (a0 : Int) bm1 0) (record_Batch_m2 bm0 a7 a8 a9 a1 a0 a2 bm1 a6 a3 a5 a4) w)
theorem record_Batch_L1_eq (b0 : Option Addr) (b2 b1 bm0 : Nat) (a7 a8 a9 : Int) (a0 : Option Addr) (a4 a2 bm1 : Nat) (b3 : Int) (a6 a1 : Option Addr) (a5 a3 : Nat) (K1 : Kh) (js : Nat → Value) (R : Value → World → Prop) (w : World) :
 headA record_Batch_la1 ((dnF Tryz.prog record_Batch_an (code Tryz.f208) 395 [0, 0, 1, 0, 1, 1, 1]) (kthen3 (atA record_Batch_la1 K1) (kont3 Tryz.prog record_Batch_an (code Tryz.f208) [1, 1, 1, 0, 1, 0] [] (post3 Tryz.prog Tryz.f208 [] R)))) (record_Batch_v1 b0 b2 b1 bm0 bm1 b3) js (record_Batch_m1 bm0 a7 a8 a9 a0 a4 a2 bm1 a6 a1 a5 a3) w = record_Batch_L1 b0 b2 b1 bm0 a7 a8 a9 a0 a4 a2 bm1 b3 a6 a1 a5 a3 K1 R w := by kernel_rfl
def record_Batch_K1 (b1 : Option Addr) (b3 b2 bm0 : Nat) (a8 a9 b0 : Int) (a4 : Option Addr) (a6 a5 bm1 : Nat) (I : Nat → Int → Option Addr → Option Addr → Nat → Nat → World → Prop) (m : Nat) (vals : List Value) (mem : List TB) (w : World) : Prop := ∃ m', m' < m ∧ ∃ a7 a3 a0 a2 a1, vals = (record_Batch_v1 b1 b3 b2 bm0 bm1 a7) ∧ mem = (record_Batch_m1 bm0 a8 a9 b0 a4 a6 a5 bm1 a3 a0 a2 a1) ∧ I m' a7 a3 a0 a2 a1 w
theorem record_Batch_leaf1 {b0 : Option Addr} {b2 b1 bm0 : Nat} {a7 a8 a9 : Int} {a0 : Option Addr} {a4 a2 bm1 : Nat} {I : Nat → Int → Option Addr → Option Addr → Nat → Nat → World → Prop} {m : Nat} {b3 : Int} {a6 a1 : Option Addr} {a5 a3 : Nat} {w : World} (m' : Nat) (h1 : m' < m) (h2 : I m' b3 a6 a1 a5 a3 w) : record_Batch_K1 b0 b2 b1 bm0 a7 a8 a9 a0 a4 a2 bm1 I m (record_Batch_v1 b0 b2 b1 bm0 bm1 b3) (record_Batch_m1 bm0 a7 a8 a9 a0 a4 a2 bm1 a6 a1 a5 a3) w := ⟨m', h1, _, _, _, _, _, rfl, rfl, h2⟩
theorem record_Batch_rule1 {b5 : Option Addr} {b7 b6 bm0 : Nat} {a8 a9 b0 : Int} {a5 : Option Addr} {a7 a6 bm1 : Nat} {b8 : Int} {b4 b1 : Option Addr} {b3 b2 : Nat} {R : Value → World → Prop} {w0 : World} (I : Nat → Int → Option Addr → Option Addr → Nat → Nat → World → Prop) (m0 : Nat) (h0 : I m0 b8 b4 b1 b3 b2 w0)
 (hr : ∀ (m : Nat) (a4 : Int) (a3 a0 : Option Addr) (a2 a1 : Nat) (w : World), I m a4 a3 a0 a2 a1 w → record_Batch_L1 b5 b7 b6 bm0 a8 a9 b0 a5 a7 a6 bm1 a4 a3 a0 a2 a1 (record_Batch_K1 b5 b7 b6 bm0 a8 a9 b0 a5 a7 a6 bm1 I m) R w) :
 loopD3 record_Batch_la1 (dnF Tryz.prog record_Batch_an (code Tryz.f208) 395 [0, 0, 1, 0, 1, 1, 1]) (kont3 Tryz.prog record_Batch_an (code Tryz.f208) [1, 1, 1, 0, 1, 0] [] (post3 Tryz.prog Tryz.f208 [] R)) (record_Batch_v1 b5 b7 b6 bm0 bm1 b8) (record_Batch_m1 bm0 a8 a9 b0 a5 a7 a6 bm1 b4 b1 b3 b2) w0 := by
 refine ⟨fun m vals mem w => ∃ a4 a3 a0 a2 a1, vals = (record_Batch_v1 b5 b7 b6 bm0 bm1 a4) ∧ mem = (record_Batch_m1 bm0 a8 a9 b0 a5 a7 a6 bm1 a3 a0 a2 a1) ∧ I m a4 a3 a0 a2 a1 w, m0, ⟨_, _, _, _, _, rfl, rfl, h0⟩, ?_⟩
 rintro m vals mem w ⟨a4, a3, a0, a2, a1, rfl, rfl, hI⟩
 refine ⟨rfl, rfl, fun js => ?_⟩
 have h := hr m a4 a3 a0 a2 a1 w hI
 rw [← record_Batch_L1_eq _ _ _ _ _ _ _ _ _ _ _ _ _ _ _ _ _ js] at h
 exact h
def record_Batch_L2 (a5 : Option Addr) (a8 b4 : Nat) (b0 : Int) (bm0 : Nat) (b1 b2 b3 : Int) (a6 : Option Addr) (a9 a7 bm1 : Nat) (a4 : Int) (a3 a0 : Option Addr) (a2 a1 : Nat) (K2 : Kh) (R : Value → World → Prop) (w : World) : Prop :=
 w.heap[bm1]? = some (.cells #[.pointer a3, .slice a0 a2 a1] 124) →
 brB (decide (a4 < b0)) (
 ixA a5 a8 a4 4 fun q24 =>
 ldBool w q24 fun t25 => ldStr w (Addr.add q24 1) fun s26 => ldBool w (Addr.add q24 2) fun t27 => ldStr w (Addr.add q24 3) fun s28 =>
 ∀ b29, w.heap.size ≤ b29 →
 ∀ w30, Adv [] [b29] w w30 → w30.heap[bm1]? = some (.cells #[.pointer a3, .slice a0 a2 a1] 124) →
 Calls Tryz.prog 164 #[(.agg #[.bool t25, .string s26, .bool t27, .string s28])] w30 fun e w31 => ∃ s32 : ByteArray, e = .returned (.string s32) ∧ KeepE [bm1] [(bm0, 35), (b29, 149)] [bm0, b29] w30 w31 ∧ ∃ (p33 a34 : Option Addr) (n35 c36 : Nat), w31.heap[bm1]? = some (.cells #[.pointer p33, .slice a34 n35 c36] 124) ∧
 Calls Tryz.prog 76 #[(.pointer (some ⟨bm1, 0, none⟩)), .string s32] w31 fun e w37 => ∃ (x38 : Int) (v39 : Value), e = .returned (.tuple #[.int .i64 x38, v39]) ∧ KeepE [bm1] [(bm0, 35), (b29, 149)] [bm0, b29] w31 w37 ∧ ∃ (p40 a41 : Option Addr) (n42 c43 : Nat), w37.heap[bm1]? = some (.cells #[.pointer p40, .slice a41 n42 c43] 124) ∧
 K2 (record_Batch_v2 a5 a8 b4 b0 bm1 (IntKind.wrap .i64 (a4 + 1))) (record_Batch_m2 bm0 b1 b2 b3 a6 a9 a7 bm1 p40 a41 n42 c43) w37)
 (
 Calls Tryz.prog 81 #[(.pointer (some ⟨bm1, 0, none⟩))] w fun e w44 => ∃ s45 : ByteArray, e = .returned (.string s45) ∧ KeepE [bm1] [(bm0, 35)] [bm0] w w44 ∧ ∃ (p46 a47 : Option Addr) (n48 c49 : Nat), w44.heap[bm1]? = some (.cells #[.pointer p46, .slice a47 n48 c49] 124) ∧
 R (.tuple #[.string s45, .int .i64 0]) w44)
theorem record_Batch_L2_eq (b0 : Option Addr) (b2 b1 : Nat) (b3 : Int) (bm0 : Nat) (a7 a8 a9 : Int) (a0 : Option Addr) (a4 a2 bm1 : Nat) (b4 : Int) (a6 a1 : Option Addr) (a5 a3 : Nat) (K2 : Kh) (js : Nat → Value) (R : Value → World → Prop) (w : World) :
 headA record_Batch_la2 ((dnF Tryz.prog record_Batch_an (code Tryz.f208) 394 [0, 0, 1, 0, 1, 1, 1, 1]) (kthen3 (atA record_Batch_la2 K2) (kont3 Tryz.prog record_Batch_an (code Tryz.f208) [1, 1, 1, 1, 0, 1, 0] [] (post3 Tryz.prog Tryz.f208 [] R)))) (record_Batch_v2 b0 b2 b1 b3 bm1 b4) js (record_Batch_m2 bm0 a7 a8 a9 a0 a4 a2 bm1 a6 a1 a5 a3) w = record_Batch_L2 b0 b2 b1 b3 bm0 a7 a8 a9 a0 a4 a2 bm1 b4 a6 a1 a5 a3 K2 R w := by kernel_rfl
def record_Batch_K2 (b1 : Option Addr) (b3 b2 : Nat) (b4 : Int) (bm0 : Nat) (a8 a9 b0 : Int) (a4 : Option Addr) (a6 a5 bm1 : Nat) (I : Nat → Int → Option Addr → Option Addr → Nat → Nat → World → Prop) (m : Nat) (vals : List Value) (mem : List TB) (w : World) : Prop := ∃ m', m' < m ∧ ∃ a7 a3 a0 a2 a1, vals = (record_Batch_v2 b1 b3 b2 b4 bm1 a7) ∧ mem = (record_Batch_m2 bm0 a8 a9 b0 a4 a6 a5 bm1 a3 a0 a2 a1) ∧ I m' a7 a3 a0 a2 a1 w
theorem record_Batch_leaf2 {b0 : Option Addr} {b2 b1 : Nat} {b3 : Int} {bm0 : Nat} {a7 a8 a9 : Int} {a0 : Option Addr} {a4 a2 bm1 : Nat} {I : Nat → Int → Option Addr → Option Addr → Nat → Nat → World → Prop} {m : Nat} {b4 : Int} {a6 a1 : Option Addr} {a5 a3 : Nat} {w : World} (m' : Nat) (h1 : m' < m) (h2 : I m' b4 a6 a1 a5 a3 w) : record_Batch_K2 b0 b2 b1 b3 bm0 a7 a8 a9 a0 a4 a2 bm1 I m (record_Batch_v2 b0 b2 b1 b3 bm1 b4) (record_Batch_m2 bm0 a7 a8 a9 a0 a4 a2 bm1 a6 a1 a5 a3) w := ⟨m', h1, _, _, _, _, _, rfl, rfl, h2⟩
theorem record_Batch_rule2 {b5 : Option Addr} {b7 b6 : Nat} {b8 : Int} {bm0 : Nat} {a8 a9 b0 : Int} {a5 : Option Addr} {a7 a6 bm1 : Nat} {b9 : Int} {b4 b1 : Option Addr} {b3 b2 : Nat} {R : Value → World → Prop} {w0 : World} (I : Nat → Int → Option Addr → Option Addr → Nat → Nat → World → Prop) (m0 : Nat) (h0 : I m0 b9 b4 b1 b3 b2 w0)
 (hr : ∀ (m : Nat) (a4 : Int) (a3 a0 : Option Addr) (a2 a1 : Nat) (w : World), I m a4 a3 a0 a2 a1 w → record_Batch_L2 b5 b7 b6 b8 bm0 a8 a9 b0 a5 a7 a6 bm1 a4 a3 a0 a2 a1 (record_Batch_K2 b5 b7 b6 b8 bm0 a8 a9 b0 a5 a7 a6 bm1 I m) R w) :
 loopD3 record_Batch_la2 (dnF Tryz.prog record_Batch_an (code Tryz.f208) 394 [0, 0, 1, 0, 1, 1, 1, 1]) (kont3 Tryz.prog record_Batch_an (code Tryz.f208) [1, 1, 1, 1, 0, 1, 0] [] (post3 Tryz.prog Tryz.f208 [] R)) (record_Batch_v2 b5 b7 b6 b8 bm1 b9) (record_Batch_m2 bm0 a8 a9 b0 a5 a7 a6 bm1 b4 b1 b3 b2) w0 := by
 refine ⟨fun m vals mem w => ∃ a4 a3 a0 a2 a1, vals = (record_Batch_v2 b5 b7 b6 b8 bm1 a4) ∧ mem = (record_Batch_m2 bm0 a8 a9 b0 a5 a7 a6 bm1 a3 a0 a2 a1) ∧ I m a4 a3 a0 a2 a1 w, m0, ⟨_, _, _, _, _, rfl, rfl, h0⟩, ?_⟩
 rintro m vals mem w ⟨a4, a3, a0, a2, a1, rfl, rfl, hI⟩
 refine ⟨rfl, rfl, fun js => ?_⟩
 have h := hr m a4 a3 a0 a2 a1 w hI
 rw [← record_Batch_L2_eq _ _ _ _ _ _ _ _ _ _ _ _ _ _ _ _ _ _ js] at h
 exact h
def record_Batch_T (a1 a2 a3 : Int) (a4 : Option Addr) (a0 a5 : Nat) (R : Value → World → Prop) (w : World) : Prop :=
 ∀ b1, w.heap.size ≤ b1 →
 ∀ w2, Adv [] [b1] w w2 →
 Calls Tryz.prog 199 #[(.agg #[.int .i64 a1, .int .i64 a2, .int .i64 a3, .slice a4 a0 a5])] w2 fun e w3 => ∃ x4 : Int, e = .returned (.int .i64 x4) ∧ Keep [b1] w2 w3 ∧
 brB (x4 != 0) (
 R (.tuple #[(.string (⟨#[]⟩ : ByteArray)), .int .i64 x4]) w3)
 (
 ∀ b5, w3.heap.size ≤ b5 →
 ∀ w6, Adv [] [b5] w3 w6 →
 al w6 (.cells #[.int .i64 a1, .int .i64 a2, .int .i64 a3, (.int .i64 (a0 : Int))] 3) fun b7 w8 =>
 ∀ w50, Adv [] [] w8 w50 → w50.heap[b5]? = some (.cells #[.pointer none, .slice none 0 0] 124) →
 loopD3 record_Batch_la1 (dnF Tryz.prog record_Batch_an (code Tryz.f208) 395 [0, 0, 1, 0, 1, 1, 1]) (kont3 Tryz.prog record_Batch_an (code Tryz.f208) [1, 1, 1, 0, 1, 0] [] (post3 Tryz.prog Tryz.f208 [] R)) (record_Batch_v1 (some ⟨b7, 0, none⟩) 4 4 b1 b5 0) (record_Batch_m1 b1 a1 a2 a3 a4 a0 a5 b5 none none 0 0) w50)
theorem record_Batch_eq (a3 a4 a5 : Int) (a0 : Option Addr) (a2 a1 : Nat) (R : Value → World → Prop) (w : World) :
 dnF Tryz.prog record_Batch_an (code Tryz.f208) 400 [] (post3 Tryz.prog Tryz.f208 [] R) ⟨args0 0 [(.agg #[.int .i64 a3, .int .i64 a4, .int .i64 a5, .slice a0 a2 a1])], fun _ => undef⟩ ⟨[], w, [], [], true⟩ = record_Batch_T a3 a4 a5 a0 a2 a1 R w := by kernel_rfl
theorem record_Batch_go {a3 a4 a5 : Int} {a0 : Option Addr} {a2 a1 : Nat} {R : Value → World → Prop} {w : World} (h : record_Batch_T a3 a4 a5 a0 a2 a1 R w) :
 Calls Tryz.prog 208 #[(.agg #[.int .i64 a3, .int .i64 a4, .int .i64 a5, .slice a0 a2 a1])] w fun e w' => ∃ v, e = .returned v ∧ R v w' :=
 calls_none Tryz.wide_mixed (f := 208) (args := [(.agg #[.int .i64 a3, .int .i64 a4, .int .i64 a5, .slice a0 a2 a1])]) Tryz.func208 rfl rfl (by kernel_rfl) rfl (Eq.mpr (record_Batch_eq a3 a4 a5 a0 a2 a1 R w) h)
end Go.Proofs.YtohgihgddknmmaaGreat

/- A batch's bytes. -/
namespace Go.Proofs.YtohgihgddknmmaaGreat
open Go Go.RowKit
set_option linter.unusedVariables false
set_option linter.unusedSimpArgs false

def batHd (b : PBatch) : List Nat := [b.prod.toNat, b.epoch.toNat, b.seq.toNat, b.recs.length]
def batchB (b : PBatch) : List UInt8 := (batHd b).flatMap vPutL ++ b.recs.flatMap recB
structure BatGood (b : PBatch) : Prop where
  hd : 0 ≤ b.prod ∧ b.prod ≤ 1099511627776 ∧ 0 ≤ b.epoch ∧ b.epoch ≤ 1099511627776 ∧ 0 ≤ b.seq ∧ b.seq ≤ 1099511627776
  r : ∀ x ∈ b.recs, recE x = 0
  lr : 1 ≤ b.recs.length ∧ b.recs.length ≤ 16
theorem BatGood.of {b : PBatch} (h : batchE b = 0) : BatGood b := by
  unfold batchE at h
  split at h
  · omega
  rename_i h1
  split at h
  · omega
  split at h
  · omega
  rename_i h2 h3
  have h1 := Bool.not_eq_false _ ▸ h1
  simp only [Bool.and_eq_true] at h1
  have nb : ∀ {x : Int}, num x = true → 0 ≤ x ∧ x ≤ 1099511627776 := fun h => by simpa [num] using h
  have a1 := nb h1.1.1
  have a2 := nb h1.1.2
  have a3 := nb h1.2
  refine ⟨by omega, fun x hx => ?_, by omega⟩
  split at h
  · rename_i hn
    have := List.find?_eq_none.1 hn x hx
    simpa using this
  · rename_i r hr
    have := List.find?_some hr
    simp [h] at this
theorem BatGood.le {b : PBatch} (h : BatGood b) : ∀ x ∈ batHd b, x ≤ 1099511627776 := by
  intro x hx
  have := h.hd
  have := h.lr
  simp [batHd] at hx
  omega
theorem BatGood.len1 {b : PBatch} (h : BatGood b) (k : Nat) : (((batHd b).take k).flatMap vPutL).length ≤ 40 := by
  have := flat_le (f := vPutL) (c := 10) (l := (batHd b).take k) fun x hx => (vPutL_len x (by have := h.le x (List.mem_of_mem_take hx); omega)).2
  have e : ((batHd b).take k).length ≤ 4 := by rw [List.length_take]; simp [batHd]; omega
  omega
theorem BatGood.len2 {b : PBatch} (h : BatGood b) (k : Nat) : ((b.recs.take k).flatMap recB).length ≤ 9600 := by
  have := flat_le (f := recB) (c := 600) (l := b.recs.take k) fun x hx => recB_len (h.r x (List.mem_of_mem_take hx))
  have e : (b.recs.take k).length ≤ 16 := by rw [List.length_take]; have := h.lr; omega
  omega
theorem BatGood.len {b : PBatch} (h : BatGood b) : (batchB b).length ≤ 10000 ∧ 1 ≤ (batchB b).length := by
  have h1 := h.len1 4
  have h2 := h.len2 b.recs.length
  have e : (batHd b).take 4 = batHd b := List.take_of_length_le (by simp [batHd])
  rw [e] at h1
  rw [List.take_length] at h2
  have h3 := (vPutL_len b.recs.length (by have := h.lr; omega)).1
  have h4 : (vPutL b.recs.length).length ≤ ((batHd b).flatMap vPutL).length := by simp [batHd]; omega
  unfold batchB; rw [List.length_append]; omega
theorem Batch_ok {w : World} {b : PBatch} {rs : Sl} (h : SlAt w 4 encR rs.a rs.n b.recs) (hl : b.recs.length ≤ 1000000) :
    Calls Tryz.prog 208 #[b.v rs] w fun e w' => e = .returned (.tuple #[.string (if batchE b = 0 then bs (batchB b) else bs []), .int .i64 (batchE b)]) ∧ Mod [] w w' := by
  refine go_of (record_Batch_go ?_)
  intro b1 f1 w1 A1
  have l1 := A1.lt b1 (by simp)
  refine (RecAll_ok (b := b) (rs := rs) (h.keep0 A1.mod) hl).mono ?_
  rintro e w2 ⟨rfl, M2⟩
  refine ⟨_, rfl, Keep.of0 M2, ?_⟩
  have N2 := A1.mod.go0 M2 (by simp)
  have s2 := N2.size
  have s2' := M2.size
  refine brB_of (fun g1 => ?_) fun g1 => ?_
  · have g : ¬ batchE b = 0 := by simpa using g1
    rw [if_neg g]; exact ⟨rfl, N2⟩
  have g : batchE b = 0 := by simpa using g1
  have G := BatGood.of g
  have hhd := G.hd
  have hlr := G.lr
  intro b3 f3 w3 A3
  have l3 := A3.lt b3 (by simp)
  refine al_of fun b4 w4 c4 M4 f4 => ?_
  intro w5 A5 hb5
  have s3 := A3.mod.size
  have s4 := M4.size
  have s5 := A5.mod.size
  have M5 := (A3.mod.go0 M4 (by simp)).go0 A5.mod (by simp)
  have c5 := A5.mod.keep0 c4
  have hbd : Sb w2.heap.size b3 [] w5 := Sb.fresh f3 hb5
  have hne : b4 ≠ b3 := by omega
  have Wr0 : Wr w2.heap.size b3 w2 w5 := Wr.of0 M5 (Nat.le_refl _)
  have mod0 : ∀ {w'}, Wr w2.heap.size b3 w5 w' → Mod [] w w' := fun W => (Wr0.trans W).mod N2 s2
  have hcell : ∀ {w' : World}, Wr w2.heap.size b3 w5 w' → SlAt w' 1 encN (some ⟨b4, 0, none⟩) 4 (batHd b) := fun {w'} W => by
    have c6 := W.keep c5 hne (by decide)
    refine ⟨rfl, fun i x hx => ⟨_, rfl, fun j v hv => ?_⟩⟩
    have hj : j = 0 := by have := (List.getElem?_eq_some_iff.1 hv).1; simp [encN] at this; omega
    subst hj
    rw [addr_add, addr_add, cell_at c6]
    simp [encN] at hv
    subst hv
    have hi := (List.getElem?_eq_some_iff.1 hx).1
    simp [batHd] at hi
    have e4 := h.1
    match i, hi, hx with
    | 0, _, hx => simp [batHd] at hx; subst hx; simp; omega
    | 1, _, hx => simp [batHd] at hx; subst hx; simp; omega
    | 2, _, hx => simp [batHd] at hx; subst hx; simp; omega
    | 3, _, hx => simp [batHd] at hx; subst hx; simp; omega
  refine record_Batch_rule1 (fun mm x p0 a0 n0 c0 w' => ∃ k : Nat, x = k ∧ k ≤ 4 ∧ Sb w2.heap.size b3 (((batHd b).take k).flatMap vPutL) w' ∧ Wr w2.heap.size b3 w5 w' ∧ mm = 4 - k) 4 ⟨0, rfl, by omega, by simpa using hbd, Wr.of0 (Mod.refl _) (by omega), rfl⟩ ?_
  rintro mm x p0 a0 n0 c0 w6 ⟨k, rfl, hk, hB6, W6, rfl⟩ hc6
  have s6 := W6.bel.size
  refine brB_dec (fun hlt => ?_) fun hge => ?_
  · obtain ⟨x, hx⟩ : ∃ x, (batHd b)[k]? = some x := ⟨_, List.getElem?_eq_getElem (by simp [batHd]; omega)⟩
    have hx2 := G.le x (List.mem_of_getElem? hx)
    refine (hcell W6).ix hx fun q hq => ldInt_of (x := (x : Nat)) (by simpa [add_zero] using hq 0 _ rfl) ?_
    rw [wrapU (by omega)]
    refine (Put_ok x (by omega) w6).mono ?_
    rintro e w7 ⟨rfl, M7⟩
    have hB7 := hB6.keep0 M7
    have s7 := M7.size
    obtain ⟨p7, a7, n7, c7, hc7⟩ := Sb.cells hB7
    refine ⟨_, rfl, Keep.of0 M7, p7, a7, n7, c7, hc7, ?_⟩
    refine (SW_ok (l2 := vPutL x) hB7 (by have := G.len1 k; have := vPutL_len x (by omega); omega) (by omega)).mono ?_
    rintro e w8 ⟨rfl, hB8, W8⟩
    obtain ⟨p8, a8, n8, c8, hc8⟩ := Sb.cells hB8
    refine ⟨_, _, rfl, W8.keepE fun k hk he => ?_, p8, a8, n8, c8, hc8, ?_⟩
    · simp at hk he; omega
    refine record_Batch_leaf1 (4 - (k + 1)) (by omega) ⟨k + 1, by rw [wrap_id (by omega) (by omega)]; omega, by omega, ?_, (W6.trans (Wr.of0 M7 (by omega))).trans W8, rfl⟩
    rw [take_flat hx]
    exact hB8
  have hk4 : k = 4 := by omega
  subst hk4
  have e1 : (batHd b).take 4 = batHd b := List.take_of_length_le (by simp [batHd])
  have len1 := G.len1 4
  rw [e1] at hB6 len1
  have e4 := h.1
  refine record_Batch_rule2 (fun mm x p0 a0 n0 c0 w' => ∃ k : Nat, x = k ∧ k ≤ b.recs.length ∧ Sb w2.heap.size b3 ((batHd b).flatMap vPutL ++ (b.recs.take k).flatMap recB) w' ∧ Wr w2.heap.size b3 w5 w' ∧ mm = b.recs.length - k) b.recs.length ⟨0, rfl, by omega, by simpa using hB6, W6, rfl⟩ ?_
  clear hB6 W6 hc6 s6
  rintro mm x p0 a0 n0 c0 w6 ⟨k, rfl, hk, hB6, W6, rfl⟩ hc6
  have s6 := W6.bel.size
  have len2 := G.len2 k
  refine brB_dec (fun hlt => ?_) fun hge => ?_
  · obtain ⟨x, hx⟩ : ∃ x, b.recs[k]? = some x := ⟨_, List.getElem?_eq_getElem (by omega)⟩
    have hx2 := G.r x (List.mem_of_getElem? hx)
    refine (h.keep0 (mod0 W6)).ix hx fun q hq => ldBool_of (by simpa [add_zero] using hq 0 _ rfl) (ldStr_of (hq 1 _ rfl) (ldBool_of (hq 2 _ rfl) (ldStr_of (hq 3 _ rfl) ?_)))
    intro b7 f7 w7 A7 hb7
    have s7 := A7.mod.size
    refine (text_ok x hx2 w7).mono ?_
    rintro e w8 ⟨rfl, M8⟩
    have hB8 := (hB6.keep0 A7.mod).keep0 M8
    have s8 := M8.size
    obtain ⟨p8, a8, n8, c8, hc8⟩ := Sb.cells hB8
    refine ⟨_, rfl, Keep.of0 M8, p8, a8, n8, c8, hc8, ?_⟩
    refine (SW_ok (l2 := recB x) hB8 (by rw [List.length_append]; have := recB_len hx2; omega) (by omega)).mono ?_
    rintro e w9 ⟨rfl, hB9, W9⟩
    obtain ⟨p9, a9, n9, c9, hc9⟩ := Sb.cells hB9
    refine ⟨_, _, rfl, W9.keepE fun k hk he => ?_, p9, a9, n9, c9, hc9, ?_⟩
    · simp at hk he
      rcases hk with rfl | rfl
      · omega
      · exact ⟨he, .inr ⟨_, by simp; exact .inr rfl, by decide⟩⟩
    refine record_Batch_leaf2 (b.recs.length - (k + 1)) (by omega) ⟨k + 1, by rw [wrap_id (by omega) (by omega)]; omega, by omega, ?_, (W6.trans ((Wr.of0 A7.mod (by omega)).trans (Wr.of0 M8 (by omega)))).trans W9, rfl⟩
    rw [take_flat hx, ← List.append_assoc]
    exact hB9
  · have hk : k = b.recs.length := by omega
    subst hk
    rw [List.take_length] at hB6
    have hlen := G.len
    refine (SS_ok (l := batchB b) hB6 (by intro h; rw [h] at hlen; simp at hlen)).mono ?_
    rintro e w7 ⟨rfl, hB7, W7⟩
    obtain ⟨p7, a7, n7, c7, hc7⟩ := Sb.cells hB7
    refine ⟨_, rfl, W7.keepE fun k hk he => ?_, p7, a7, n7, c7, hc7, ?_, mod0 (W6.trans W7)⟩
    · simp at hk he; omega
    rw [if_pos g, g]
end Go.Proofs.YtohgihgddknmmaaGreat

/- The conditions of Go functions' bodies, printed by gen2.py. -/
namespace Go.Proofs.YtohgihgddknmmaaGreat
open Go Go.RowKit
set_option linter.unusedVariables false
set_option maxRecDepth 100000

def wr_request_writer_flag_an : List LA := []
def wr_request_writer_flag_T (a0 : Addr) (a1 : Addr) (R : Value → World → Prop) (w : World) : Prop :=
 ∀ b1, w.heap.size ≤ b1 →
 ∀ w2, Adv [] [b1] w w2 →
 ldBool w2 a1 fun t3 =>
 brB t3 (
 ∀ w4, Adv [b1] [] w2 w4 → w4.heap[b1]? = some (.cells #[.int .i64 1] 3) →
 Calls Tryz.prog 127 #[(.pointer (some a0)), (.pointer (some ⟨b1, 0, none⟩))] w4 fun e w5 => e = .returned (.tuple #[]) ∧ ∃ x6 : Int, w5.heap[b1]? = some (.cells #[.int .i64 x6] 3) ∧
 R (.tuple #[]) w5)
 (
 ∀ w7, Adv [] [] w2 w7 → w7.heap[b1]? = some (.cells #[.int .i64 0] 3) →
 Calls Tryz.prog 127 #[(.pointer (some a0)), (.pointer (some ⟨b1, 0, none⟩))] w7 fun e w8 => e = .returned (.tuple #[]) ∧ ∃ x9 : Int, w8.heap[b1]? = some (.cells #[.int .i64 x9] 3) ∧
 R (.tuple #[]) w8)
theorem wr_request_writer_flag_eq (a1 : Addr) (a0 : Addr) (R : Value → World → Prop) (w : World) :
 dnF Tryz.prog wr_request_writer_flag_an (code Tryz.f205) 400 [] (post3 Tryz.prog Tryz.f205 [] R) ⟨args0 0 [(.pointer (some a1)), (.pointer (some a0))], fun _ => undef⟩ ⟨[], w, [], [], true⟩ = wr_request_writer_flag_T a1 a0 R w := by kernel_rfl
theorem wr_request_writer_flag_go {a1 : Addr} {a0 : Addr} {R : Value → World → Prop} {w : World} (h : wr_request_writer_flag_T a1 a0 R w) :
 Calls Tryz.prog 205 #[(.pointer (some a1)), (.pointer (some a0))] w fun e w' => ∃ v, e = .returned v ∧ R v w' :=
 calls_none Tryz.wide_mixed (f := 205) (args := [(.pointer (some a1)), (.pointer (some a0))]) Tryz.func205 rfl rfl (by kernel_rfl) rfl (Eq.mpr (wr_request_writer_flag_eq a1 a0 R w) h)
def wr_request_writer_batch_an : List LA := []
def wr_request_writer_batch_T (a1 : Addr) (a0 : Addr) (R : Value → World → Prop) (w : World) : Prop :=
 ldInt .i64 w a0 fun x1 => ldInt .i64 w (Addr.add a0 1) fun x2 => ldInt .i64 w (Addr.add a0 2) fun x3 => ldSlice w (Addr.add a0 3) fun a4 n5 c6 =>
 Calls Tryz.prog 208 #[(.agg #[.int .i64 x1, .int .i64 x2, .int .i64 x3, .slice a4 n5 c6])] w fun e w7 => ∃ (s8 : ByteArray) (x9 : Int), e = .returned (.tuple #[.string s8, .int .i64 x9]) ∧
 Calls Tryz.prog 76 #[(.pointer (some a1)), .string s8] w7 fun e w10 => ∃ (x11 : Int) (v12 : Value), e = .returned (.tuple #[.int .i64 x11, v12]) ∧
 R (.tuple #[]) w10
theorem wr_request_writer_batch_eq (a0 : Addr) (a1 : Addr) (R : Value → World → Prop) (w : World) :
 dnF Tryz.prog wr_request_writer_batch_an (code Tryz.f204) 400 [] (post3 Tryz.prog Tryz.f204 [] R) ⟨args0 0 [(.pointer (some a0)), (.pointer (some a1))], fun _ => undef⟩ ⟨[], w, [], [], true⟩ = wr_request_writer_batch_T a0 a1 R w := by kernel_rfl
theorem wr_request_writer_batch_go {a0 : Addr} {a1 : Addr} {R : Value → World → Prop} {w : World} (h : wr_request_writer_batch_T a0 a1 R w) :
 Calls Tryz.prog 204 #[(.pointer (some a0)), (.pointer (some a1))] w fun e w' => ∃ v, e = .returned v ∧ R v w' :=
 calls_none Tryz.wide_mixed (f := 204) (args := [(.pointer (some a0)), (.pointer (some a1))]) Tryz.func204 rfl rfl (by kernel_rfl) rfl (Eq.mpr (wr_request_writer_batch_eq a0 a1 R w) h)
def wr_request_writer_names_la1 : LA := ⟨[0, 0, 1, 1, 1], [0, 15, 16, 17], [], 1, [0]⟩
def wr_request_writer_names_an : List LA := [wr_request_writer_names_la1]
def wr_request_writer_names_v1 (a5 : Addr) (a0 : Option Addr) (a2 a1 : Nat) (a3 a4 : Int) : List Value := [(.pointer (some a5)), .slice a0 a2 a1, .int .i64 a3, .int .i64 a4]
def wr_request_writer_names_m1 (bm0 : Nat) (a0 : Int) : List TB := [⟨bm0, 3, [.int .i64 a0], true⟩]
def wr_request_writer_names_L1 (a5 : Addr) (a2 : Option Addr) (a3 a6 : Nat) (a4 : Int) (bm0 : Nat) (a1 a0 : Int) (K1 : Kh) (R : Value → World → Prop) (w : World) : Prop :=
 w.heap[bm0]? = some (.cells #[.int .i64 a0] 3) →
 brB (decide (a1 < a4)) (
 ixA a2 a3 a1 1 fun q11 =>
 ldStr w q11 fun s12 =>
 ∀ b13, w.heap.size ≤ b13 →
 ∀ w14, Adv [] [b13] w w14 → w14.heap[bm0]? = some (.cells #[.int .i64 a0] 3) →
 w14.heap[b13]? = some (.cells #[.string s12] 9) →
 Calls Tryz.prog 206 #[(.pointer (some a5)), (.pointer (some ⟨b13, 0, none⟩))] w14 fun e w15 => e = .returned (.tuple #[]) ∧ ∃ x16 : Int, w15.heap[bm0]? = some (.cells #[.int .i64 x16] 3) ∧ ∃ s17 : ByteArray, w15.heap[b13]? = some (.cells #[.string s17] 9) ∧
 K1 (wr_request_writer_names_v1 a5 a2 a3 a6 a4 (IntKind.wrap .i64 (a1 + 1))) (wr_request_writer_names_m1 bm0 x16) w15)
 (
 R (.tuple #[]) w)
theorem wr_request_writer_names_L1_eq (a6 : Addr) (a1 : Option Addr) (a3 a2 : Nat) (a4 : Int) (bm0 : Nat) (a5 a0 : Int) (K1 : Kh) (js : Nat → Value) (R : Value → World → Prop) (w : World) :
 headA wr_request_writer_names_la1 ((dnF Tryz.prog wr_request_writer_names_an (code Tryz.f207) 396 [0, 0, 1, 1, 1]) (kthen3 (atA wr_request_writer_names_la1 K1) (kont3 Tryz.prog wr_request_writer_names_an (code Tryz.f207) [1, 1, 1, 0] [] (post3 Tryz.prog Tryz.f207 [] R)))) (wr_request_writer_names_v1 a6 a1 a3 a2 a4 a5) js (wr_request_writer_names_m1 bm0 a0) w = wr_request_writer_names_L1 a6 a1 a3 a2 a4 bm0 a5 a0 K1 R w := by kernel_rfl
def wr_request_writer_names_K1 (a6 : Addr) (a2 : Option Addr) (a4 a3 : Nat) (a5 : Int) (bm0 : Nat) (I : Nat → Int → Int → World → Prop) (m : Nat) (vals : List Value) (mem : List TB) (w : World) : Prop := ∃ m', m' < m ∧ ∃ a1 a0, vals = (wr_request_writer_names_v1 a6 a2 a4 a3 a5 a1) ∧ mem = (wr_request_writer_names_m1 bm0 a0) ∧ I m' a1 a0 w
theorem wr_request_writer_names_leaf1 {a6 : Addr} {a1 : Option Addr} {a3 a2 : Nat} {a4 : Int} {bm0 : Nat} {I : Nat → Int → Int → World → Prop} {m : Nat} {a5 a0 : Int} {w : World} (m' : Nat) (h1 : m' < m) (h2 : I m' a5 a0 w) : wr_request_writer_names_K1 a6 a1 a3 a2 a4 bm0 I m (wr_request_writer_names_v1 a6 a1 a3 a2 a4 a5) (wr_request_writer_names_m1 bm0 a0) w := ⟨m', h1, _, _, rfl, rfl, h2⟩
theorem wr_request_writer_names_rule1 {a7 : Addr} {a3 : Option Addr} {a5 a4 : Nat} {a6 : Int} {bm0 : Nat} {a8 a2 : Int} {R : Value → World → Prop} {w0 : World} (I : Nat → Int → Int → World → Prop) (m0 : Nat) (h0 : I m0 a8 a2 w0)
 (hr : ∀ (m : Nat) (a1 a0 : Int) (w : World), I m a1 a0 w → wr_request_writer_names_L1 a7 a3 a5 a4 a6 bm0 a1 a0 (wr_request_writer_names_K1 a7 a3 a5 a4 a6 bm0 I m) R w) :
 loopD3 wr_request_writer_names_la1 (dnF Tryz.prog wr_request_writer_names_an (code Tryz.f207) 396 [0, 0, 1, 1, 1]) (kont3 Tryz.prog wr_request_writer_names_an (code Tryz.f207) [1, 1, 1, 0] [] (post3 Tryz.prog Tryz.f207 [] R)) (wr_request_writer_names_v1 a7 a3 a5 a4 a6 a8) (wr_request_writer_names_m1 bm0 a2) w0 := by
 refine ⟨fun m vals mem w => ∃ a1 a0, vals = (wr_request_writer_names_v1 a7 a3 a5 a4 a6 a1) ∧ mem = (wr_request_writer_names_m1 bm0 a0) ∧ I m a1 a0 w, m0, ⟨_, _, rfl, rfl, h0⟩, ?_⟩
 rintro m vals mem w ⟨a1, a0, rfl, rfl, hI⟩
 refine ⟨rfl, rfl, fun js => ?_⟩
 have h := hr m a1 a0 w hI
 rw [← wr_request_writer_names_L1_eq _ _ _ _ _ _ _ _ _ js] at h
 exact h
def wr_request_writer_names_T (a0 : Addr) (a2 : Addr) (R : Value → World → Prop) (w : World) : Prop :=
 ldSlice w a2 fun a1 n2 c3 =>
 ∀ b4, w.heap.size ≤ b4 →
 ∀ w5, Adv [] [b4] w w5 → w5.heap[b4]? = some (.cells #[(.int .i64 (n2 : Int))] 3) →
 Calls Tryz.prog 127 #[(.pointer (some a0)), (.pointer (some ⟨b4, 0, none⟩))] w5 fun e w6 => e = .returned (.tuple #[]) ∧ ∃ x7 : Int, w6.heap[b4]? = some (.cells #[.int .i64 x7] 3) ∧
 ldSlice w6 a2 fun a8 n9 c10 =>
 loopD3 wr_request_writer_names_la1 (dnF Tryz.prog wr_request_writer_names_an (code Tryz.f207) 396 [0, 0, 1, 1, 1]) (kont3 Tryz.prog wr_request_writer_names_an (code Tryz.f207) [1, 1, 1, 0] [] (post3 Tryz.prog Tryz.f207 [] R)) (wr_request_writer_names_v1 a0 a8 n9 c10 (n9 : Int) 0) (wr_request_writer_names_m1 b4 x7) w6
theorem wr_request_writer_names_eq (a0 : Addr) (a1 : Addr) (R : Value → World → Prop) (w : World) :
 dnF Tryz.prog wr_request_writer_names_an (code Tryz.f207) 400 [] (post3 Tryz.prog Tryz.f207 [] R) ⟨args0 0 [(.pointer (some a0)), (.pointer (some a1))], fun _ => undef⟩ ⟨[], w, [], [], true⟩ = wr_request_writer_names_T a0 a1 R w := by kernel_rfl
theorem wr_request_writer_names_go {a0 : Addr} {a1 : Addr} {R : Value → World → Prop} {w : World} (h : wr_request_writer_names_T a0 a1 R w) :
 Calls Tryz.prog 207 #[(.pointer (some a0)), (.pointer (some a1))] w fun e w' => ∃ v, e = .returned v ∧ R v w' :=
 calls_none Tryz.wide_mixed (f := 207) (args := [(.pointer (some a0)), (.pointer (some a1))]) Tryz.func207 rfl rfl (by kernel_rfl) rfl (Eq.mpr (wr_request_writer_names_eq a0 a1 R w) h)
def wr_request_part_an : List LA := []
def wr_request_part_T (a1 : Addr) (a0 : Addr) (R : Value → World → Prop) (w : World) : Prop :=
 ∀ w1, Adv [] [] w w1 →
 Calls Tryz.prog 206 #[(.pointer (some a0)), (.pointer (some a1))] w1 fun e w2 => e = .returned (.tuple #[]) ∧
 ∀ w3, Adv [] [] w2 w3 →
 Calls Tryz.prog 127 #[(.pointer (some a0)), (.pointer (some (Addr.add a1 1)))] w3 fun e w4 => e = .returned (.tuple #[]) ∧
 R (.tuple #[]) w4
theorem wr_request_part_eq (a1 : Addr) (a0 : Addr) (R : Value → World → Prop) (w : World) :
 dnF Tryz.prog wr_request_part_an (code Tryz.f142) 400 [] (post3 Tryz.prog Tryz.f142 [] R) ⟨args0 0 [(.iface 182 (.pointer (some a0))), (.pointer (some a1))], fun _ => undef⟩ ⟨[], w, [], [], true⟩ = wr_request_part_T a1 a0 R w := by kernel_rfl
theorem wr_request_part_go {a1 : Addr} {a0 : Addr} {R : Value → World → Prop} {w : World} (h : wr_request_part_T a1 a0 R w) :
 Calls Tryz.prog 142 #[(.iface 182 (.pointer (some a0))), (.pointer (some a1))] w fun e w' => ∃ v, e = .returned v ∧ R v w' :=
 calls_none Tryz.wide_mixed (f := 142) (args := [(.iface 182 (.pointer (some a0))), (.pointer (some a1))]) Tryz.func142 rfl rfl (by kernel_rfl) rfl (Eq.mpr (wr_request_part_eq a1 a0 R w) h)
def wr_request_member_an : List LA := []
def wr_request_member_T (a1 : Addr) (a0 : Addr) (R : Value → World → Prop) (w : World) : Prop :=
 ∀ w1, Adv [] [] w w1 →
 Calls Tryz.prog 206 #[(.pointer (some a0)), (.pointer (some (Addr.add a1 9)))] w1 fun e w2 => e = .returned (.tuple #[]) ∧
 ∀ w3, Adv [] [] w2 w3 →
 Calls Tryz.prog 206 #[(.pointer (some a0)), (.pointer (some (Addr.add a1 10)))] w3 fun e w4 => e = .returned (.tuple #[]) ∧
 R (.tuple #[]) w4
theorem wr_request_member_eq (a1 : Addr) (a0 : Addr) (R : Value → World → Prop) (w : World) :
 dnF Tryz.prog wr_request_member_an (code Tryz.f143) 400 [] (post3 Tryz.prog Tryz.f143 [] R) ⟨args0 0 [(.iface 182 (.pointer (some a0))), (.pointer (some a1))], fun _ => undef⟩ ⟨[], w, [], [], true⟩ = wr_request_member_T a1 a0 R w := by kernel_rfl
theorem wr_request_member_go {a1 : Addr} {a0 : Addr} {R : Value → World → Prop} {w : World} (h : wr_request_member_T a1 a0 R w) :
 Calls Tryz.prog 143 #[(.iface 182 (.pointer (some a0))), (.pointer (some a1))] w fun e w' => ∃ v, e = .returned v ∧ R v w' :=
 calls_none Tryz.wide_mixed (f := 143) (args := [(.iface 182 (.pointer (some a0))), (.pointer (some a1))]) Tryz.func143 rfl rfl (by kernel_rfl) rfl (Eq.mpr (wr_request_member_eq a1 a0 R w) h)
def wr_request_visit_an : List LA := []
def wr_request_visit_T (a1 : Addr) (a0 : Addr) (R : Value → World → Prop) (w : World) : Prop :=
 ldInt .i64 w a1 fun x1 =>
 brB (x1 == 0) (
 ∀ w2, Adv [] [] w w2 →
 Calls Tryz.prog 206 #[(.pointer (some a0)), (.pointer (some (Addr.add a1 1)))] w2 fun e w3 => e = .returned (.tuple #[]) ∧
 ∀ w4, Adv [] [] w3 w4 →
 Calls Tryz.prog 127 #[(.pointer (some a0)), (.pointer (some (Addr.add a1 3)))] w4 fun e w5 => e = .returned (.tuple #[]) ∧
 R (.tuple #[]) w5)
 (
 brB (x1 == 1) (
 brB (x1 == 1) (
 ∀ w6, Adv [] [] w w6 →
 Calls Tryz.prog 127 #[(.pointer (some a0)), (.pointer (some (Addr.add a1 3)))] w6 fun e w7 => e = .returned (.tuple #[]) ∧
 R (.tuple #[]) w7)
 (
 brB (x1 == 2) (
 Calls Tryz.prog 142 #[(.iface 182 (.pointer (some a0))), (.pointer (some (Addr.add a1 1)))] w fun e w8 => e = .returned (.tuple #[]) ∧
 ∀ w9, Adv [] [] w8 w9 →
 Calls Tryz.prog 204 #[(.pointer (some a0)), (.pointer (some (Addr.add a1 5)))] w9 fun e w10 => e = .returned (.tuple #[]) ∧
 R (.tuple #[]) w10)
 (
 brB (x1 == 3) (
 Calls Tryz.prog 142 #[(.iface 182 (.pointer (some a0))), (.pointer (some (Addr.add a1 1)))] w fun e w11 => e = .returned (.tuple #[]) ∧
 ∀ w12, Adv [] [] w11 w12 →
 Calls Tryz.prog 127 #[(.pointer (some a0)), (.pointer (some (Addr.add a1 4)))] w12 fun e w13 => e = .returned (.tuple #[]) ∧
 ∀ w14, Adv [] [] w13 w14 →
 Calls Tryz.prog 127 #[(.pointer (some a0)), (.pointer (some (Addr.add a1 3)))] w14 fun e w15 => e = .returned (.tuple #[]) ∧
 R (.tuple #[]) w15)
 (
 brB (x1 == 4) (
 Calls Tryz.prog 142 #[(.iface 182 (.pointer (some a0))), (.pointer (some (Addr.add a1 1)))] w fun e w16 => e = .returned (.tuple #[]) ∧
 ∀ w17, Adv [] [] w16 w17 →
 Calls Tryz.prog 127 #[(.pointer (some a0)), (.pointer (some (Addr.add a1 4)))] w17 fun e w18 => e = .returned (.tuple #[]) ∧
 R (.tuple #[]) w18)
 (
 brB (x1 == 5) (
 Calls Tryz.prog 142 #[(.iface 182 (.pointer (some a0))), (.pointer (some (Addr.add a1 1)))] w fun e w19 => e = .returned (.tuple #[]) ∧
 R (.tuple #[]) w19)
 (
 brB (x1 == 6) (
 Calls Tryz.prog 143 #[(.iface 182 (.pointer (some a0))), (.pointer (some a1))] w fun e w20 => e = .returned (.tuple #[]) ∧
 ∀ w21, Adv [] [] w20 w21 →
 Calls Tryz.prog 127 #[(.pointer (some a0)), (.pointer (some (Addr.add a1 3)))] w21 fun e w22 => e = .returned (.tuple #[]) ∧
 ∀ w23, Adv [] [] w22 w23 →
 Calls Tryz.prog 205 #[(.pointer (some a0)), (.pointer (some (Addr.add a1 12)))] w23 fun e w24 => e = .returned (.tuple #[]) ∧
 ∀ w25, Adv [] [] w24 w25 →
 Calls Tryz.prog 207 #[(.pointer (some a0)), (.pointer (some (Addr.add a1 13)))] w25 fun e w26 => e = .returned (.tuple #[]) ∧
 R (.tuple #[]) w26)
 (
 brB (x1 == 7) (
 brB (x1 == 7) (
 Calls Tryz.prog 143 #[(.iface 182 (.pointer (some a0))), (.pointer (some a1))] w fun e w27 => e = .returned (.tuple #[]) ∧
 ∀ w28, Adv [] [] w27 w28 →
 Calls Tryz.prog 127 #[(.pointer (some a0)), (.pointer (some (Addr.add a1 11)))] w28 fun e w29 => e = .returned (.tuple #[]) ∧
 R (.tuple #[]) w29)
 (
 brB (x1 == 10) (
 Calls Tryz.prog 143 #[(.iface 182 (.pointer (some a0))), (.pointer (some a1))] w fun e w30 => e = .returned (.tuple #[]) ∧
 ∀ w31, Adv [] [] w30 w31 →
 Calls Tryz.prog 127 #[(.pointer (some a0)), (.pointer (some (Addr.add a1 11)))] w31 fun e w32 => e = .returned (.tuple #[]) ∧
 Calls Tryz.prog 142 #[(.iface 182 (.pointer (some a0))), (.pointer (some (Addr.add a1 1)))] w32 fun e w33 => e = .returned (.tuple #[]) ∧
 ∀ w34, Adv [] [] w33 w34 →
 Calls Tryz.prog 127 #[(.pointer (some a0)), (.pointer (some (Addr.add a1 4)))] w34 fun e w35 => e = .returned (.tuple #[]) ∧
 R (.tuple #[]) w35)
 (
 brB (x1 == 11) (
 ∀ w36, Adv [] [] w w36 →
 Calls Tryz.prog 206 #[(.pointer (some a0)), (.pointer (some (Addr.add a1 9)))] w36 fun e w37 => e = .returned (.tuple #[]) ∧
 Calls Tryz.prog 142 #[(.iface 182 (.pointer (some a0))), (.pointer (some (Addr.add a1 1)))] w37 fun e w38 => e = .returned (.tuple #[]) ∧
 R (.tuple #[]) w38)
 (
 R (.tuple #[]) w))))
 (
 brB (x1 == 8) (
 brB (x1 == 8) (
 Calls Tryz.prog 143 #[(.iface 182 (.pointer (some a0))), (.pointer (some a1))] w fun e w39 => e = .returned (.tuple #[]) ∧
 ∀ w40, Adv [] [] w39 w40 →
 Calls Tryz.prog 127 #[(.pointer (some a0)), (.pointer (some (Addr.add a1 11)))] w40 fun e w41 => e = .returned (.tuple #[]) ∧
 R (.tuple #[]) w41)
 (
 brB (x1 == 10) (
 Calls Tryz.prog 143 #[(.iface 182 (.pointer (some a0))), (.pointer (some a1))] w fun e w42 => e = .returned (.tuple #[]) ∧
 ∀ w43, Adv [] [] w42 w43 →
 Calls Tryz.prog 127 #[(.pointer (some a0)), (.pointer (some (Addr.add a1 11)))] w43 fun e w44 => e = .returned (.tuple #[]) ∧
 Calls Tryz.prog 142 #[(.iface 182 (.pointer (some a0))), (.pointer (some (Addr.add a1 1)))] w44 fun e w45 => e = .returned (.tuple #[]) ∧
 ∀ w46, Adv [] [] w45 w46 →
 Calls Tryz.prog 127 #[(.pointer (some a0)), (.pointer (some (Addr.add a1 4)))] w46 fun e w47 => e = .returned (.tuple #[]) ∧
 R (.tuple #[]) w47)
 (
 brB (x1 == 11) (
 ∀ w48, Adv [] [] w w48 →
 Calls Tryz.prog 206 #[(.pointer (some a0)), (.pointer (some (Addr.add a1 9)))] w48 fun e w49 => e = .returned (.tuple #[]) ∧
 Calls Tryz.prog 142 #[(.iface 182 (.pointer (some a0))), (.pointer (some (Addr.add a1 1)))] w49 fun e w50 => e = .returned (.tuple #[]) ∧
 R (.tuple #[]) w50)
 (
 R (.tuple #[]) w))))
 (
 brB (x1 == 9) (
 Calls Tryz.prog 143 #[(.iface 182 (.pointer (some a0))), (.pointer (some a1))] w fun e w51 => e = .returned (.tuple #[]) ∧
 ∀ w52, Adv [] [] w51 w52 →
 Calls Tryz.prog 127 #[(.pointer (some a0)), (.pointer (some (Addr.add a1 11)))] w52 fun e w53 => e = .returned (.tuple #[]) ∧
 R (.tuple #[]) w53)
 (
 brB (x1 == 10) (
 Calls Tryz.prog 143 #[(.iface 182 (.pointer (some a0))), (.pointer (some a1))] w fun e w54 => e = .returned (.tuple #[]) ∧
 ∀ w55, Adv [] [] w54 w55 →
 Calls Tryz.prog 127 #[(.pointer (some a0)), (.pointer (some (Addr.add a1 11)))] w55 fun e w56 => e = .returned (.tuple #[]) ∧
 Calls Tryz.prog 142 #[(.iface 182 (.pointer (some a0))), (.pointer (some (Addr.add a1 1)))] w56 fun e w57 => e = .returned (.tuple #[]) ∧
 ∀ w58, Adv [] [] w57 w58 →
 Calls Tryz.prog 127 #[(.pointer (some a0)), (.pointer (some (Addr.add a1 4)))] w58 fun e w59 => e = .returned (.tuple #[]) ∧
 R (.tuple #[]) w59)
 (
 brB (x1 == 11) (
 ∀ w60, Adv [] [] w w60 →
 Calls Tryz.prog 206 #[(.pointer (some a0)), (.pointer (some (Addr.add a1 9)))] w60 fun e w61 => e = .returned (.tuple #[]) ∧
 Calls Tryz.prog 142 #[(.iface 182 (.pointer (some a0))), (.pointer (some (Addr.add a1 1)))] w61 fun e w62 => e = .returned (.tuple #[]) ∧
 R (.tuple #[]) w62)
 (
 R (.tuple #[]) w))))))))))))
 (
 brB (x1 == 12) (
 ∀ w63, Adv [] [] w w63 →
 Calls Tryz.prog 127 #[(.pointer (some a0)), (.pointer (some (Addr.add a1 3)))] w63 fun e w64 => e = .returned (.tuple #[]) ∧
 R (.tuple #[]) w64)
 (
 brB (x1 == 2) (
 Calls Tryz.prog 142 #[(.iface 182 (.pointer (some a0))), (.pointer (some (Addr.add a1 1)))] w fun e w65 => e = .returned (.tuple #[]) ∧
 ∀ w66, Adv [] [] w65 w66 →
 Calls Tryz.prog 204 #[(.pointer (some a0)), (.pointer (some (Addr.add a1 5)))] w66 fun e w67 => e = .returned (.tuple #[]) ∧
 R (.tuple #[]) w67)
 (
 brB (x1 == 3) (
 Calls Tryz.prog 142 #[(.iface 182 (.pointer (some a0))), (.pointer (some (Addr.add a1 1)))] w fun e w68 => e = .returned (.tuple #[]) ∧
 ∀ w69, Adv [] [] w68 w69 →
 Calls Tryz.prog 127 #[(.pointer (some a0)), (.pointer (some (Addr.add a1 4)))] w69 fun e w70 => e = .returned (.tuple #[]) ∧
 ∀ w71, Adv [] [] w70 w71 →
 Calls Tryz.prog 127 #[(.pointer (some a0)), (.pointer (some (Addr.add a1 3)))] w71 fun e w72 => e = .returned (.tuple #[]) ∧
 R (.tuple #[]) w72)
 (
 brB (x1 == 4) (
 Calls Tryz.prog 142 #[(.iface 182 (.pointer (some a0))), (.pointer (some (Addr.add a1 1)))] w fun e w73 => e = .returned (.tuple #[]) ∧
 ∀ w74, Adv [] [] w73 w74 →
 Calls Tryz.prog 127 #[(.pointer (some a0)), (.pointer (some (Addr.add a1 4)))] w74 fun e w75 => e = .returned (.tuple #[]) ∧
 R (.tuple #[]) w75)
 (
 brB (x1 == 5) (
 Calls Tryz.prog 142 #[(.iface 182 (.pointer (some a0))), (.pointer (some (Addr.add a1 1)))] w fun e w76 => e = .returned (.tuple #[]) ∧
 R (.tuple #[]) w76)
 (
 brB (x1 == 6) (
 Calls Tryz.prog 143 #[(.iface 182 (.pointer (some a0))), (.pointer (some a1))] w fun e w77 => e = .returned (.tuple #[]) ∧
 ∀ w78, Adv [] [] w77 w78 →
 Calls Tryz.prog 127 #[(.pointer (some a0)), (.pointer (some (Addr.add a1 3)))] w78 fun e w79 => e = .returned (.tuple #[]) ∧
 ∀ w80, Adv [] [] w79 w80 →
 Calls Tryz.prog 205 #[(.pointer (some a0)), (.pointer (some (Addr.add a1 12)))] w80 fun e w81 => e = .returned (.tuple #[]) ∧
 ∀ w82, Adv [] [] w81 w82 →
 Calls Tryz.prog 207 #[(.pointer (some a0)), (.pointer (some (Addr.add a1 13)))] w82 fun e w83 => e = .returned (.tuple #[]) ∧
 R (.tuple #[]) w83)
 (
 brB (x1 == 7) (
 brB (x1 == 7) (
 Calls Tryz.prog 143 #[(.iface 182 (.pointer (some a0))), (.pointer (some a1))] w fun e w84 => e = .returned (.tuple #[]) ∧
 ∀ w85, Adv [] [] w84 w85 →
 Calls Tryz.prog 127 #[(.pointer (some a0)), (.pointer (some (Addr.add a1 11)))] w85 fun e w86 => e = .returned (.tuple #[]) ∧
 R (.tuple #[]) w86)
 (
 brB (x1 == 10) (
 Calls Tryz.prog 143 #[(.iface 182 (.pointer (some a0))), (.pointer (some a1))] w fun e w87 => e = .returned (.tuple #[]) ∧
 ∀ w88, Adv [] [] w87 w88 →
 Calls Tryz.prog 127 #[(.pointer (some a0)), (.pointer (some (Addr.add a1 11)))] w88 fun e w89 => e = .returned (.tuple #[]) ∧
 Calls Tryz.prog 142 #[(.iface 182 (.pointer (some a0))), (.pointer (some (Addr.add a1 1)))] w89 fun e w90 => e = .returned (.tuple #[]) ∧
 ∀ w91, Adv [] [] w90 w91 →
 Calls Tryz.prog 127 #[(.pointer (some a0)), (.pointer (some (Addr.add a1 4)))] w91 fun e w92 => e = .returned (.tuple #[]) ∧
 R (.tuple #[]) w92)
 (
 brB (x1 == 11) (
 ∀ w93, Adv [] [] w w93 →
 Calls Tryz.prog 206 #[(.pointer (some a0)), (.pointer (some (Addr.add a1 9)))] w93 fun e w94 => e = .returned (.tuple #[]) ∧
 Calls Tryz.prog 142 #[(.iface 182 (.pointer (some a0))), (.pointer (some (Addr.add a1 1)))] w94 fun e w95 => e = .returned (.tuple #[]) ∧
 R (.tuple #[]) w95)
 (
 R (.tuple #[]) w))))
 (
 brB (x1 == 8) (
 brB (x1 == 8) (
 Calls Tryz.prog 143 #[(.iface 182 (.pointer (some a0))), (.pointer (some a1))] w fun e w96 => e = .returned (.tuple #[]) ∧
 ∀ w97, Adv [] [] w96 w97 →
 Calls Tryz.prog 127 #[(.pointer (some a0)), (.pointer (some (Addr.add a1 11)))] w97 fun e w98 => e = .returned (.tuple #[]) ∧
 R (.tuple #[]) w98)
 (
 brB (x1 == 10) (
 Calls Tryz.prog 143 #[(.iface 182 (.pointer (some a0))), (.pointer (some a1))] w fun e w99 => e = .returned (.tuple #[]) ∧
 ∀ w100, Adv [] [] w99 w100 →
 Calls Tryz.prog 127 #[(.pointer (some a0)), (.pointer (some (Addr.add a1 11)))] w100 fun e w101 => e = .returned (.tuple #[]) ∧
 Calls Tryz.prog 142 #[(.iface 182 (.pointer (some a0))), (.pointer (some (Addr.add a1 1)))] w101 fun e w102 => e = .returned (.tuple #[]) ∧
 ∀ w103, Adv [] [] w102 w103 →
 Calls Tryz.prog 127 #[(.pointer (some a0)), (.pointer (some (Addr.add a1 4)))] w103 fun e w104 => e = .returned (.tuple #[]) ∧
 R (.tuple #[]) w104)
 (
 brB (x1 == 11) (
 ∀ w105, Adv [] [] w w105 →
 Calls Tryz.prog 206 #[(.pointer (some a0)), (.pointer (some (Addr.add a1 9)))] w105 fun e w106 => e = .returned (.tuple #[]) ∧
 Calls Tryz.prog 142 #[(.iface 182 (.pointer (some a0))), (.pointer (some (Addr.add a1 1)))] w106 fun e w107 => e = .returned (.tuple #[]) ∧
 R (.tuple #[]) w107)
 (
 R (.tuple #[]) w))))
 (
 brB (x1 == 9) (
 Calls Tryz.prog 143 #[(.iface 182 (.pointer (some a0))), (.pointer (some a1))] w fun e w108 => e = .returned (.tuple #[]) ∧
 ∀ w109, Adv [] [] w108 w109 →
 Calls Tryz.prog 127 #[(.pointer (some a0)), (.pointer (some (Addr.add a1 11)))] w109 fun e w110 => e = .returned (.tuple #[]) ∧
 R (.tuple #[]) w110)
 (
 brB (x1 == 10) (
 Calls Tryz.prog 143 #[(.iface 182 (.pointer (some a0))), (.pointer (some a1))] w fun e w111 => e = .returned (.tuple #[]) ∧
 ∀ w112, Adv [] [] w111 w112 →
 Calls Tryz.prog 127 #[(.pointer (some a0)), (.pointer (some (Addr.add a1 11)))] w112 fun e w113 => e = .returned (.tuple #[]) ∧
 Calls Tryz.prog 142 #[(.iface 182 (.pointer (some a0))), (.pointer (some (Addr.add a1 1)))] w113 fun e w114 => e = .returned (.tuple #[]) ∧
 ∀ w115, Adv [] [] w114 w115 →
 Calls Tryz.prog 127 #[(.pointer (some a0)), (.pointer (some (Addr.add a1 4)))] w115 fun e w116 => e = .returned (.tuple #[]) ∧
 R (.tuple #[]) w116)
 (
 brB (x1 == 11) (
 ∀ w117, Adv [] [] w w117 →
 Calls Tryz.prog 206 #[(.pointer (some a0)), (.pointer (some (Addr.add a1 9)))] w117 fun e w118 => e = .returned (.tuple #[]) ∧
 Calls Tryz.prog 142 #[(.iface 182 (.pointer (some a0))), (.pointer (some (Addr.add a1 1)))] w118 fun e w119 => e = .returned (.tuple #[]) ∧
 R (.tuple #[]) w119)
 (
 R (.tuple #[]) w)))))))))))))
theorem wr_request_visit_eq (a1 : Addr) (a0 : Addr) (R : Value → World → Prop) (w : World) :
 dnF Tryz.prog wr_request_visit_an (code Tryz.f104) 400 [] (post3 Tryz.prog Tryz.f104 [] R) ⟨args0 0 [(.iface 182 (.pointer (some a0))), (.pointer (some a1))], fun _ => undef⟩ ⟨[], w, [], [], true⟩ = wr_request_visit_T a1 a0 R w := by kernel_rfl
theorem wr_request_visit_go {a1 : Addr} {a0 : Addr} {R : Value → World → Prop} {w : World} (h : wr_request_visit_T a1 a0 R w) :
 Calls Tryz.prog 104 #[(.iface 182 (.pointer (some a0))), (.pointer (some a1))] w fun e w' => ∃ v, e = .returned v ∧ R v w' :=
 calls_none Tryz.wide_mixed (f := 104) (args := [(.iface 182 (.pointer (some a0))), (.pointer (some a1))]) Tryz.func104 rfl rfl (by kernel_rfl) rfl (Eq.mpr (wr_request_visit_eq a1 a0 R w) h)
def wr_request_Put_an : List LA := []
def wr_request_Put_T (a9 : Int) (b0 : ByteArray) (b2 b3 b4 b6 b7 b8 : Int) (a3 : Option Addr) (a5 a4 : Nat) (b9 a6 : ByteArray) (a7 : Int) (a8 : Bool) (a0 : Option Addr) (a2 a1 : Nat) (R : Value → World → Prop) (w : World) : Prop :=
 ∀ b1, w.heap.size ≤ b1 →
 ∀ w2, Adv [] [b1] w w2 →
 Calls Tryz.prog 59 #[(.agg #[.int .i64 a9, .string b0, .int .i64 b2, .int .i64 b3, .int .i64 b4, .int .i64 b6, .int .i64 b7, .int .i64 b8, .slice a3 a5 a4, .string b9, .string a6, .int .i64 a7, .bool a8, .slice a0 a2 a1])] w2 fun e w3 => ∃ x4 : Int, e = .returned (.int .i64 x4) ∧ Keep [b1] w2 w3 ∧
 brB (x4 != 0) (
 R (.tuple #[(.string (⟨#[]⟩ : ByteArray)), .int .i64 x4]) w3)
 (
 ∀ b5, w3.heap.size ≤ b5 →
 ∀ w6, Adv [] [b5] w3 w6 → w6.heap[b1]? = some (.cells #[.int .i64 a9, .string b0, .int .i64 b2, .int .i64 b3, .int .i64 b4, .int .i64 b6, .int .i64 b7, .int .i64 b8, .slice a3 a5 a4, .string b9, .string a6, .int .i64 a7, .bool a8, .slice a0 a2 a1] 38) →
 w6.heap[b5]? = some (.cells #[.pointer none, .slice none 0 0] 184) →
 Calls Tryz.prog 127 #[(.pointer (some ⟨b5, 0, none⟩)), (.pointer (some ⟨b1, 0, none⟩))] w6 fun e w7 => e = .returned (.tuple #[]) ∧ ∃ (x8 : Int) (s9 : ByteArray) (x10 x11 x12 x13 x14 x15 : Int) (a16 : Option Addr) (n17 c18 : Nat) (s19 s20 : ByteArray) (x21 : Int) (t22 : Bool) (a23 : Option Addr) (n24 c25 : Nat), w7.heap[b1]? = some (.cells #[.int .i64 x8, .string s9, .int .i64 x10, .int .i64 x11, .int .i64 x12, .int .i64 x13, .int .i64 x14, .int .i64 x15, .slice a16 n17 c18, .string s19, .string s20, .int .i64 x21, .bool t22, .slice a23 n24 c25] 38) ∧ ∃ (p26 a27 : Option Addr) (n28 c29 : Nat), w7.heap[b5]? = some (.cells #[.pointer p26, .slice a27 n28 c29] 184) ∧
 Calls Tryz.prog 104 #[(.iface 182 (.pointer (some ⟨b5, 0, none⟩))), (.pointer (some ⟨b1, 0, none⟩))] w7 fun e w30 => e = .returned (.tuple #[]) ∧ ∃ (x31 : Int) (s32 : ByteArray) (x33 x34 x35 x36 x37 x38 : Int) (a39 : Option Addr) (n40 c41 : Nat) (s42 s43 : ByteArray) (x44 : Int) (t45 : Bool) (a46 : Option Addr) (n47 c48 : Nat), w30.heap[b1]? = some (.cells #[.int .i64 x31, .string s32, .int .i64 x33, .int .i64 x34, .int .i64 x35, .int .i64 x36, .int .i64 x37, .int .i64 x38, .slice a39 n40 c41, .string s42, .string s43, .int .i64 x44, .bool t45, .slice a46 n47 c48] 38) ∧ ∃ (p49 a50 : Option Addr) (n51 c52 : Nat), w30.heap[b5]? = some (.cells #[.pointer p49, .slice a50 n51 c52] 184) ∧
 Calls Tryz.prog 81 #[(.pointer (some ⟨b5, 0, none⟩))] w30 fun e w53 => ∃ s54 : ByteArray, e = .returned (.string s54) ∧ ∃ (x55 : Int) (s56 : ByteArray) (x57 x58 x59 x60 x61 x62 : Int) (a63 : Option Addr) (n64 c65 : Nat) (s66 s67 : ByteArray) (x68 : Int) (t69 : Bool) (a70 : Option Addr) (n71 c72 : Nat), w53.heap[b1]? = some (.cells #[.int .i64 x55, .string s56, .int .i64 x57, .int .i64 x58, .int .i64 x59, .int .i64 x60, .int .i64 x61, .int .i64 x62, .slice a63 n64 c65, .string s66, .string s67, .int .i64 x68, .bool t69, .slice a70 n71 c72] 38) ∧ ∃ (p73 a74 : Option Addr) (n75 c76 : Nat), w53.heap[b5]? = some (.cells #[.pointer p73, .slice a74 n75 c76] 184) ∧
 R (.tuple #[.string s54, .int .i64 0]) w53)
theorem wr_request_Put_eq (a9 : Int) (b0 : ByteArray) (b1 b2 b3 b4 b5 b6 : Int) (a3 : Option Addr) (a5 a4 : Nat) (b7 a6 : ByteArray) (a7 : Int) (a8 : Bool) (a0 : Option Addr) (a2 a1 : Nat) (R : Value → World → Prop) (w : World) :
 dnF Tryz.prog wr_request_Put_an (code Tryz.f78) 400 [] (post3 Tryz.prog Tryz.f78 [] R) ⟨args0 0 [(.agg #[.int .i64 a9, .string b0, .int .i64 b1, .int .i64 b2, .int .i64 b3, .int .i64 b4, .int .i64 b5, .int .i64 b6, .slice a3 a5 a4, .string b7, .string a6, .int .i64 a7, .bool a8, .slice a0 a2 a1])], fun _ => undef⟩ ⟨[], w, [], [], true⟩ = wr_request_Put_T a9 b0 b1 b2 b3 b4 b5 b6 a3 a5 a4 b7 a6 a7 a8 a0 a2 a1 R w := by kernel_rfl
theorem wr_request_Put_go {a9 : Int} {b0 : ByteArray} {b1 b2 b3 b4 b5 b6 : Int} {a3 : Option Addr} {a5 a4 : Nat} {b7 a6 : ByteArray} {a7 : Int} {a8 : Bool} {a0 : Option Addr} {a2 a1 : Nat} {R : Value → World → Prop} {w : World} (h : wr_request_Put_T a9 b0 b1 b2 b3 b4 b5 b6 a3 a5 a4 b7 a6 a7 a8 a0 a2 a1 R w) :
 Calls Tryz.prog 78 #[(.agg #[.int .i64 a9, .string b0, .int .i64 b1, .int .i64 b2, .int .i64 b3, .int .i64 b4, .int .i64 b5, .int .i64 b6, .slice a3 a5 a4, .string b7, .string a6, .int .i64 a7, .bool a8, .slice a0 a2 a1])] w fun e w' => ∃ v, e = .returned v ∧ R v w' :=
 calls_none Tryz.wide_mixed (f := 78) (args := [(.agg #[.int .i64 a9, .string b0, .int .i64 b1, .int .i64 b2, .int .i64 b3, .int .i64 b4, .int .i64 b5, .int .i64 b6, .slice a3 a5 a4, .string b7, .string a6, .int .i64 a7, .bool a8, .slice a0 a2 a1])]) Tryz.func78 rfl rfl (by kernel_rfl) rfl (Eq.mpr (wr_request_Put_eq a9 b0 b1 b2 b3 b4 b5 b6 a3 a5 a4 b7 a6 a7 a8 a0 a2 a1 R w) h)

end Go.Proofs.YtohgihgddknmmaaGreat

/- A command's bytes. -/
namespace Go.Proofs.YtohgihgddknmmaaGreat
open Go Go.RowKit
set_option linter.unusedVariables false
set_option linter.unusedSimpArgs false

def flagN (b : Bool) : Nat := if b then 1 else 0
def namesL (l : List ByteArray) : List UInt8 := vPutL l.length ++ l.flatMap putT
def opBody (o : POp) : List UInt8 :=
  if o.kind = 0 then putT o.part.t ++ vPutL o.n.toNat
  else if o.kind = 1 then vPutL o.n.toNat
  else if o.kind = 2 then partB o.part ++ batchB o.b
  else if o.kind = 3 then partB o.part ++ vPutL o.off.toNat ++ vPutL o.n.toNat
  else if o.kind = 4 then partB o.part ++ vPutL o.off.toNat
  else if o.kind = 5 then partB o.part
  else if o.kind = 6 then putT o.g ++ putT o.m ++ vPutL o.n.toNat ++ vPutL (flagN o.robin) ++ namesL o.topics
  else if o.kind = 7 ∨ o.kind = 8 ∨ o.kind = 9 then putT o.g ++ putT o.m ++ vPutL o.gen.toNat
  else if o.kind = 10 then putT o.g ++ putT o.m ++ vPutL o.gen.toNat ++ partB o.part ++ vPutL o.off.toNat
  else if o.kind = 11 then putT o.g ++ partB o.part
  else vPutL o.n.toNat
def opB (o : POp) : List UInt8 := vPutL o.kind.toNat ++ opBody o
structure OpGood (o : POp) : Prop where
  k : 0 ≤ o.kind ∧ o.kind ≤ 12
  nn : num o.part.n = true ∧ num o.n = true ∧ num o.off = true ∧ num o.gen = true
  nt : (ha o.kind 112 || ha o.kind 116) = true → nameB o.part.t = true
  ng : ha o.kind 103 = true → nameB o.g = true
  nm : ha o.kind 109 = true → nameB o.m = true
  nl : ha o.kind 108 = true → namesB o.topics = true
  b : o.kind = 2 → batchE o.b = 0
  only : onlyB o = true
theorem OpGood.of {o : POp} (h : opE o = 0) : OpGood o := by
  unfold opE at h
  split at h
  · omega
  rename_i hk
  split at h
  · omega
  rename_i hf
  split at h
  · omega
  rename_i hn
  have hf := Bool.not_eq_false _ ▸ hf
  have hn := Bool.not_eq_false _ ▸ hn
  simp only [Bool.and_eq_true] at hn
  simp only [formB, Bool.and_eq_true] at hf
  obtain ⟨⟨⟨⟨f1, f2⟩, f3⟩, f4⟩, f5⟩ := hf
  refine ⟨by omega, ⟨hn.1.1.1, hn.1.1.2, hn.1.2, hn.2⟩, fun g => ?_, fun g => ?_, fun g => ?_, fun g => ?_, fun g => ?_, f1⟩
  · rw [g] at f2; simpa using f2
  · rw [g] at f3; simpa using f3
  · rw [g] at f4; simpa using f4
  · rw [g] at f5; simpa using f5
  · rw [if_pos g] at h; exact h
theorem name_le {s : ByteArray} (h : nameB s = true) : s.size ≤ 16 ∧ 1 ≤ s.size := by simp [nameB] at h; omega
theorem num_le {x : Int} (h : num x = true) : 0 ≤ x ∧ x ≤ 1099511627776 := by simpa [num] using h

/-- The writer's variable, the command's. -/
structure WSt (w0 w : World) (B bw bo M : Nat) (l : List UInt8) (cs : List Value) : Prop where
  b : Bd B bw l w
  o : w.heap[bo]? = some (.cells cs.toArray 38)
  m : Mod [] w0 w
  hB : w0.heap.size ≤ B
  ne : bo ≠ bw
  len : l.length ≤ M
  hM : M ≤ 1000000
theorem WSt.adv {w0 w w' : World} {B bw bo M : Nat} {l : List UInt8} {cs : List Value} {N : List Nat} (H : WSt w0 w B bw bo M l cs) (A : Adv [] N w w') : WSt w0 w' B bw bo M l cs :=
  ⟨H.b.keep0 A.mod, A.mod.keep0 H.o, H.m.go0 A.mod (by simp), H.hB, H.ne, H.len, H.hM⟩
theorem WSt.size {w0 w : World} {B bw bo M : Nat} {l : List UInt8} {cs : List Value} (H : WSt w0 w B bw bo M l cs) : B ≤ w.heap.size := by
  have := H.b.lt; omega
theorem WSt.put {w0 w w' : World} {B bw bo M M' : Nat} {l l' : List UInt8} {cs : List Value} (H : WSt w0 w B bw bo M l cs) (hb : Bd B bw (l ++ l') w') (W : Wr B bw w w') (hl : l'.length + M ≤ M') (hM : M' ≤ 1000000) : WSt w0 w' B bw bo M' (l ++ l') cs :=
  ⟨hb, W.keep H.o H.ne (by decide), W.mod H.m H.hB, H.hB, H.ne, by rw [List.length_append]; have := H.len; omega, hM⟩
theorem WSt.cell {w0 w : World} {B bw bo M : Nat} {l : List UInt8} {cs : List Value} (H : WSt w0 w B bw bo M l cs) {i : Nat} {v : Value} (hc : cs[i]? = some v) : w.cell? ⟨bo, i, none⟩ = some v := by
  rw [cell_at H.o]; simpa using hc
theorem wNum_step {w0 w : World} {B bw bo M off : Nat} {l : List UInt8} {cs : List Value} {x : Int} {R : World → Prop} (H : WSt w0 w B bw bo M l cs) (hc : cs[off]? = some (.int .i64 x)) (hx : num x = true) (hM : M + 20 ≤ 1000000)
    (k : ∀ w', WSt w0 w' B bw bo (M + 20) (l ++ vPutL x.toNat) cs → R w') :
    Calls Tryz.prog 127 #[.pointer (some ⟨bw, 0, none⟩), .pointer (some ⟨bo, off, none⟩)] w fun e w' => e = .returned (.tuple #[]) ∧ R w' := by
  have hx := num_le hx
  obtain ⟨n, rfl⟩ := Int.eq_ofNat_of_zero_le hx.1
  have hl := H.len
  refine (Wnum_ok H.b (by omega) H.size (x := n) (H.cell hc) (by omega)).mono ?_
  rintro e w' ⟨rfl, hb, W⟩
  have := vPutL_len n (by omega)
  exact ⟨rfl, k w' (H.put hb W (by rw [Int.toNat_natCast]; omega) hM)⟩
theorem wName_step {w0 w : World} {B bw bo M off : Nat} {l : List UInt8} {cs : List Value} {s : ByteArray} {R : World → Prop} (H : WSt w0 w B bw bo M l cs) (hc : cs[off]? = some (.string s)) (hs : s.size ≤ 16) (hM : M + 30 ≤ 1000000)
    (k : ∀ w', WSt w0 w' B bw bo (M + 30) (l ++ putT s) cs → R w') :
    Calls Tryz.prog 206 #[.pointer (some ⟨bw, 0, none⟩), .pointer (some ⟨bo, off, none⟩)] w fun e w' => e = .returned (.tuple #[]) ∧ R w' := by
  have hl := H.len
  refine (Wname_ok H.b (by omega) H.size (s := s) (H.cell hc) (by omega)).mono ?_
  rintro e w' ⟨rfl, hb, W⟩
  have := putT_len s (by omega)
  exact ⟨rfl, k w' (H.put hb W (by omega) hM)⟩
theorem wFlag_step {w0 w : World} {B bw bo M off : Nat} {l : List UInt8} {cs : List Value} {t : Bool} {R : World → Prop} (H : WSt w0 w B bw bo M l cs) (hc : cs[off]? = some (.bool t)) (hM : M + 20 ≤ 1000000)
    (k : ∀ w', WSt w0 w' B bw bo (M + 20) (l ++ vPutL (flagN t)) cs → R w') :
    Calls Tryz.prog 205 #[.pointer (some ⟨bw, 0, none⟩), .pointer (some ⟨bo, off, none⟩)] w fun e w' => e = .returned (.tuple #[]) ∧ R w' := by
  refine go_of (wr_request_writer_flag_go ?_)
  intro b1 f1 w1 A1
  have H1 := H.adv A1
  have l1 := A1.lt b1 (by simp)
  have hb0 := H.b.lt
  refine ldBool_of (x := t) (H1.cell hc) ?_
  have hl := H.len
  have go : ∀ {w2 : World} {S : List Nat} (hS : ∀ i ∈ S, i = b1), Adv S [] w1 w2 → w2.heap[b1]? = some (.cells #[.int .i64 (flagN t : Nat)] 3) → Calls Tryz.prog 127 #[.pointer (some ⟨bw, 0, none⟩), .pointer (some ⟨b1, 0, none⟩)] w2 fun e w5 => e = .returned (.tuple #[]) ∧ ∃ x6 : Int, w5.heap[b1]? = some (.cells #[.int .i64 x6] 3) ∧ (Value.tuple #[] = Value.tuple #[] ∧ R w5) := fun {w2 S} hS A2 h2 => by
    have hne : b1 ≠ bw := by omega
    have hM2 : Mod [] w w2 := A1.mod.go0 A2.mod fun i hi => by rw [hS i hi]; exact f1
    have H2 : WSt w0 w2 B bw bo M l cs := ⟨H.b.keep0 hM2, hM2.keep0 H.o, H.m.go0 hM2 (by simp), H.hB, H.ne, H.len, H.hM⟩
    refine (Wnum_ok H2.b (by omega) H2.size (a := ⟨b1, 0, none⟩) (x := flagN t) (by rw [cell_at h2]; rfl) (by cases t <;> decide)).mono ?_
    rintro e w3 ⟨rfl, hb, W⟩
    have := vPutL_len (flagN t) (by cases t <;> decide)
    exact ⟨rfl, _, W.keep h2 hne (by decide), rfl, k w3 (H2.put hb W (by omega) hM)⟩
  refine brB_of (fun g => ?_) fun g => ?_
  · subst g; exact fun w2 A2 h2 => go (by simp) A2 h2
  · subst g; exact fun w2 A2 h2 => go (by simp) A2 h2
theorem wBatch_step {w0 w : World} {B bw bo M : Nat} {l : List UInt8} {cs : List Value} {b : PBatch} {rs : Sl} {R : World → Prop} (H : WSt w0 w B bw bo M l cs) (h5 : cs[5]? = some (.int .i64 b.prod)) (h6 : cs[6]? = some (.int .i64 b.epoch)) (h7 : cs[7]? = some (.int .i64 b.seq)) (h8 : cs[8]? = some (.slice rs.a rs.n rs.c))
    (hs : SlAt w0 4 encR rs.a rs.n b.recs) (hE : batchE b = 0) (hM : M + 20000 ≤ 1000000) (k : ∀ w', WSt w0 w' B bw bo (M + 20000) (l ++ batchB b) cs → R w') :
    Calls Tryz.prog 204 #[.pointer (some ⟨bw, 0, none⟩), .pointer (some ⟨bo, 5, none⟩)] w fun e w' => e = .returned (.tuple #[]) ∧ R w' := by
  have G := BatGood.of hE
  have hl := H.len
  have hbl := G.len
  have hr := G.lr
  refine go_of (wr_request_writer_batch_go ?_)
  refine ldInt_of (x := b.prod) (H.cell h5) (ldInt_of (x := b.epoch) (H.cell h6) (ldInt_of (x := b.seq) (H.cell h7) (ldSlice_of (H.cell h8) ?_)))
  refine (Batch_ok (b := b) (rs := rs) (hs.keep0 H.m) (by omega)).mono ?_
  rintro e w1 ⟨rfl, M1⟩
  have H1 : WSt w0 w1 B bw bo M l cs := ⟨H.b.keep0 M1, M1.keep0 H.o, H.m.go0 M1 (by simp), H.hB, H.ne, H.len, H.hM⟩
  refine ⟨_, _, rfl, ?_⟩
  rw [if_pos hE]
  refine (WS_ok H1.b (l2 := batchB b) (by omega) H1.size).mono ?_
  rintro e w2 ⟨rfl, hb, W⟩
  exact ⟨_, _, rfl, rfl, k w2 (H1.put hb W (by omega) hM)⟩
theorem wNames_step {w0 w : World} {B bw bo M : Nat} {l : List UInt8} {cs : List Value} {tl : List ByteArray} {ts : Sl} {R : World → Prop} (H : WSt w0 w B bw bo M l cs) (hc : cs[13]? = some (.slice ts.a ts.n ts.c))
    (hs : SlAt w0 1 encS ts.a ts.n tl) (hn : namesB tl = true) (hM : M + 300 ≤ 1000000) (k : ∀ w', WSt w0 w' B bw bo (M + 300) (l ++ namesL tl) cs → R w') :
    Calls Tryz.prog 207 #[.pointer (some ⟨bw, 0, none⟩), .pointer (some ⟨bo, 13, none⟩)] w fun e w' => e = .returned (.tuple #[]) ∧ R w' := by
  have hl := H.len
  simp only [namesB, Bool.and_eq_true, decide_eq_true_eq] at hn
  obtain ⟨⟨⟨n1, n2⟩, n3⟩, _⟩ := hn
  have hnm : ∀ s ∈ tl, s.size ≤ 16 := fun s hs => (name_le (List.all_eq_true.1 n3 s hs)).1
  have e4 := hs.1
  refine go_of (wr_request_writer_names_go ?_)
  refine ldSlice_of (H.cell hc) ?_
  intro b1 f1 w1 A1 h1
  have H1 := H.adv A1
  have hb0 := H.b.lt
  refine (Wnum_ok H1.b (by omega) H1.size (a := ⟨b1, 0, none⟩) (x := tl.length) (by rw [cell_at h1, e4]; rfl) (by omega)).mono ?_
  rintro e w2 ⟨rfl, hb2, W2⟩
  have hv := vPutL_len tl.length (by omega)
  have H2 := H1.put hb2 W2 (M' := M + 20) (by omega) (by omega)
  refine ⟨rfl, _, W2.keep h1 (by omega) (by decide), ?_⟩
  have h2 := W2.keep h1 (by omega) (by decide)
  refine ldSlice_of (H2.cell hc) ?_
  refine wr_request_writer_names_rule1 (fun mm x y w' => ∃ k : Nat, x = k ∧ k ≤ tl.length ∧ WSt w0 w' B bw bo (M + 20 + k * 30) (l ++ vPutL tl.length ++ (tl.take k).flatMap putT) cs ∧ b1 < w'.heap.size ∧ mm = tl.length - k) tl.length ⟨0, rfl, by omega, by simpa using H2, lt_of_block h2, rfl⟩ ?_
  rintro mm x y w3 ⟨k', rfl, hk, H3, hb13, rfl⟩ h3
  refine brB_dec (fun hlt => ?_) fun hge => ?_
  · obtain ⟨s, hs'⟩ : ∃ s, tl[k']? = some s := ⟨_, List.getElem?_eq_getElem (by omega)⟩
    have hsz := hnm s (List.mem_of_getElem? hs')
    refine (hs.keep0 H3.m).ix hs' fun q hq => ldStr_of (x := s) (by simpa [add_zero] using hq 0 _ rfl) ?_
    intro b4 f4 w4 A4 h4a h4
    have H4 := H3.adv A4
    have hb3 := H3.b.lt
    have hl4 := H4.len
    refine (Wname_ok H4.b (by omega) H4.size (a := ⟨b4, 0, none⟩) (s := s) (by rw [cell_at h4]; rfl) (by omega)).mono ?_
    rintro e w5 ⟨rfl, hb5, W5⟩
    have hp := putT_len s (by omega)
    have H5 := H4.put hb5 W5 (M' := M + 20 + (k' + 1) * 30) (by omega) (by omega)
    have k5 := W5.keep h4a (by omega) (by decide)
    refine ⟨rfl, _, k5, _, W5.keep h4 (by omega) (by decide), ?_⟩
    refine wr_request_writer_names_leaf1 (tl.length - (k' + 1)) (by omega) ⟨k' + 1, by rw [wrap_id (by omega) (by omega)]; omega, by omega, ?_, lt_of_block k5, rfl⟩
    rw [take_flat hs', ← List.append_assoc]
    exact H5
  · have hk' : k' = tl.length := by omega
    subst hk'
    rw [List.take_length, List.append_assoc] at H3
    exact ⟨rfl, k w3 ⟨H3.b, H3.o, H3.m, H3.hB, H3.ne, by have := H3.len; exact Nat.le_trans this (by omega), hM⟩⟩
theorem wPart_step {w0 w : World} {B bw bo M : Nat} {l : List UInt8} {cs : List Value} {p : PPart} {R : World → Prop} (H : WSt w0 w B bw bo M l cs) (h1 : cs[1]? = some (.string p.t)) (h2 : cs[2]? = some (.int .i64 p.n)) (hs : p.t.size ≤ 16) (hx : num p.n = true) (hM : M + 50 ≤ 1000000)
    (k : ∀ w', WSt w0 w' B bw bo (M + 50) (l ++ partB p) cs → R w') :
    Calls Tryz.prog 142 #[.iface 182 (.pointer (some ⟨bw, 0, none⟩)), .pointer (some ⟨bo, 1, none⟩)] w fun e w' => e = .returned (.tuple #[]) ∧ R w' := by
  refine go_of (wr_request_part_go ?_)
  intro w1 A1
  refine wName_step (off := 1) (H.adv A1) h1 hs (by omega) fun w2 H2 => ?_
  intro w3 A3
  refine wNum_step (off := 2) (H2.adv A3) h2 hx (by omega) fun w4 H4 => ⟨rfl, k w4 ?_⟩
  rw [List.append_assoc] at H4
  exact H4
theorem wMember_step {w0 w : World} {B bw bo M : Nat} {l : List UInt8} {cs : List Value} {g m : ByteArray} {R : World → Prop} (H : WSt w0 w B bw bo M l cs) (h1 : cs[9]? = some (.string g)) (h2 : cs[10]? = some (.string m)) (hs : g.size ≤ 16) (hs2 : m.size ≤ 16) (hM : M + 60 ≤ 1000000)
    (k : ∀ w', WSt w0 w' B bw bo (M + 60) (l ++ putT g ++ putT m) cs → R w') :
    Calls Tryz.prog 143 #[.iface 182 (.pointer (some ⟨bw, 0, none⟩)), .pointer (some ⟨bo, 0, none⟩)] w fun e w' => e = .returned (.tuple #[]) ∧ R w' := by
  refine go_of (wr_request_member_go ?_)
  intro w1 A1
  refine wName_step (off := 9) (H.adv A1) h1 hs (by omega) fun w2 H2 => ?_
  intro w3 A3
  refine wName_step (off := 10) (H2.adv A3) h2 hs2 (by omega) fun w4 H4 => ⟨rfl, k w4 H4⟩
end Go.Proofs.YtohgihgddknmmaaGreat

/- A command's bytes, as they are put. -/
namespace Go.Proofs.YtohgihgddknmmaaGreat
open Go Go.RowKit
set_option linter.unusedVariables false
set_option linter.unusedSimpArgs false

theorem WSt.most {w0 w : World} {B bw bo M M' : Nat} {l : List UInt8} {cs : List Value} (H : WSt w0 w B bw bo M l cs) (h : M ≤ M') (h' : M' ≤ 1000000) : WSt w0 w B bw bo M' l cs :=
  ⟨H.b, H.o, H.m, H.hB, H.ne, by have := H.len; omega, h'⟩
set_option maxHeartbeats 2000000 in
theorem wVisit_step {w0 w : World} {B bw bo M : Nat} {l : List UInt8} {o : POp} {rs ts : Sl} {R : World → Prop} (H : WSt w0 w B bw bo M l (o.cs rs ts)) (G : OpGood o) (hM : M ≤ 900000)
    (hr : SlAt w0 4 encR rs.a rs.n o.b.recs) (ht : SlAt w0 1 encS ts.a ts.n o.topics) (k : ∀ w', WSt w0 w' B bw bo (M + 25000) (l ++ opBody o) (o.cs rs ts) → R w') :
    Calls Tryz.prog 104 #[.iface 182 (.pointer (some ⟨bw, 0, none⟩)), .pointer (some ⟨bo, 0, none⟩)] w fun e w' => e = .returned (.tuple #[]) ∧ R w' := by
  refine go_of (wr_request_visit_go ?_)
  obtain ⟨hk, ⟨n1, n2, n3, n4⟩, hT, hG, hMm, hL, hb, ho⟩ := G
  have hT := fun h => (name_le (hT h)).1
  have hG := fun h => (name_le (hG h)).1
  have hMm := fun h => (name_le (hMm h)).1
  obtain ⟨kd, pt, n, off, b, g, m, gen, robin, topics⟩ := o
  simp only at hk hT hG hMm hL hb n1 n2 n3 n4
  refine ldInt_of (x := kd) (H.cell (i := 0) rfl) ?_
  have hk : kd = 0 ∨ kd = 1 ∨ kd = 2 ∨ kd = 3 ∨ kd = 4 ∨ kd = 5 ∨ kd = 6 ∨ kd = 7 ∨ kd = 8 ∨ kd = 9 ∨ kd = 10 ∨ kd = 11 ∨ kd = 12 := by omega
  rcases hk with rfl | rfl | rfl | rfl | rfl | rfl | rfl | rfl | rfl | rfl | rfl | rfl | rfl
  all_goals
    repeat (first
      | refine brT rfl ?_
      | refine brF rfl ?_
      | (intro w' A'; have H := H.adv A'; clear A')
      | refine wNum_step H rfl (by assumption) (by omega) fun w' H => ?_
      | refine wName_step H rfl (by first | exact hT rfl | exact hG rfl | exact hMm rfl) (by omega) fun w' H => ?_
      | refine wFlag_step H rfl (by omega) fun w' H => ?_
      | refine wPart_step (p := pt) H rfl rfl (hT rfl) (by assumption) (by omega) fun w' H => ?_
      | refine wMember_step H rfl rfl (hG rfl) (hMm rfl) (by omega) fun w' H => ?_
      | refine wBatch_step (b := b) (rs := rs) H rfl rfl rfl rfl hr (hb rfl) (by omega) fun w' H => ?_
      | refine wNames_step (ts := ts) H rfl ht (hL rfl) (by omega) fun w' H => ?_)
    refine ⟨rfl, k _ ?_⟩
    have H := H.most (M' := M + 25000) (by omega) (by omega)
    simpa [opBody, List.append_assoc] using H
theorem Bd.fresh {B b : Nat} {w : World} (hB : B ≤ b) (h : w.heap[b]? = some (.cells #[.pointer none, .slice none 0 0] 184)) : Bd B b [] w :=
  .inl ⟨hB, .slice none 0 0, h, ⟨by simp [Lib.byteCells], .inl ⟨rfl, by simp [Lib.byteCells]⟩⟩, by simp [Value.ownBlock]⟩
set_option maxHeartbeats 1000000 in
theorem RPut_ok {w : World} {o : POp} {rs ts : Sl} (h : OpAt w o rs ts) :
    Calls Tryz.prog 78 #[o.v rs ts] w fun e w' => e = .returned (.tuple #[.string (if opE o = 0 then bs (opB o) else bs []), .int .i64 (opE o)]) ∧ Mod [] w w' ∧ (opE o = 0 → (opB o).length ≤ 30000) := by
  refine go_of (wr_request_Put_go ?_)
  intro b1 f1 w2 A2
  have l1 := A2.lt b1 (by simp)
  have s2 := A2.mod.size
  refine (Check_ok (h.keep0 A2.mod)).mono ?_
  rintro _ w3 ⟨rfl, M3⟩
  refine ⟨_, rfl, Keep.of0 M3, ?_⟩
  have s3 := M3.size
  have N3 := A2.mod.go0 M3 (by simp)
  refine brB_of (fun g => ?_) fun g => ?_
  · have g : opE o ≠ 0 := by simpa using g
    rw [if_neg g]
    exact ⟨rfl, N3, fun h => absurd h g⟩
  have g : opE o = 0 := by simpa using g
  have G := OpGood.of g
  have hk := G.k
  intro b5 f5 w6 A6 h61 h65
  have l5 := A6.lt b5 (by simp)
  have s6 := A6.mod.size
  have h3 := h.keep0 N3
  have H0 : WSt w3 w6 w3.heap.size b5 b1 0 [] (o.cs rs ts) := ⟨Bd.fresh f5 h65, h61, A6.mod, Nat.le_refl _, by omega, by simp, by omega⟩
  refine wNum_step (off := 0) H0 rfl (x := o.kind) (by simp [num]; omega) (by omega) fun w7 H7 => ?_
  obtain ⟨p7, a7, n7, c7, hc7⟩ := H7.b.cells
  refine ⟨_, _, _, _, _, _, _, _, _, _, _, _, _, _, _, _, _, _, H7.o, _, _, _, _, hc7, ?_⟩
  refine wVisit_step (o := o) H7 G (by omega) h3.recs h3.topics fun w8 H8 => ?_
  have hN : ([] : List UInt8) ++ vPutL o.kind.toNat ++ opBody o = opB o := by simp [opB]
  rw [hN] at H8
  obtain ⟨p8, a8, n8, c8, hc8⟩ := H8.b.cells
  refine ⟨_, _, _, _, _, _, _, _, _, _, _, _, _, _, _, _, _, _, H8.o, _, _, _, _, hc8, ?_⟩
  refine (String_ok BTw w3.heap.size b5 (opB o) w8 H8.b ?_).mono ?_
  · intro e0
    have h1 : (opB o).length = 0 := by rw [e0]; rfl
    have h2 := (vPutL_len o.kind.toNat (by omega)).1
    rw [opB, List.length_append] at h1
    omega
  rintro _ w9 ⟨rfl, hB9, h9, o9⟩
  have W9 : Wr w3.heap.size b5 w8 w9 := ⟨h9, o9⟩
  obtain ⟨p9, a9, n9, c9, hc9⟩ := Bd.cells hB9
  refine ⟨_, rfl, _, _, _, _, _, _, _, _, _, _, _, _, _, _, _, _, _, _, W9.keep H8.o (by omega) (by decide), _, _, _, _, hc9, ?_, ?_, fun _ => ?_⟩
  · rw [if_pos g, g]; rfl
  · exact N3.go0 (W9.mod H8.m (Nat.le_refl _)) (by simp)
  · have := H8.len; omega
end Go.Proofs.YtohgihgddknmmaaGreat

/- The conditions of Go functions' bodies, printed by gen2.py. -/
namespace Go.Proofs.YtohgihgddknmmaaGreat
open Go Go.RowKit
set_option linter.unusedVariables false
set_option maxRecDepth 100000

def session_New_an : List LA := []
def session_New_T (a0 a1 : Int) (R : Value → World → Prop) (w : World) : Prop :=
 brB (decide (a0 < 1)) (
 R (.tuple #[.pointer none, .int .i64 1]) w)
 (
 brB (decide (a0 > 1099511627776)) (
 R (.tuple #[.pointer none, .int .i64 1]) w)
 (
 Calls Tryz.prog 56 #[.int .i64 a1] w fun e w1 => ∃ x2 : Int, e = .returned (.int .i64 x2) ∧
 brB (x2 == 0) (
 R (.tuple #[.pointer none, .int .i64 1]) w1)
 (
 ∀ b3, w1.heap.size ≤ b3 →
 ∀ w4, Adv [] [b3] w1 w4 → w4.heap[b3]? = some (.cells #[.int .i64 a0, .int .i64 a1, .int .i64 0, .int .i64 0, .pointer none] 104) →
 R (.tuple #[(.pointer (some ⟨b3, 0, none⟩)), .int .i64 0]) w4)))
theorem session_New_eq (a1 a0 : Int) (R : Value → World → Prop) (w : World) :
 dnF Tryz.prog session_New_an (code Tryz.f10) 400 [] (post3 Tryz.prog Tryz.f10 [] R) ⟨args0 0 [.int .i64 a1, .int .i64 a0], fun _ => undef⟩ ⟨[], w, [], [], true⟩ = session_New_T a1 a0 R w := by kernel_rfl
theorem session_New_go {a1 a0 : Int} {R : Value → World → Prop} {w : World} (h : session_New_T a1 a0 R w) :
 Calls Tryz.prog 10 #[.int .i64 a1, .int .i64 a0] w fun e w' => ∃ v, e = .returned v ∧ R v w' :=
 calls_none Tryz.wide_mixed (f := 10) (args := [.int .i64 a1, .int .i64 a0]) Tryz.func10 rfl rfl (by kernel_rfl) rfl (Eq.mpr (session_New_eq a1 a0 R w) h)
def session_own_an : List LA := []
def session_own_T (b0 b3 b5 : Int) (b6 : ByteArray) (b7 b8 b9 c0 c1 c2 : Int) (a0 : Option Addr) (a2 a1 : Nat) (a6 a7 : ByteArray) (a8 : Int) (a9 : Bool) (a3 : Option Addr) (a5 a4 : Nat) (R : Value → World → Prop) (w : World) : Prop :=
 ∀ b1, w.heap.size ≤ b1 →
 ∀ b2, w.heap.size ≤ b2 →
 ∀ w3, Adv [] [b2, b1] w w3 →
 al w3 (.cells #[.int .i64 b0, .int .i64 b3, .int .i64 b5, .string b6, .int .i64 b7, .int .i64 b8, .int .i64 b9, .int .i64 c0, .int .i64 c1, .int .i64 c2, .slice a0 a2 a1, .string a6, .string a7, .int .i64 a8, .bool a9, .slice a3 a5 a4] 57) fun b4 w5 =>
 Calls Tryz.prog 70 #[(.agg #[.int .i64 0, .int .i64 0, .int .i64 0, .int .i64 0, .int .i64 0, .int .i64 0, .int .i64 0, .int .i64 0, .int .i64 0, .int .i64 0, (.slice (some ⟨b4, 0, none⟩) 1 1), .int .i64 0, .int .i64 0, .int .i64 0, .int .i64 0, .slice none 0 0, .slice none 0 0])] w5 fun e w6 => ∃ (x7 x8 x9 x10 x11 x12 x13 x14 x15 x16 : Int) (a17 : Option Addr) (n18 c19 : Nat) (x20 x21 x22 x23 : Int) (a24 : Option Addr) (n25 c26 : Nat) (a27 : Option Addr) (n28 c29 : Nat), e = .returned (.agg #[.int .i64 x7, .int .i64 x8, .int .i64 x9, .int .i64 x10, .int .i64 x11, .int .i64 x12, .int .i64 x13, .int .i64 x14, .int .i64 x15, .int .i64 x16, .slice a17 n18 c19, .int .i64 x20, .int .i64 x21, .int .i64 x22, .int .i64 x23, .slice a24 n25 c26, .slice a27 n28 c29]) ∧ Keep [b1, b2] w5 w6 ∧
 ixA a17 n18 0 16 fun q30 =>
 ldInt .i64 w6 q30 fun x31 => ldInt .i64 w6 (Addr.add q30 1) fun x32 => ldInt .i64 w6 (Addr.add q30 2) fun x33 => ldStr w6 (Addr.add q30 3) fun s34 => ldInt .i64 w6 (Addr.add q30 4) fun x35 => ldInt .i64 w6 (Addr.add q30 5) fun x36 => ldInt .i64 w6 (Addr.add q30 6) fun x37 => ldInt .i64 w6 (Addr.add q30 7) fun x38 => ldInt .i64 w6 (Addr.add q30 8) fun x39 => ldInt .i64 w6 (Addr.add q30 9) fun x40 => ldSlice w6 (Addr.add q30 10) fun a41 n42 c43 => ldStr w6 (Addr.add q30 11) fun s44 => ldStr w6 (Addr.add q30 12) fun s45 => ldInt .i64 w6 (Addr.add q30 13) fun x46 => ldBool w6 (Addr.add q30 14) fun t47 => ldSlice w6 (Addr.add q30 15) fun a48 n49 c50 =>
 ∀ w51, Adv [b2] [] w6 w51 →
 R (.agg #[.int .i64 x31, .int .i64 x32, .int .i64 x33, .string s34, .int .i64 x35, .int .i64 x36, .int .i64 x37, .int .i64 x38, .int .i64 x39, .int .i64 x40, .slice a41 n42 c43, .string s44, .string s45, .int .i64 x46, .bool t47, .slice a48 n49 c50]) w51
theorem session_own_eq (b0 b1 b2 : Int) (b3 : ByteArray) (b4 b5 b6 b7 b8 b9 : Int) (a0 : Option Addr) (a2 a1 : Nat) (a6 a7 : ByteArray) (a8 : Int) (a9 : Bool) (a3 : Option Addr) (a5 a4 : Nat) (R : Value → World → Prop) (w : World) :
 dnF Tryz.prog session_own_an (code Tryz.f60) 400 [] (post3 Tryz.prog Tryz.f60 [] R) ⟨args0 0 [(.agg #[.int .i64 b0, .int .i64 b1, .int .i64 b2, .string b3, .int .i64 b4, .int .i64 b5, .int .i64 b6, .int .i64 b7, .int .i64 b8, .int .i64 b9, .slice a0 a2 a1, .string a6, .string a7, .int .i64 a8, .bool a9, .slice a3 a5 a4])], fun _ => undef⟩ ⟨[], w, [], [], true⟩ = session_own_T b0 b1 b2 b3 b4 b5 b6 b7 b8 b9 a0 a2 a1 a6 a7 a8 a9 a3 a5 a4 R w := by kernel_rfl
theorem session_own_go {b0 b1 b2 : Int} {b3 : ByteArray} {b4 b5 b6 b7 b8 b9 : Int} {a0 : Option Addr} {a2 a1 : Nat} {a6 a7 : ByteArray} {a8 : Int} {a9 : Bool} {a3 : Option Addr} {a5 a4 : Nat} {R : Value → World → Prop} {w : World} (h : session_own_T b0 b1 b2 b3 b4 b5 b6 b7 b8 b9 a0 a2 a1 a6 a7 a8 a9 a3 a5 a4 R w) :
 Calls Tryz.prog 60 #[(.agg #[.int .i64 b0, .int .i64 b1, .int .i64 b2, .string b3, .int .i64 b4, .int .i64 b5, .int .i64 b6, .int .i64 b7, .int .i64 b8, .int .i64 b9, .slice a0 a2 a1, .string a6, .string a7, .int .i64 a8, .bool a9, .slice a3 a5 a4])] w fun e w' => ∃ v, e = .returned v ∧ R v w' :=
 calls_none Tryz.wide_mixed (f := 60) (args := [(.agg #[.int .i64 b0, .int .i64 b1, .int .i64 b2, .string b3, .int .i64 b4, .int .i64 b5, .int .i64 b6, .int .i64 b7, .int .i64 b8, .int .i64 b9, .slice a0 a2 a1, .string a6, .string a7, .int .i64 a8, .bool a9, .slice a3 a5 a4])]) Tryz.func60 rfl rfl (by kernel_rfl) rfl (Eq.mpr (session_own_eq b0 b1 b2 b3 b4 b5 b6 b7 b8 b9 a0 a2 a1 a6 a7 a8 a9 a3 a5 a4 R w) h)
def session_Session_mail_an : List LA := []
def session_Session_mail_T (b0 : Nat) (o0 o1 o2 o3 : Int) (o4 : Option Addr) (a0 : Int) (R : Value → World → Prop) (w : World) : Prop :=
 ∀ b1, w.heap.size ≤ b1 →
 ckPtr o4 fun q2 =>
 ∀ w3, Adv [] [b1] w w3 →
 ldInt .i64 w3 q2 fun x4 => ldInt .i64 w3 (Addr.add q2 1) fun x5 => ldInt .i64 w3 (Addr.add q2 2) fun x6 => ldStr w3 (Addr.add q2 3) fun s7 => ldInt .i64 w3 (Addr.add q2 4) fun x8 => ldInt .i64 w3 (Addr.add q2 5) fun x9 => ldInt .i64 w3 (Addr.add q2 6) fun x10 => ldInt .i64 w3 (Addr.add q2 7) fun x11 => ldInt .i64 w3 (Addr.add q2 8) fun x12 => ldInt .i64 w3 (Addr.add q2 9) fun x13 => ldSlice w3 (Addr.add q2 10) fun a14 n15 c16 => ldStr w3 (Addr.add q2 11) fun s17 => ldStr w3 (Addr.add q2 12) fun s18 => ldInt .i64 w3 (Addr.add q2 13) fun x19 => ldBool w3 (Addr.add q2 14) fun t20 => ldSlice w3 (Addr.add q2 15) fun a21 n22 c23 =>
 Calls Tryz.prog 60 #[(.agg #[.int .i64 x4, .int .i64 x5, .int .i64 x6, .string s7, .int .i64 x8, .int .i64 x9, .int .i64 x10, .int .i64 x11, .int .i64 x12, .int .i64 x13, .slice a14 n15 c16, .string s17, .string s18, .int .i64 x19, .bool t20, .slice a21 n22 c23])] w3 fun e w24 => ∃ (x25 x26 x27 : Int) (s28 : ByteArray) (x29 x30 x31 x32 x33 x34 : Int) (a35 : Option Addr) (n36 c37 : Nat) (s38 s39 : ByteArray) (x40 : Int) (t41 : Bool) (a42 : Option Addr) (n43 c44 : Nat), e = .returned (.agg #[.int .i64 x25, .int .i64 x26, .int .i64 x27, .string s28, .int .i64 x29, .int .i64 x30, .int .i64 x31, .int .i64 x32, .int .i64 x33, .int .i64 x34, .slice a35 n36 c37, .string s38, .string s39, .int .i64 x40, .bool t41, .slice a42 n43 c44]) ∧ Keep [b0, b1] w3 w24 ∧ (((.int .i64 o0) : Value) = (.int .i64 o0)) ∧
 al w24 (.cells #[.int .i64 x25, .int .i64 x26, .int .i64 x27, .string s28, .int .i64 x29, .int .i64 x30, .int .i64 x31, .int .i64 x32, .int .i64 x33, .int .i64 x34, .slice a35 n36 c37, .string s38, .string s39, .int .i64 x40, .bool t41, .slice a42 n43 c44] 57) fun b45 w46 =>
 ∀ w47, Adv [b1] [] w46 w47 → w47.heap[b0]? = some (.cells #[.int .i64 o0, .int .i64 o1, .int .i64 o2, .int .i64 o3, .pointer o4] 104) →
 R (.agg #[.int .i64 0, .int .i64 o0, .int .i64 a0, .int .i64 0, .int .i64 0, .int .i64 0, .int .i64 0, .int .i64 0, .int .i64 0, .int .i64 0, (.slice (some ⟨b45, 0, none⟩) 1 1), .int .i64 0, .int .i64 0, .int .i64 0, .int .i64 0, .slice none 0 0, .slice none 0 0]) w47
theorem session_Session_mail_eq (b0 : Nat) (o0 o1 o2 o3 : Int) (o4 : Option Addr) (a0 : Int) (R : Value → World → Prop) (w : World) :
 dnF Tryz.prog session_Session_mail_an (code Tryz.f61) 400 [] (post3 Tryz.prog Tryz.f61 [0] R) ⟨(0, .pointer (some ⟨b0, 0, none⟩), some (0, 0)) :: args0 1 [.int .i64 a0], fun _ => undef⟩ ⟨[⟨b0, 104, [.int .i64 o0, .int .i64 o1, .int .i64 o2, .int .i64 o3, .pointer o4], false⟩], w, [], [], true⟩ = session_Session_mail_T b0 o0 o1 o2 o3 o4 a0 R w := by kernel_rfl
theorem session_Session_mail_go {b0 : Nat} {o0 o1 o2 o3 : Int} {o4 : Option Addr} {a0 : Int} {R : Value → World → Prop} {w : World} (hb : w.heap[b0]? = some (.cells #[.int .i64 o0, .int .i64 o1, .int .i64 o2, .int .i64 o3, .pointer o4] 104)) (h : session_Session_mail_T b0 o0 o1 o2 o3 o4 a0 R w) :
 Calls Tryz.prog 61 #[(.pointer (some ⟨b0, 0, none⟩)), .int .i64 a0] w fun e w' => ∃ v, e = .returned v ∧ R v w' :=
 calls_one Tryz.wide_mixed (f := 61) (args := [.int .i64 a0]) Tryz.func61 rfl rfl (by kernel_rfl) rfl hb (Eq.mpr (session_Session_mail_eq b0 o0 o1 o2 o3 o4 a0 R w) h)
def session_Session_Call_an : List LA := []
def session_Session_Call_T (b0 : Nat) (o0 o1 o2 o3 : Int) (o4 : Option Addr) (a9 : Int) (b3 : ByteArray) (b4 b5 b6 b7 b8 c0 : Int) (a3 : Option Addr) (a5 a4 : Nat) (c1 a6 : ByteArray) (a7 : Int) (a8 : Bool) (a0 : Option Addr) (a2 a1 : Nat) (R : Value → World → Prop) (w : World) : Prop :=
 ∀ b1, w.heap.size ≤ b1 →
 ∀ b2, w.heap.size ≤ b2 →
 ∀ w3, Adv [] [b2, b1] w w3 →
 Calls Tryz.prog 59 #[(.agg #[.int .i64 a9, .string b3, .int .i64 b4, .int .i64 b5, .int .i64 b6, .int .i64 b7, .int .i64 b8, .int .i64 c0, .slice a3 a5 a4, .string c1, .string a6, .int .i64 a7, .bool a8, .slice a0 a2 a1])] w3 fun e w4 => ∃ x5 : Int, e = .returned (.int .i64 x5) ∧ Keep [b0, b1, b2] w3 w4 ∧
 brB (x5 != 0) (
 ∀ w6, Adv [b2] [] w4 w6 → w6.heap[b0]? = some (.cells #[.int .i64 o0, .int .i64 o1, .int .i64 o2, .int .i64 o3, .pointer o4] 104) →
 R (.tuple #[(.agg #[.int .i64 0, .int .i64 0, .int .i64 0, .int .i64 0, .int .i64 0, .int .i64 0, .int .i64 0, .int .i64 0, .int .i64 0, .int .i64 0, .slice none 0 0, .int .i64 0, .int .i64 0, .int .i64 0, .int .i64 0, .slice none 0 0, .slice none 0 0]), .int .i64 x5]) w6)
 (
 brB (!(Option.isNone o4)) (
 ∀ w7, Adv [b2] [] w4 w7 → w7.heap[b0]? = some (.cells #[.int .i64 o0, .int .i64 o1, .int .i64 o2, .int .i64 o3, .pointer o4] 104) →
 R (.tuple #[(.agg #[.int .i64 0, .int .i64 0, .int .i64 0, .int .i64 0, .int .i64 0, .int .i64 0, .int .i64 0, .int .i64 0, .int .i64 0, .int .i64 0, .slice none 0 0, .int .i64 0, .int .i64 0, .int .i64 0, .int .i64 0, .slice none 0 0, .slice none 0 0]), .int .i64 220]) w7)
 (
 brB (decide (o2 ≥ 1099511627776)) (
 ∀ w8, Adv [b2] [] w4 w8 → w8.heap[b0]? = some (.cells #[.int .i64 o0, .int .i64 o1, .int .i64 o2, .int .i64 o3, .pointer o4] 104) →
 R (.tuple #[(.agg #[.int .i64 0, .int .i64 0, .int .i64 0, .int .i64 0, .int .i64 0, .int .i64 0, .int .i64 0, .int .i64 0, .int .i64 0, .int .i64 0, .slice none 0 0, .int .i64 0, .int .i64 0, .int .i64 0, .int .i64 0, .slice none 0 0, .slice none 0 0]), .int .i64 2]) w8)
 (
 ((
 ∀ b9, w4.heap.size ≤ b9 →
 ∀ w10, Adv [b0] [b9] w4 w10 →
 Calls Tryz.prog 60 #[(.agg #[.int .i64 o0, (.int .i64 (IntKind.wrap .i64 (o2 + 1))), .int .i64 a9, .string b3, .int .i64 b4, .int .i64 b5, .int .i64 b6, .int .i64 b7, .int .i64 b8, .int .i64 c0, .slice a3 a5 a4, .string c1, .string a6, .int .i64 a7, .bool a8, .slice a0 a2 a1])] w10 fun e w11 => ∃ (x12 x13 x14 : Int) (s15 : ByteArray) (x16 x17 x18 x19 x20 x21 : Int) (a22 : Option Addr) (n23 c24 : Nat) (s25 s26 : ByteArray) (x27 : Int) (t28 : Bool) (a29 : Option Addr) (n30 c31 : Nat), e = .returned (.agg #[.int .i64 x12, .int .i64 x13, .int .i64 x14, .string s15, .int .i64 x16, .int .i64 x17, .int .i64 x18, .int .i64 x19, .int .i64 x20, .int .i64 x21, .slice a22 n23 c24, .string s25, .string s26, .int .i64 x27, .bool t28, .slice a29 n30 c31]) ∧ Keep [b0, b1, b2, b9] w10 w11 ∧
 ∀ w32, Adv [b0, b9] [] w11 w32 → w32.heap[b9]? = some (.cells #[.int .i64 x12, .int .i64 x13, .int .i64 x14, .string s15, .int .i64 x16, .int .i64 x17, .int .i64 x18, .int .i64 x19, .int .i64 x20, .int .i64 x21, .slice a22 n23 c24, .string s25, .string s26, .int .i64 x27, .bool t28, .slice a29 n30 c31] 57) →
 Calls Tryz.prog 62 #[.int .i64 o3, .int .i64 o1] w32 fun e w33 => ∃ x34 : Int, e = .returned (.int .i64 x34) ∧ KeepE [b9] [(b0, 104), (b1, 38), (b2, 45)] [b0, b1, b2] w32 w33 ∧ ∃ (x35 x36 x37 : Int) (s38 : ByteArray) (x39 x40 x41 x42 x43 x44 : Int) (a45 : Option Addr) (n46 c47 : Nat) (s48 s49 : ByteArray) (x50 : Int) (t51 : Bool) (a52 : Option Addr) (n53 c54 : Nat), w33.heap[b9]? = some (.cells #[.int .i64 x35, .int .i64 x36, .int .i64 x37, .string s38, .int .i64 x39, .int .i64 x40, .int .i64 x41, .int .i64 x42, .int .i64 x43, .int .i64 x44, .slice a45 n46 c47, .string s48, .string s49, .int .i64 x50, .bool t51, .slice a52 n53 c54] 57) ∧
 ∀ w55, Adv [] [] w33 w55 → w55.heap[b0]? = some (.cells #[.int .i64 o0, .int .i64 o1, (.int .i64 (IntKind.wrap .i64 (o2 + 1))), .int .i64 o3, (.pointer (some ⟨b9, 0, none⟩))] 104) →
 w55.heap[b9]? = some (.cells #[.int .i64 x35, .int .i64 x36, .int .i64 x37, .string s38, .int .i64 x39, .int .i64 x40, .int .i64 x41, .int .i64 x42, .int .i64 x43, .int .i64 x44, .slice a45 n46 c47, .string s48, .string s49, .int .i64 x50, .bool t51, .slice a52 n53 c54] 57) →
 Calls Tryz.prog 61 #[(.pointer (some ⟨b0, 0, none⟩)), .int .i64 x34] w55 fun e w56 => ∃ (x57 x58 x59 x60 x61 x62 x63 x64 x65 x66 : Int) (a67 : Option Addr) (n68 c69 : Nat) (x70 x71 x72 x73 : Int) (a74 : Option Addr) (n75 c76 : Nat) (a77 : Option Addr) (n78 c79 : Nat), e = .returned (.agg #[.int .i64 x57, .int .i64 x58, .int .i64 x59, .int .i64 x60, .int .i64 x61, .int .i64 x62, .int .i64 x63, .int .i64 x64, .int .i64 x65, .int .i64 x66, .slice a67 n68 c69, .int .i64 x70, .int .i64 x71, .int .i64 x72, .int .i64 x73, .slice a74 n75 c76, .slice a77 n78 c79]) ∧ KeepE [b0, b9] [(b1, 38), (b2, 45)] [b1, b2] w55 w56 ∧ ∃ (x80 x81 x82 x83 : Int) (p84 : Option Addr), w56.heap[b0]? = some (.cells #[.int .i64 x80, .int .i64 x81, .int .i64 x82, .int .i64 x83, .pointer p84] 104) ∧ ∃ (x85 x86 x87 : Int) (s88 : ByteArray) (x89 x90 x91 x92 x93 x94 : Int) (a95 : Option Addr) (n96 c97 : Nat) (s98 s99 : ByteArray) (x100 : Int) (t101 : Bool) (a102 : Option Addr) (n103 c104 : Nat), w56.heap[b9]? = some (.cells #[.int .i64 x85, .int .i64 x86, .int .i64 x87, .string s88, .int .i64 x89, .int .i64 x90, .int .i64 x91, .int .i64 x92, .int .i64 x93, .int .i64 x94, .slice a95 n96 c97, .string s98, .string s99, .int .i64 x100, .bool t101, .slice a102 n103 c104] 57) ∧
 ∀ w105, Adv [b2] [] w56 w105 → w105.heap[b0]? = some (.cells #[.int .i64 x80, .int .i64 x81, .int .i64 x82, .int .i64 x83, .pointer p84] 104) →
 w105.heap[b9]? = some (.cells #[.int .i64 x85, .int .i64 x86, .int .i64 x87, .string s88, .int .i64 x89, .int .i64 x90, .int .i64 x91, .int .i64 x92, .int .i64 x93, .int .i64 x94, .slice a95 n96 c97, .string s98, .string s99, .int .i64 x100, .bool t101, .slice a102 n103 c104] 57) →
 R (.tuple #[(.agg #[.int .i64 x57, .int .i64 x58, .int .i64 x59, .int .i64 x60, .int .i64 x61, .int .i64 x62, .int .i64 x63, .int .i64 x64, .int .i64 x65, .int .i64 x66, .slice a67 n68 c69, .int .i64 x70, .int .i64 x71, .int .i64 x72, .int .i64 x73, .slice a74 n75 c76, .slice a77 n78 c79]), .int .i64 0]) w105) ∧
 (
 ∀ w106, Adv [b0] [] w4 w106 →
 Calls Tryz.prog 60 #[(.agg #[.int .i64 o0, (.int .i64 (IntKind.wrap .i64 (o2 + 1))), .int .i64 a9, .string b3, .int .i64 b4, .int .i64 b5, .int .i64 b6, .int .i64 b7, .int .i64 b8, .int .i64 c0, .slice a3 a5 a4, .string c1, .string a6, .int .i64 a7, .bool a8, .slice a0 a2 a1])] w106 fun e w107 => ∃ (x108 x109 x110 : Int) (s111 : ByteArray) (x112 x113 x114 x115 x116 x117 : Int) (a118 : Option Addr) (n119 c120 : Nat) (s121 s122 : ByteArray) (x123 : Int) (t124 : Bool) (a125 : Option Addr) (n126 c127 : Nat), e = .returned (.agg #[.int .i64 x108, .int .i64 x109, .int .i64 x110, .string s111, .int .i64 x112, .int .i64 x113, .int .i64 x114, .int .i64 x115, .int .i64 x116, .int .i64 x117, .slice a118 n119 c120, .string s121, .string s122, .int .i64 x123, .bool t124, .slice a125 n126 c127]) ∧ Keep [b0, b1, b2] w106 w107 ∧
 ∀ b128, w107.heap.size ≤ b128 →
 ∀ w129, Adv [b0] [b128] w107 w129 → w129.heap[b128]? = some (.cells #[.int .i64 x108, .int .i64 x109, .int .i64 x110, .string s111, .int .i64 x112, .int .i64 x113, .int .i64 x114, .int .i64 x115, .int .i64 x116, .int .i64 x117, .slice a118 n119 c120, .string s121, .string s122, .int .i64 x123, .bool t124, .slice a125 n126 c127] 57) →
 Calls Tryz.prog 62 #[.int .i64 o3, .int .i64 o1] w129 fun e w130 => ∃ x131 : Int, e = .returned (.int .i64 x131) ∧ KeepE [b128] [(b0, 104), (b1, 38), (b2, 45)] [b0, b1, b2] w129 w130 ∧ ∃ (x132 x133 x134 : Int) (s135 : ByteArray) (x136 x137 x138 x139 x140 x141 : Int) (a142 : Option Addr) (n143 c144 : Nat) (s145 s146 : ByteArray) (x147 : Int) (t148 : Bool) (a149 : Option Addr) (n150 c151 : Nat), w130.heap[b128]? = some (.cells #[.int .i64 x132, .int .i64 x133, .int .i64 x134, .string s135, .int .i64 x136, .int .i64 x137, .int .i64 x138, .int .i64 x139, .int .i64 x140, .int .i64 x141, .slice a142 n143 c144, .string s145, .string s146, .int .i64 x147, .bool t148, .slice a149 n150 c151] 57) ∧
 ∀ w152, Adv [] [] w130 w152 → w152.heap[b0]? = some (.cells #[.int .i64 o0, .int .i64 o1, (.int .i64 (IntKind.wrap .i64 (o2 + 1))), .int .i64 o3, (.pointer (some ⟨b128, 0, none⟩))] 104) →
 w152.heap[b128]? = some (.cells #[.int .i64 x132, .int .i64 x133, .int .i64 x134, .string s135, .int .i64 x136, .int .i64 x137, .int .i64 x138, .int .i64 x139, .int .i64 x140, .int .i64 x141, .slice a142 n143 c144, .string s145, .string s146, .int .i64 x147, .bool t148, .slice a149 n150 c151] 57) →
 Calls Tryz.prog 61 #[(.pointer (some ⟨b0, 0, none⟩)), .int .i64 x131] w152 fun e w153 => ∃ (x154 x155 x156 x157 x158 x159 x160 x161 x162 x163 : Int) (a164 : Option Addr) (n165 c166 : Nat) (x167 x168 x169 x170 : Int) (a171 : Option Addr) (n172 c173 : Nat) (a174 : Option Addr) (n175 c176 : Nat), e = .returned (.agg #[.int .i64 x154, .int .i64 x155, .int .i64 x156, .int .i64 x157, .int .i64 x158, .int .i64 x159, .int .i64 x160, .int .i64 x161, .int .i64 x162, .int .i64 x163, .slice a164 n165 c166, .int .i64 x167, .int .i64 x168, .int .i64 x169, .int .i64 x170, .slice a171 n172 c173, .slice a174 n175 c176]) ∧ KeepE [b0, b128] [(b1, 38), (b2, 45)] [b1, b2] w152 w153 ∧ ∃ (x177 x178 x179 x180 : Int) (p181 : Option Addr), w153.heap[b0]? = some (.cells #[.int .i64 x177, .int .i64 x178, .int .i64 x179, .int .i64 x180, .pointer p181] 104) ∧ ∃ (x182 x183 x184 : Int) (s185 : ByteArray) (x186 x187 x188 x189 x190 x191 : Int) (a192 : Option Addr) (n193 c194 : Nat) (s195 s196 : ByteArray) (x197 : Int) (t198 : Bool) (a199 : Option Addr) (n200 c201 : Nat), w153.heap[b128]? = some (.cells #[.int .i64 x182, .int .i64 x183, .int .i64 x184, .string s185, .int .i64 x186, .int .i64 x187, .int .i64 x188, .int .i64 x189, .int .i64 x190, .int .i64 x191, .slice a192 n193 c194, .string s195, .string s196, .int .i64 x197, .bool t198, .slice a199 n200 c201] 57) ∧
 ∀ w202, Adv [b2] [] w153 w202 → w202.heap[b0]? = some (.cells #[.int .i64 x177, .int .i64 x178, .int .i64 x179, .int .i64 x180, .pointer p181] 104) →
 w202.heap[b128]? = some (.cells #[.int .i64 x182, .int .i64 x183, .int .i64 x184, .string s185, .int .i64 x186, .int .i64 x187, .int .i64 x188, .int .i64 x189, .int .i64 x190, .int .i64 x191, .slice a192 n193 c194, .string s195, .string s196, .int .i64 x197, .bool t198, .slice a199 n200 c201] 57) →
 R (.tuple #[(.agg #[.int .i64 x154, .int .i64 x155, .int .i64 x156, .int .i64 x157, .int .i64 x158, .int .i64 x159, .int .i64 x160, .int .i64 x161, .int .i64 x162, .int .i64 x163, .slice a164 n165 c166, .int .i64 x167, .int .i64 x168, .int .i64 x169, .int .i64 x170, .slice a171 n172 c173, .slice a174 n175 c176]), .int .i64 0]) w202)))))
theorem session_Session_Call_eq (b0 : Nat) (o0 o1 o2 o3 : Int) (o4 : Option Addr) (a9 : Int) (b1 : ByteArray) (b2 b3 b4 b5 b6 b7 : Int) (a3 : Option Addr) (a5 a4 : Nat) (b8 a6 : ByteArray) (a7 : Int) (a8 : Bool) (a0 : Option Addr) (a2 a1 : Nat) (R : Value → World → Prop) (w : World) :
 dnF Tryz.prog session_Session_Call_an (code Tryz.f15) 400 [] (post3 Tryz.prog Tryz.f15 [0] R) ⟨(0, .pointer (some ⟨b0, 0, none⟩), some (0, 0)) :: args0 1 [(.agg #[.int .i64 a9, .string b1, .int .i64 b2, .int .i64 b3, .int .i64 b4, .int .i64 b5, .int .i64 b6, .int .i64 b7, .slice a3 a5 a4, .string b8, .string a6, .int .i64 a7, .bool a8, .slice a0 a2 a1])], fun _ => undef⟩ ⟨[⟨b0, 104, [.int .i64 o0, .int .i64 o1, .int .i64 o2, .int .i64 o3, .pointer o4], false⟩], w, [], [], true⟩ = session_Session_Call_T b0 o0 o1 o2 o3 o4 a9 b1 b2 b3 b4 b5 b6 b7 a3 a5 a4 b8 a6 a7 a8 a0 a2 a1 R w := by kernel_rfl
theorem session_Session_Call_go {b0 : Nat} {o0 o1 o2 o3 : Int} {o4 : Option Addr} {a9 : Int} {b1 : ByteArray} {b2 b3 b4 b5 b6 b7 : Int} {a3 : Option Addr} {a5 a4 : Nat} {b8 a6 : ByteArray} {a7 : Int} {a8 : Bool} {a0 : Option Addr} {a2 a1 : Nat} {R : Value → World → Prop} {w : World} (hb : w.heap[b0]? = some (.cells #[.int .i64 o0, .int .i64 o1, .int .i64 o2, .int .i64 o3, .pointer o4] 104)) (h : session_Session_Call_T b0 o0 o1 o2 o3 o4 a9 b1 b2 b3 b4 b5 b6 b7 a3 a5 a4 b8 a6 a7 a8 a0 a2 a1 R w) :
 Calls Tryz.prog 15 #[(.pointer (some ⟨b0, 0, none⟩)), (.agg #[.int .i64 a9, .string b1, .int .i64 b2, .int .i64 b3, .int .i64 b4, .int .i64 b5, .int .i64 b6, .int .i64 b7, .slice a3 a5 a4, .string b8, .string a6, .int .i64 a7, .bool a8, .slice a0 a2 a1])] w fun e w' => ∃ v, e = .returned v ∧ R v w' :=
 calls_one Tryz.wide_mixed (f := 15) (args := [(.agg #[.int .i64 a9, .string b1, .int .i64 b2, .int .i64 b3, .int .i64 b4, .int .i64 b5, .int .i64 b6, .int .i64 b7, .slice a3 a5 a4, .string b8, .string a6, .int .i64 a7, .bool a8, .slice a0 a2 a1])]) Tryz.func15 rfl rfl (by kernel_rfl) rfl hb (Eq.mpr (session_Session_Call_eq b0 o0 o1 o2 o3 o4 a9 b1 b2 b3 b4 b5 b6 b7 a3 a5 a4 b8 a6 a7 a8 a0 a2 a1 R w) h)
def session_Session_Retry_an : List LA := []
def session_Session_Retry_T (b0 : Nat) (o0 o1 o2 o3 : Int) (o4 : Option Addr) (R : Value → World → Prop) (w : World) : Prop :=
 ∀ b1, w.heap.size ≤ b1 →
 ∀ w2, Adv [] [b1] w w2 → w2.heap[b0]? = some (.cells #[.int .i64 o0, .int .i64 o1, .int .i64 o2, .int .i64 o3, .pointer o4] 104) →
 ldPtr w2 ⟨b0, 4, none⟩ fun p3 =>
 brB (Option.isNone p3) (
 R (.slice none 0 0) w2)
 (
 ∀ w4, Adv [] [] w2 w4 → w4.heap[b0]? = some (.cells #[.int .i64 o0, .int .i64 o1, .int .i64 o2, .int .i64 o3, .pointer o4] 104) →
 w4.heap[b1]? = some (.cells #[(.pointer (some ⟨b0, 0, none⟩))] 23) →
 Calls Tryz.prog 67 #[(.func (.func 68) #[] #[(.pointer (some ⟨b1, 0, none⟩))])] w4 fun e w5 => ∃ (a6 : Option Addr) (n7 c8 : Nat), e = .returned (.slice a6 n7 c8) ∧ ∃ (x9 x10 x11 x12 : Int) (p13 : Option Addr), w5.heap[b0]? = some (.cells #[.int .i64 x9, .int .i64 x10, .int .i64 x11, .int .i64 x12, .pointer p13] 104) ∧ ∃ p14 : Option Addr, w5.heap[b1]? = some (.cells #[.pointer p14] 23) ∧
 R (.slice a6 n7 c8) w5)
theorem session_Session_Retry_eq (b0 : Nat) (o0 o1 o2 o3 : Int) (o4 : Option Addr) (R : Value → World → Prop) (w : World) :
 dnF Tryz.prog session_Session_Retry_an (code Tryz.f18) 400 [] (post3 Tryz.prog Tryz.f18 [0] R) ⟨(0, .pointer (some ⟨b0, 0, none⟩), some (0, 0)) :: args0 1 [], fun _ => undef⟩ ⟨[⟨b0, 104, [.int .i64 o0, .int .i64 o1, .int .i64 o2, .int .i64 o3, .pointer o4], false⟩], w, [], [], true⟩ = session_Session_Retry_T b0 o0 o1 o2 o3 o4 R w := by kernel_rfl
theorem session_Session_Retry_go {b0 : Nat} {o0 o1 o2 o3 : Int} {o4 : Option Addr} {R : Value → World → Prop} {w : World} (hb : w.heap[b0]? = some (.cells #[.int .i64 o0, .int .i64 o1, .int .i64 o2, .int .i64 o3, .pointer o4] 104)) (h : session_Session_Retry_T b0 o0 o1 o2 o3 o4 R w) :
 Calls Tryz.prog 18 #[(.pointer (some ⟨b0, 0, none⟩))] w fun e w' => ∃ v, e = .returned v ∧ R v w' :=
 calls_one Tryz.wide_mixed (f := 18) (args := []) Tryz.func18 rfl rfl (by kernel_rfl) rfl hb (Eq.mpr (session_Session_Retry_eq b0 o0 o1 o2 o3 o4 R w) h)
def session_Session_Hear_an : List LA := []
def session_Session_Hear_T (b0 : Nat) (o0 o1 o2 o3 : Int) (o4 : Option Addr) (b3 c0 b4 a0 c1 c2 c3 c4 c5 b5 : Int) (a1 : Option Addr) (a3 a2 : Nat) (b6 b7 b8 b9 : Int) (a4 : Option Addr) (a6 a5 : Nat) (a7 : Option Addr) (a9 a8 : Nat) (R : Value → World → Prop) (w : World) : Prop :=
 ∀ b1, w.heap.size ≤ b1 →
 ∀ b2, w.heap.size ≤ b2 →
 ∀ w3, Adv [] [b2, b1] w w3 →
 Calls Tryz.prog 69 #[(.agg #[.int .i64 b3, .int .i64 c0, .int .i64 b4, .int .i64 a0, .int .i64 c1, .int .i64 c2, .int .i64 c3, .int .i64 c4, .int .i64 c5, .int .i64 b5, .slice a1 a3 a2, .int .i64 b6, .int .i64 b7, .int .i64 b8, .int .i64 b9, .slice a4 a6 a5, .slice a7 a9 a8])] w3 fun e w4 => ∃ x5 : Int, e = .returned (.int .i64 x5) ∧ Keep [b0, b1, b2] w3 w4 ∧
 brB (x5 != 0) (
 ∀ w6, Adv [b2] [] w4 w6 → w6.heap[b0]? = some (.cells #[.int .i64 o0, .int .i64 o1, .int .i64 o2, .int .i64 o3, .pointer o4] 104) →
 R (.tuple #[(.agg #[.int .i64 0, .int .i64 0, .int .i64 0, .int .i64 0, .slice none 0 0, .slice none 0 0]), .bool false]) w6)
 (
 brB (b3 != 1) (
 ∀ w7, Adv [b2] [] w4 w7 → w7.heap[b0]? = some (.cells #[.int .i64 o0, .int .i64 o1, .int .i64 o2, .int .i64 o3, .pointer o4] 104) →
 R (.tuple #[(.agg #[.int .i64 0, .int .i64 0, .int .i64 0, .int .i64 0, .slice none 0 0, .slice none 0 0]), .bool false]) w7)
 (
 brB (b4 != o0) (
 ∀ w8, Adv [b2] [] w4 w8 → w8.heap[b0]? = some (.cells #[.int .i64 o0, .int .i64 o1, .int .i64 o2, .int .i64 o3, .pointer o4] 104) →
 R (.tuple #[(.agg #[.int .i64 0, .int .i64 0, .int .i64 0, .int .i64 0, .slice none 0 0, .slice none 0 0]), .bool false]) w8)
 (
 brB (Option.isNone o4) (
 ∀ w9, Adv [b2] [] w4 w9 → w9.heap[b0]? = some (.cells #[.int .i64 o0, .int .i64 o1, .int .i64 o2, .int .i64 o3, .pointer o4] 104) →
 R (.tuple #[(.agg #[.int .i64 0, .int .i64 0, .int .i64 0, .int .i64 0, .slice none 0 0, .slice none 0 0]), .bool false]) w9)
 (
 ckPtr o4 fun q10 =>
 ldInt .i64 w4 (Addr.add q10 1) fun x11 =>
 brB (b5 != x11) (
 ∀ w12, Adv [b2] [] w4 w12 → w12.heap[b0]? = some (.cells #[.int .i64 o0, .int .i64 o1, .int .i64 o2, .int .i64 o3, .pointer o4] 104) →
 R (.tuple #[(.agg #[.int .i64 0, .int .i64 0, .int .i64 0, .int .i64 0, .slice none 0 0, .slice none 0 0]), .bool false]) w12)
 ((((.int .i64 a0) : Value) = (.int .i64 a0)) ∧
 ∀ w13, Adv [b0] [] w4 w13 →
 Calls Tryz.prog 70 #[(.agg #[.int .i64 b3, .int .i64 c0, .int .i64 b4, .int .i64 a0, .int .i64 c1, .int .i64 c2, .int .i64 c3, .int .i64 c4, .int .i64 c5, .int .i64 b5, .slice a1 a3 a2, .int .i64 b6, .int .i64 b7, .int .i64 b8, .int .i64 b9, .slice a4 a6 a5, .slice a7 a9 a8])] w13 fun e w14 => ∃ (x15 x16 x17 x18 x19 x20 x21 x22 x23 x24 : Int) (a25 : Option Addr) (n26 c27 : Nat) (x28 x29 x30 x31 : Int) (a32 : Option Addr) (n33 c34 : Nat) (a35 : Option Addr) (n36 c37 : Nat), e = .returned (.agg #[.int .i64 x15, .int .i64 x16, .int .i64 x17, .int .i64 x18, .int .i64 x19, .int .i64 x20, .int .i64 x21, .int .i64 x22, .int .i64 x23, .int .i64 x24, .slice a25 n26 c27, .int .i64 x28, .int .i64 x29, .int .i64 x30, .int .i64 x31, .slice a32 n33 c34, .slice a35 n36 c37]) ∧ Keep [b0, b1, b2] w13 w14 ∧
 ∀ w38, Adv [b2] [] w14 w38 → w38.heap[b0]? = some (.cells #[.int .i64 o0, .int .i64 o1, .int .i64 o2, (.int .i64 (if a0 > o3 then a0 else o3)), .pointer none] 104) →
 R (.tuple #[(.agg #[.int .i64 x28, .int .i64 x29, .int .i64 x30, .int .i64 x31, .slice a32 n33 c34, .slice a35 n36 c37]), .bool true]) w38)))))
theorem session_Session_Hear_eq (b0 : Nat) (o0 o1 o2 o3 : Int) (o4 : Option Addr) (b4 b5 b6 b7 b8 b9 c0 c1 c2 c3 : Int) (a0 : Option Addr) (a2 a1 : Nat) (a9 b1 b2 b3 : Int) (a3 : Option Addr) (a5 a4 : Nat) (a6 : Option Addr) (a8 a7 : Nat) (R : Value → World → Prop) (w : World) :
 dnF Tryz.prog session_Session_Hear_an (code Tryz.f21) 400 [] (post3 Tryz.prog Tryz.f21 [0] R) ⟨(0, .pointer (some ⟨b0, 0, none⟩), some (0, 0)) :: args0 1 [(.agg #[.int .i64 b4, .int .i64 b5, .int .i64 b6, .int .i64 b7, .int .i64 b8, .int .i64 b9, .int .i64 c0, .int .i64 c1, .int .i64 c2, .int .i64 c3, .slice a0 a2 a1, .int .i64 a9, .int .i64 b1, .int .i64 b2, .int .i64 b3, .slice a3 a5 a4, .slice a6 a8 a7])], fun _ => undef⟩ ⟨[⟨b0, 104, [.int .i64 o0, .int .i64 o1, .int .i64 o2, .int .i64 o3, .pointer o4], false⟩], w, [], [], true⟩ = session_Session_Hear_T b0 o0 o1 o2 o3 o4 b4 b5 b6 b7 b8 b9 c0 c1 c2 c3 a0 a2 a1 a9 b1 b2 b3 a3 a5 a4 a6 a8 a7 R w := by kernel_rfl
theorem session_Session_Hear_go {b0 : Nat} {o0 o1 o2 o3 : Int} {o4 : Option Addr} {b4 b5 b6 b7 b8 b9 c0 c1 c2 c3 : Int} {a0 : Option Addr} {a2 a1 : Nat} {a9 b1 b2 b3 : Int} {a3 : Option Addr} {a5 a4 : Nat} {a6 : Option Addr} {a8 a7 : Nat} {R : Value → World → Prop} {w : World} (hb : w.heap[b0]? = some (.cells #[.int .i64 o0, .int .i64 o1, .int .i64 o2, .int .i64 o3, .pointer o4] 104)) (h : session_Session_Hear_T b0 o0 o1 o2 o3 o4 b4 b5 b6 b7 b8 b9 c0 c1 c2 c3 a0 a2 a1 a9 b1 b2 b3 a3 a5 a4 a6 a8 a7 R w) :
 Calls Tryz.prog 21 #[(.pointer (some ⟨b0, 0, none⟩)), (.agg #[.int .i64 b4, .int .i64 b5, .int .i64 b6, .int .i64 b7, .int .i64 b8, .int .i64 b9, .int .i64 c0, .int .i64 c1, .int .i64 c2, .int .i64 c3, .slice a0 a2 a1, .int .i64 a9, .int .i64 b1, .int .i64 b2, .int .i64 b3, .slice a3 a5 a4, .slice a6 a8 a7])] w fun e w' => ∃ v, e = .returned v ∧ R v w' :=
 calls_one Tryz.wide_mixed (f := 21) (args := [(.agg #[.int .i64 b4, .int .i64 b5, .int .i64 b6, .int .i64 b7, .int .i64 b8, .int .i64 b9, .int .i64 c0, .int .i64 c1, .int .i64 c2, .int .i64 c3, .slice a0 a2 a1, .int .i64 a9, .int .i64 b1, .int .i64 b2, .int .i64 b3, .slice a3 a5 a4, .slice a6 a8 a7])]) Tryz.func21 rfl rfl (by kernel_rfl) rfl hb (Eq.mpr (session_Session_Hear_eq b0 o0 o1 o2 o3 o4 b4 b5 b6 b7 b8 b9 c0 c1 c2 c3 a0 a2 a1 a9 b1 b2 b3 a3 a5 a4 a6 a8 a7 R w) h)
def session_Session_Waits_an : List LA := []
def session_Session_Waits_T (b0 : Nat) (o0 o1 o2 o3 : Int) (o4 : Option Addr) (R : Value → World → Prop) (w : World) : Prop :=
 ∀ b1, w.heap.size ≤ b1 →
 brB (Option.isNone o4) (
 ∀ w2, Adv [] [b1] w w2 → w2.heap[b0]? = some (.cells #[.int .i64 o0, .int .i64 o1, .int .i64 o2, .int .i64 o3, .pointer o4] 104) →
 R (.tuple #[(.agg #[.int .i64 0, .int .i64 0, .int .i64 0, .string ByteArray.empty, .int .i64 0, .int .i64 0, .int .i64 0, .int .i64 0, .int .i64 0, .int .i64 0, .slice none 0 0, .string ByteArray.empty, .string ByteArray.empty, .int .i64 0, .bool false, .slice none 0 0]), .bool false]) w2)
 (
 ckPtr o4 fun q3 =>
 ∀ w4, Adv [] [b1] w w4 →
 ldInt .i64 w4 q3 fun x5 => ldInt .i64 w4 (Addr.add q3 1) fun x6 => ldInt .i64 w4 (Addr.add q3 2) fun x7 => ldStr w4 (Addr.add q3 3) fun s8 => ldInt .i64 w4 (Addr.add q3 4) fun x9 => ldInt .i64 w4 (Addr.add q3 5) fun x10 => ldInt .i64 w4 (Addr.add q3 6) fun x11 => ldInt .i64 w4 (Addr.add q3 7) fun x12 => ldInt .i64 w4 (Addr.add q3 8) fun x13 => ldInt .i64 w4 (Addr.add q3 9) fun x14 => ldSlice w4 (Addr.add q3 10) fun a15 n16 c17 => ldStr w4 (Addr.add q3 11) fun s18 => ldStr w4 (Addr.add q3 12) fun s19 => ldInt .i64 w4 (Addr.add q3 13) fun x20 => ldBool w4 (Addr.add q3 14) fun t21 => ldSlice w4 (Addr.add q3 15) fun a22 n23 c24 =>
 Calls Tryz.prog 60 #[(.agg #[.int .i64 x5, .int .i64 x6, .int .i64 x7, .string s8, .int .i64 x9, .int .i64 x10, .int .i64 x11, .int .i64 x12, .int .i64 x13, .int .i64 x14, .slice a15 n16 c17, .string s18, .string s19, .int .i64 x20, .bool t21, .slice a22 n23 c24])] w4 fun e w25 => ∃ (x26 x27 x28 : Int) (s29 : ByteArray) (x30 x31 x32 x33 x34 x35 : Int) (a36 : Option Addr) (n37 c38 : Nat) (s39 s40 : ByteArray) (x41 : Int) (t42 : Bool) (a43 : Option Addr) (n44 c45 : Nat), e = .returned (.agg #[.int .i64 x26, .int .i64 x27, .int .i64 x28, .string s29, .int .i64 x30, .int .i64 x31, .int .i64 x32, .int .i64 x33, .int .i64 x34, .int .i64 x35, .slice a36 n37 c38, .string s39, .string s40, .int .i64 x41, .bool t42, .slice a43 n44 c45]) ∧ Keep [b0, b1] w4 w25 ∧
 ∀ w46, Adv [b1] [] w25 w46 → w46.heap[b0]? = some (.cells #[.int .i64 o0, .int .i64 o1, .int .i64 o2, .int .i64 o3, .pointer o4] 104) →
 R (.tuple #[(.agg #[.int .i64 x26, .int .i64 x27, .int .i64 x28, .string s29, .int .i64 x30, .int .i64 x31, .int .i64 x32, .int .i64 x33, .int .i64 x34, .int .i64 x35, .slice a36 n37 c38, .string s39, .string s40, .int .i64 x41, .bool t42, .slice a43 n44 c45]), .bool true]) w46)
theorem session_Session_Waits_eq (b0 : Nat) (o0 o1 o2 o3 : Int) (o4 : Option Addr) (R : Value → World → Prop) (w : World) :
 dnF Tryz.prog session_Session_Waits_an (code Tryz.f26) 400 [] (post3 Tryz.prog Tryz.f26 [0] R) ⟨(0, .pointer (some ⟨b0, 0, none⟩), some (0, 0)) :: args0 1 [], fun _ => undef⟩ ⟨[⟨b0, 104, [.int .i64 o0, .int .i64 o1, .int .i64 o2, .int .i64 o3, .pointer o4], false⟩], w, [], [], true⟩ = session_Session_Waits_T b0 o0 o1 o2 o3 o4 R w := by kernel_rfl
theorem session_Session_Waits_go {b0 : Nat} {o0 o1 o2 o3 : Int} {o4 : Option Addr} {R : Value → World → Prop} {w : World} (hb : w.heap[b0]? = some (.cells #[.int .i64 o0, .int .i64 o1, .int .i64 o2, .int .i64 o3, .pointer o4] 104)) (h : session_Session_Waits_T b0 o0 o1 o2 o3 o4 R w) :
 Calls Tryz.prog 26 #[(.pointer (some ⟨b0, 0, none⟩))] w fun e w' => ∃ v, e = .returned v ∧ R v w' :=
 calls_one Tryz.wide_mixed (f := 26) (args := []) Tryz.func26 rfl rfl (by kernel_rfl) rfl hb (Eq.mpr (session_Session_Waits_eq b0 o0 o1 o2 o3 o4 R w) h)
def session_Session_View_an : List LA := []
def session_Session_View_T (b0 : Nat) (o0 o1 o2 o3 : Int) (o4 : Option Addr) (R : Value → World → Prop) (w : World) : Prop :=
 ∀ w1, Adv [] [] w w1 → w1.heap[b0]? = some (.cells #[.int .i64 o0, .int .i64 o1, .int .i64 o2, .int .i64 o3, .pointer o4] 104) →
 R (.int .i64 o3) w1
theorem session_Session_View_eq (b0 : Nat) (o0 o1 o2 o3 : Int) (o4 : Option Addr) (R : Value → World → Prop) (w : World) :
 dnF Tryz.prog session_Session_View_an (code Tryz.f29) 400 [] (post3 Tryz.prog Tryz.f29 [0] R) ⟨(0, .pointer (some ⟨b0, 0, none⟩), some (0, 0)) :: args0 1 [], fun _ => undef⟩ ⟨[⟨b0, 104, [.int .i64 o0, .int .i64 o1, .int .i64 o2, .int .i64 o3, .pointer o4], false⟩], w, [], [], true⟩ = session_Session_View_T b0 o0 o1 o2 o3 o4 R w := by kernel_rfl
theorem session_Session_View_go {b0 : Nat} {o0 o1 o2 o3 : Int} {o4 : Option Addr} {R : Value → World → Prop} {w : World} (hb : w.heap[b0]? = some (.cells #[.int .i64 o0, .int .i64 o1, .int .i64 o2, .int .i64 o3, .pointer o4] 104)) (h : session_Session_View_T b0 o0 o1 o2 o3 o4 R w) :
 Calls Tryz.prog 29 #[(.pointer (some ⟨b0, 0, none⟩))] w fun e w' => ∃ v, e = .returned v ∧ R v w' :=
 calls_one Tryz.wide_mixed (f := 29) (args := []) Tryz.func29 rfl rfl (by kernel_rfl) rfl hb (Eq.mpr (session_Session_View_eq b0 o0 o1 o2 o3 o4 R w) h)
def slices_Collect_api_Mail_an : List LA := []
def slices_Collect_api_Mail_T (a0 : Value) (R : Value → World → Prop) (w : World) : Prop :=
 Calls Tryz.prog 112 #[.slice none 0 0, a0] w fun e w1 => ∃ (a2 : Option Addr) (n3 c4 : Nat), e = .returned (.slice a2 n3 c4) ∧
 R (.slice a2 n3 c4) w1
theorem slices_Collect_api_Mail_eq (a0 : Value) (R : Value → World → Prop) (w : World) :
 dnF Tryz.prog slices_Collect_api_Mail_an (code Tryz.f67) 400 [] (post3 Tryz.prog Tryz.f67 [] R) ⟨args0 0 [a0], fun _ => undef⟩ ⟨[], w, [], [], true⟩ = slices_Collect_api_Mail_T a0 R w := by kernel_rfl
theorem slices_Collect_api_Mail_go {a0 : Value} {R : Value → World → Prop} {w : World} (h : slices_Collect_api_Mail_T a0 R w) :
 Calls Tryz.prog 67 #[a0] w fun e w' => ∃ v, e = .returned v ∧ R v w' :=
 calls_none Tryz.wide_mixed (f := 67) (args := [a0]) Tryz.func67 rfl rfl (by kernel_rfl) rfl (Eq.mpr (slices_Collect_api_Mail_eq a0 R w) h)
end Go.Proofs.YtohgihgddknmmaaGreat

/- A client's object: what its methods do. -/
namespace Go.Proofs.YtohgihgddknmmaaGreat
open Go Go.RowKit
set_option linter.unusedVariables false
set_option linter.unusedSimpArgs false

theorem ldCV_of {w : World} {a : Addr} {q : CV} {F : Int → Int → Int → ByteArray → Int → Int → Int → Int → Int → Int → Option Addr → Nat → Nat → ByteArray → ByteArray → Int → Bool → Option Addr → Nat → Nat → Prop} (h : ∀ j v, q.cs[j]? = some v → w.cell? (a.add j) = some v) (hF : F q.x.c q.x.n q.x.op.kind q.x.op.part.t q.x.op.part.n q.x.op.n q.x.op.off q.x.op.b.prod q.x.op.b.epoch q.x.op.b.seq q.rs.a q.rs.n q.rs.c q.x.op.g q.x.op.m q.x.op.gen q.x.op.robin q.ts.a q.ts.n q.ts.c) :
    ldInt .i64 w a fun x0 => ldInt .i64 w (a.add 1) fun x1 => ldInt .i64 w (a.add 2) fun x2 => ldStr w (a.add 3) fun x3 => ldInt .i64 w (a.add 4) fun x4 => ldInt .i64 w (a.add 5) fun x5 => ldInt .i64 w (a.add 6) fun x6 => ldInt .i64 w (a.add 7) fun x7 => ldInt .i64 w (a.add 8) fun x8 => ldInt .i64 w (a.add 9) fun x9 => ldSlice w (a.add 10) fun a10 n10 c10 => ldStr w (a.add 11) fun x11 => ldStr w (a.add 12) fun x12 => ldInt .i64 w (a.add 13) fun x13 => ldBool w (a.add 14) fun x14 => ldSlice w (a.add 15) fun a15 n15 c15 => F x0 x1 x2 x3 x4 x5 x6 x7 x8 x9 a10 n10 c10 x11 x12 x13 x14 a15 n15 c15 :=
  ldInt_of (x := q.x.c) (by simpa [add_zero] using h 0 _ rfl) (ldInt_of (h 1 _ rfl) (ldInt_of (h 2 _ rfl) (ldStr_of (h 3 _ rfl) (ldInt_of (h 4 _ rfl) (ldInt_of (h 5 _ rfl) (ldInt_of (h 6 _ rfl) (ldInt_of (h 7 _ rfl) (ldInt_of (h 8 _ rfl) (ldInt_of (h 9 _ rfl) (ldSlice_of (h 10 _ rfl) (ldStr_of (h 11 _ rfl) (ldStr_of (h 12 _ rfl) (ldInt_of (h 13 _ rfl) (ldBool_of (h 14 _ rfl) (ldSlice_of (h 15 _ rfl) hF)))))))))))))))
theorem ckPtr_of {a : Addr} {F : Addr → Prop} (h : F a) : ckPtr (some a) F := h
theorem cv_cell {w : World} {b : Nat} {q : CV} {T : TypeId} (h : w.heap[b]? = some (.cells q.cs.toArray T)) : ∀ j v, q.cs[j]? = some v → w.cell? ((⟨b, 0, none⟩ : Addr).add j) = some v := fun j v hv => by
  rw [addr_add, Nat.zero_add, cell_at h]; simpa using hv
theorem SlAt.one {α : Type} {w : World} {b sz : Nat} {enc : α → List Value} {x : α} {T : TypeId} (h : w.heap[b]? = some (.cells (enc x).toArray T)) : SlAt w sz enc (some ⟨b, 0, none⟩) 1 [x] :=
  ⟨rfl, fun i y hy => ⟨_, rfl, fun j v hv => by
    have hi := (List.getElem?_eq_some_iff.1 hy).1
    have hi : i = 0 := by simp at hi; omega
    subst hi
    simp at hy; subst hy
    rw [addr_add, addr_add, cell_at h]; simpa using hv⟩⟩

theorem Row.one {α : Type} {w : World} {base T sz b : Nat} {enc : α → List Value} {x : α} (hs : (enc x).length = sz) (hb : base ≤ b) (h : w.heap[b]? = some (.cells (enc x).toArray T)) : Row w base T sz enc (some ⟨b, 0, none⟩) 1 1 [x] :=
  ⟨rfl, by simp [hs], .inr ⟨b, 1, (enc x).toArray, rfl, hb, h, by simp, by unfold maxLen; omega, by simp [hs], by subst hs; simp⟩⟩

/-! ### a quorum's numbers -/
def mayB (n : Int) : Bool := decide (1 ≤ n ∧ n ≤ 7)
theorem may_ok (n : Int) (w : World) : Calls Tryz.prog 102 #[.int .i64 n] w fun e w' => e = .returned (.bool (mayB n)) ∧ w' = w := by
  refine go_of (quorum_may_go ?_)
  refine brB_dec (fun h => ⟨?_, rfl⟩) fun h => ⟨?_, rfl⟩
  · congr 1; apply Bool.eq_iff_iff.2; simp [mayB]; omega
  · congr 1; symm; simp [mayB]; omega
def needN (n : Int) : Int := if mayB n then n / 2 + 1 else 0
theorem Need_ok (n : Int) (w : World) : Calls Tryz.prog 56 #[.int .i64 n] w fun e w' => e = .returned (.int .i64 (needN n)) ∧ w' = w := by
  refine go_of (quorum_Need_go ?_)
  refine (may_ok n w).mono ?_
  rintro e w1 ⟨rfl, rfl⟩
  refine ⟨_, rfl, brB_of (fun h => ⟨by rw [needN, if_neg (by rw [notT h]; decide)], rfl⟩) fun h => ⟨by decide, ?_, rfl⟩⟩
  have h := notF h
  have hb : 1 ≤ n ∧ n ≤ 7 := by simpa [mayB] using h
  rw [needN, if_pos h, Int.tdiv_eq_ediv_of_nonneg (by omega), wrap_id (x := n / 2) (by omega) (by omega), wrap_id (by omega) (by omega)]
theorem Primary_ok {v n : Int} (hv : 0 ≤ v) (hn : mayB n = true) (w : World) : Calls Tryz.prog 62 #[.int .i64 v, .int .i64 n] w fun e w' => e = .returned (.int .i64 (v % n)) ∧ w' = w := by
  have hb : 1 ≤ n ∧ n ≤ 7 := by simpa [mayB] using hn
  refine go_of (quorum_Primary_go ?_)
  refine (may_ok n w).mono ?_
  rintro e w1 ⟨rfl, rfl⟩
  refine ⟨_, rfl, brB_of (fun h => by rw [hn] at h; cases h) fun h => brB_dec (fun h => by omega) fun _ => ⟨by omega, ?_, rfl⟩⟩
  rw [Int.tmod_eq_emod_of_nonneg hv]

/-! ### the object -/
structure Ses (w : World) (b0 : Nat) (cl rp n v : Int) (o : Option PCall) : Prop where
  obj : ∃ p, w.heap[b0]? = some (.cells #[.int .i64 cl, .int .i64 rp, .int .i64 n, .int .i64 v, .pointer p] 104) ∧ (match o with
    | none => p = none
    | some c => ∃ (b9 : Nat) (rs ts : Sl), p = some ⟨b9, 0, none⟩ ∧ b0 < b9 ∧ w.heap[b9]? = some (.cells (CV.cs ⟨c, rs, ts⟩).toArray 57) ∧ OpOwn w (b0 + 1) c.op rs ts)
theorem Ses.keep0 {w w' : World} {b0 : Nat} {cl rp n v : Int} {o : Option PCall} (h : Ses w b0 cl rp n v o) (M : Mod [] w w') : Ses w' b0 cl rp n v o := by
  obtain ⟨p, h1, h2⟩ := h.obj
  refine ⟨p, M.keep0 h1, ?_⟩
  cases o with
  | none => exact h2
  | some c => obtain ⟨b9, rs, ts, h3, h4, h5, h6⟩ := h2; exact ⟨b9, rs, ts, h3, h4, M.keep0 h5, h6.keep0 M⟩
theorem Ses.lt {w : World} {b0 : Nat} {cl rp n v : Int} {o : Option PCall} (h : Ses w b0 cl rp n v o) : b0 < w.heap.size := by
  obtain ⟨p, h1, h2⟩ := h.obj; exact lt_of_block h1
theorem New_ok {cl rp : Int} (w : World) : Calls Tryz.prog 10 #[.int .i64 cl, .int .i64 rp] w fun e w' => ∃ v, e = .returned v ∧
    (if 1 ≤ cl ∧ cl ≤ 1099511627776 ∧ mayB rp = true then ∃ b0, v = .tuple #[.pointer (some ⟨b0, 0, none⟩), .int .i64 0] ∧ w.heap.size ≤ b0 ∧ Ses w' b0 cl rp 0 0 none else v = .tuple #[.pointer none, .int .i64 1]) ∧ Mod [] w w' := by
  refine session_New_go ?_
  refine brB_dec (fun h => ⟨by rw [if_neg (by omega)], Mod.refl _⟩) fun h1 => ?_
  refine brB_dec (fun h => ⟨by rw [if_neg (by omega)], Mod.refl _⟩) fun h2 => ?_
  refine (Need_ok rp w).mono ?_
  rintro e w1 ⟨rfl, rfl⟩
  refine ⟨_, rfl, brB_of (fun h => ⟨?_, Mod.refl _⟩) fun h => ?_⟩
  · have h : needN rp = 0 := by simpa using h
    rw [if_neg]
    rintro ⟨_, _, h3⟩
    rw [needN, if_pos h3] at h
    have hb : 1 ≤ rp ∧ rp ≤ 7 := by simpa [mayB] using h3
    omega
  · have h : needN rp ≠ 0 := by simpa using h
    have h3 : mayB rp = true := by
      cases hm : mayB rp with
      | true => rfl
      | false => rw [needN, if_neg (by rw [hm]; decide)] at h; exact absurd rfl h
    intro b3 f3 w4 A4 h4
    refine ⟨?_, A4.mod⟩
    rw [if_pos ⟨by omega, by omega, h3⟩]
    exact ⟨b3, rfl, f3, ⟨none, h4, rfl⟩⟩

theorem SOwn_ok {w : World} {q : CV} (h : OpAt w q.x.op q.rs q.ts) :
    Calls Tryz.prog 60 #[q.v] w fun e w' => ∃ v, e = .returned v ∧ ∃ rs ts : Sl, v = (⟨q.x, rs, ts⟩ : CV).v ∧ OpOwn w' w.heap.size q.x.op rs ts ∧ Mod [] w w' := by
  refine session_own_go ?_
  intro b1 f1 b2 f2 w3 A3
  have l2 := A3.lt b2 (by simp)
  have s3 := A3.mod.size
  refine al_of fun b4 w5 c5 M5 f5 => ?_
  have s5 := M5.size
  have N5 := A3.mod.go0 M5 (by simp)
  have hM : MailAt w5 ⟨0, 0, 0, 0, 0, 0, 0, 0, 0, 0, [q.x], rep00⟩ ⟨some ⟨b4, 0, none⟩, 1, 1⟩ nilS nilS :=
    ⟨⟨[q], SlAt.one (enc := CV.cs) (x := q) (T := 57) c5, fun y hy => by simp at hy; subst hy; exact h.keep0 N5, rfl⟩, ⟨(Row.nil w5 0 152 5 encF).sl encF_len, (Row.nil w5 0 32 2 encP).sl encP_len, by simp [rep00], by simp [rep00]⟩⟩
  refine (Own_ok hM (by simp)).mono ?_
  rintro e w6 ⟨_, rfl, s', f', p', rfl, hO, M6⟩
  have s6 := M6.size
  obtain ⟨ll, hS, hOw, hll⟩ := hO.calls
  obtain ⟨q', rfl⟩ : ∃ q', ll = [q'] := by
    have := congrArg List.length hll
    simp at this
    exact List.length_eq_one_iff.1 this
  have hq : q'.x = q.x := by simpa using hll
  refine ⟨_, _, _, _, _, _, _, _, _, _, _, _, _, _, _, _, _, _, _, _, _, _, _, rfl, Keep.of0 M6, ?_⟩
  refine (hS.sl CV.cs_len).ix (i := 0) (x := q') rfl fun a ha => ldCV_of ha ?_
  intro w7 A7
  refine ⟨q'.rs, q'.ts, by rw [← hq]; rfl, ?_, (N5.go0 M6 (by simp)).go0 A7.mod (by simpa using f2)⟩
  have := hOw q' (by simp)
  rw [hq] at this
  exact OpOwn.rebase (OpOwn.keepB this A7.mod (by simp; omega)) (by omega)

/-- What it sends. -/
def askM (cl to : Int) (c : PCall) : PMail := ⟨0, cl, to, 0, 0, 0, 0, 0, 0, 0, [c], rep00⟩
theorem mail_ok {w : World} {b0 : Nat} {cl rp n v : Int} {c : PCall} (h : Ses w b0 cl rp n v (some c)) (to : Int) :
    Calls Tryz.prog 61 #[.pointer (some ⟨b0, 0, none⟩), .int .i64 to] w fun e w' => ∃ v, e = .returned v ∧ ∃ s' : Sl, v = (askM cl to c).v s' nilS nilS ∧ MailOwn w' w.heap.size (askM cl to c) s' nilS nilS ∧ Mod [] w w' := by
  obtain ⟨p, h1, b9, rs, ts, rfl, h4, h5, h6⟩ := h.obj
  refine session_Session_mail_go h1 ?_
  intro b1 f1
  refine ckPtr_of ?_
  intro w3 A3
  have l1 := A3.lt b1 (by simp)
  have s3 := A3.mod.size
  refine ldCV_of (q := ⟨c, rs, ts⟩) (cv_cell (A3.mod.keep0 h5)) ?_
  refine (SOwn_ok (q := ⟨c, rs, ts⟩) (h6.at.keep0 A3.mod)).mono ?_
  rintro e w4 ⟨_, rfl, rs', ts', rfl, hO, M4⟩
  have s4 := M4.size
  refine ⟨_, _, _, _, _, _, _, _, _, _, _, _, _, _, _, _, _, _, _, _, rfl, Keep.of0 M4, rfl, ?_⟩
  refine al_of fun b5 w5 c5 M5 f5 => ?_
  have s5 := M5.size
  intro w6 A6 h6'
  have hrow : Row w5 w3.heap.size 57 16 CV.cs (some ⟨b5, 0, none⟩) 1 1 [(⟨c, rs', ts'⟩ : CV)] := Row.one rfl (by omega) c5
  have hC : CallsOwn w5 w3.heap.size ⟨some ⟨b5, 0, none⟩, 1, 1⟩ [c] := ⟨[⟨c, rs', ts'⟩], hrow, fun y hy => by simp at hy; subst hy; exact hO.keep0 M5, rfl⟩
  have hR : RepOwn w5 w3.heap.size rep00 nilS nilS := ⟨Row.nil .., Row.nil .., by simp [rep00], by simp [rep00]⟩
  have hM : MailOwn w5 w3.heap.size (askM cl to c) ⟨some ⟨b5, 0, none⟩, 1, 1⟩ nilS nilS := ⟨hC, hR⟩
  exact ⟨⟨some ⟨b5, 0, none⟩, 1, 1⟩, rfl, (hM.keepB A6.mod (by simp; omega)).rebase s3, ((A3.mod.go0 M4 (by simp)).go0 M5 (by simp)).go0 A6.mod (by simpa using f1)⟩

/-! ### a call -/
def callE (op : POp) (n : Int) (o : Option PCall) : Int := if opE op ≠ 0 then opE op else if o.isSome then 220 else if n ≥ 1099511627776 then 2 else 0
set_option maxHeartbeats 1000000 in
theorem Call_ok {w : World} {b0 : Nat} {cl rp n v : Int} {o : Option PCall} (h : Ses w b0 cl rp n v o) {op : POp} {rs ts : Sl} (hop : ∀ w', Mod [b0] w w' → OpAt w' op rs ts) (hv : 0 ≤ v) (hrp : mayB rp = true) (hn : 0 ≤ n) :
    Calls Tryz.prog 15 #[.pointer (some ⟨b0, 0, none⟩), op.v rs ts] w fun e w' => ∃ u, e = .returned u ∧ Mod [b0] w w' ∧
      (if callE op n o = 0 then ∃ s' : Sl, u = .tuple #[(askM cl (v % rp) ⟨cl, n + 1, op⟩).v s' nilS nilS, .int .i64 0] ∧ MailOwn w' w.heap.size (askM cl (v % rp) ⟨cl, n + 1, op⟩) s' nilS nilS ∧ Ses w' b0 cl rp (n + 1) v (some ⟨cl, n + 1, op⟩)
      else u = .tuple #[mail0.v nilS nilS nilS, .int .i64 (callE op n o)] ∧ Ses w' b0 cl rp n v o) := by
  have hlt := h.lt
  obtain ⟨p, h1, h2⟩ := h.obj
  have hpo : (!(Option.isNone p)) = o.isSome := by
    cases o with
    | none => rw [h2]; rfl
    | some c => obtain ⟨b9, _, _, rfl, _⟩ := h2; rfl
  refine session_Session_Call_go h1 ?_
  intro b1 f1 b2 f2 w3 A3
  have l2 := A3.lt b2 (by simp)
  have s3 := A3.mod.size
  have M1 : ∀ {w'}, Mod [] w w' → Mod [b0] w w' := fun M => M.less (by simp)
  refine (Check_ok (hop w3 (M1 A3.mod))).mono ?_
  rintro e w4 ⟨rfl, M4⟩
  have N4 := A3.mod.go0 M4 (by simp)
  have s4 := M4.size
  refine ⟨_, rfl, Keep.of0 M4, ?_⟩
  have fin : ∀ {w'}, Adv [b2] [] w4 w' → callE op n o ≠ 0 → (if callE op n o = 0 then ∃ s' : Sl, Value.tuple #[mail0.v nilS nilS nilS, .int .i64 (callE op n o)] = .tuple #[(askM cl (v % rp) ⟨cl, n + 1, op⟩).v s' nilS nilS, .int .i64 0] ∧ MailOwn w' w.heap.size (askM cl (v % rp) ⟨cl, n + 1, op⟩) s' nilS nilS ∧ Ses w' b0 cl rp (n + 1) v (some ⟨cl, n + 1, op⟩)
      else Value.tuple #[mail0.v nilS nilS nilS, .int .i64 (callE op n o)] = .tuple #[mail0.v nilS nilS nilS, .int .i64 (callE op n o)] ∧ Ses w' b0 cl rp n v o) := fun {w'} A hne => by
    rw [if_neg hne]
    exact ⟨rfl, h.keep0 (N4.go0 A.mod (by simpa using f2))⟩
  refine brB_of (fun g => ?_) fun g => ?_
  · have g : opE op ≠ 0 := by simpa using g
    have e : callE op n o = opE op := by rw [callE, if_pos g]
    intro w6 A6 _
    rw [← e]
    exact ⟨M1 (N4.go0 A6.mod (by simpa using f2)), fin A6 (by rw [e]; exact g)⟩
  have g : opE op = 0 := by simpa using g
  refine brB_of (fun g2 => ?_) fun g2 => ?_
  · rw [hpo] at g2
    have e : callE op n o = 220 := by rw [callE, if_neg (by simpa using g), if_pos g2]
    intro w6 A6 _
    rw [← e]
    exact ⟨M1 (N4.go0 A6.mod (by simpa using f2)), fin A6 (by rw [e]; decide)⟩
  rw [hpo] at g2
  have ho : o = none := by simpa using g2
  subst ho
  refine brB_dec (fun g3 => ?_) fun g3 => ?_
  · have e : callE op n none = 2 := by rw [callE, if_neg (by simpa using g), if_neg (by decide), if_pos g3]
    intro w6 A6 _
    rw [← e]
    exact ⟨M1 (N4.go0 A6.mod (by simpa using f2)), fin A6 (by rw [e]; decide)⟩
  have hce : callE op n none = 0 := by rw [callE, if_neg (by simpa using g), if_neg (by decide), if_neg g3]
  have hw1 : IntKind.wrap .i64 (n + 1) = n + 1 := wrap_id (by omega) (by omega)
  have h2 : p = none := h2
  refine ⟨?_, ?_⟩
  · intro b9 f9 w5 A5
    have l9 := A5.lt b9 (by simp)
    have s5 := A5.mod.size
    have N5 : Mod [b0] w w5 := (N4.trans A5.mod).less (by simp)
    rw [hw1]
    refine (SOwn_ok (q := ⟨⟨cl, n + 1, op⟩, rs, ts⟩) (hop w5 N5)).mono ?_
    rintro e w6 ⟨_, rfl, rs', ts', rfl, hO, M6⟩
    have s6 := M6.size
    refine ⟨_, _, _, _, _, _, _, _, _, _, _, _, _, _, _, _, _, _, _, _, rfl, Keep.of0 M6, ?_⟩
    intro w7 A7 h7
    have s7 := A7.mod.size
    have hO7 : OpOwn w7 w5.heap.size op rs' ts' := hO.keepB A7.mod (by simp; omega)
    have hfin : Mod [b0] w w7 := ((N5.trans M6).trans A7.mod).less fun i hi hlt => by simp at hi ⊢; omega
    refine (Primary_ok hv hrp w7).mono ?_
    rintro e w8 ⟨rfl, rfl⟩
    refine ⟨_, rfl, Keep.of0 (Mod.refl _), _, _, _, _, _, _, _, _, _, _, _, _, _, _, _, _, _, _, _, _, h7, ?_⟩
    intro w9 A9 h9 h9'
    have s9 := A9.mod.size
    have hS9 : Ses w9 b0 cl rp (n + 1) v (some ⟨cl, n + 1, op⟩) :=
      ⟨_, h9, b9, rs', ts', rfl, by omega, h9', (hO7.keep0 A9.mod).rebase (by omega)⟩
    refine (mail_ok hS9 (v % rp)).mono ?_
    rintro e w10 ⟨_, rfl, s', rfl, hM, M10⟩
    have s10 := M10.size
    have hS10 := hS9.keep0 M10
    refine ⟨_, _, _, _, _, _, _, _, _, _, _, _, _, _, _, _, _, _, _, _, _, _, _, rfl, Keep.of0 M10, _, _, _, _, _, M10.keep0 h9, _, _, _, _, _, _, _, _, _, _, _, _, _, _, _, _, _, _, _, _, M10.keep0 h9', ?_⟩
    intro w11 A11 h11 h11'
    have s11 := A11.mod.size
    refine ⟨?_, ?_⟩
    · refine ((hfin.trans (A9.mod.trans M10)).trans A11.mod).less fun i hi hlt => ?_
      simp at hi ⊢
      rcases hi with hi | hi
      · exact hi
      · omega
    · rw [if_pos hce]
      exact ⟨s', rfl, (hM.keepB A11.mod (by simp; omega)).rebase (by omega), ⟨_, h11, b9, rs', ts', rfl, by omega, h11', OpOwn.rebase (OpOwn.keepB ((hO7.keep0 A9.mod).keep0 M10) A11.mod (by simp; omega)) (by omega)⟩⟩
  · intro w5 A5
    have s5 := A5.mod.size
    have N5 : Mod [b0] w w5 := (N4.trans A5.mod).less (by simp)
    rw [hw1]
    refine (SOwn_ok (q := ⟨⟨cl, n + 1, op⟩, rs, ts⟩) (hop w5 N5)).mono ?_
    rintro e w6 ⟨_, rfl, rs', ts', rfl, hO, M6⟩
    have s6 := M6.size
    refine ⟨_, _, _, _, _, _, _, _, _, _, _, _, _, _, _, _, _, _, _, _, rfl, Keep.of0 M6, ?_⟩
    intro b9 f9 w7 A7 h7
    have s7 := A7.mod.size
    have hO7 : OpOwn w7 w5.heap.size op rs' ts' := hO.keepB A7.mod (by simp; omega)
    have hfin : Mod [b0] w w7 := ((N5.trans M6).trans A7.mod).less fun i hi hlt => by simp at hi ⊢; omega
    refine (Primary_ok hv hrp w7).mono ?_
    rintro e w8 ⟨rfl, rfl⟩
    refine ⟨_, rfl, Keep.of0 (Mod.refl _), _, _, _, _, _, _, _, _, _, _, _, _, _, _, _, _, _, _, _, _, h7, ?_⟩
    intro w9 A9 h9 h9'
    have s9 := A9.mod.size
    have hS9 : Ses w9 b0 cl rp (n + 1) v (some ⟨cl, n + 1, op⟩) :=
      ⟨_, h9, b9, rs', ts', rfl, by omega, h9', (hO7.keep0 A9.mod).rebase (by omega)⟩
    refine (mail_ok hS9 (v % rp)).mono ?_
    rintro e w10 ⟨_, rfl, s', rfl, hM, M10⟩
    have s10 := M10.size
    have hS10 := hS9.keep0 M10
    refine ⟨_, _, _, _, _, _, _, _, _, _, _, _, _, _, _, _, _, _, _, _, _, _, _, rfl, Keep.of0 M10, _, _, _, _, _, M10.keep0 h9, _, _, _, _, _, _, _, _, _, _, _, _, _, _, _, _, _, _, _, _, M10.keep0 h9', ?_⟩
    intro w11 A11 h11 h11'
    have s11 := A11.mod.size
    refine ⟨?_, ?_⟩
    · refine ((hfin.trans (A9.mod.trans M10)).trans A11.mod).less fun i hi hlt => ?_
      simp at hi ⊢
      rcases hi with hi | hi
      · exact hi
      · omega
    · rw [if_pos hce]
      exact ⟨s', rfl, (hM.keepB A11.mod (by simp; omega)).rebase (by omega), ⟨_, h11, b9, rs', ts', rfl, by omega, h11', OpOwn.rebase (OpOwn.keepB ((hO7.keep0 A9.mod).keep0 M10) A11.mod (by simp; omega)) (by omega)⟩⟩
end Go.Proofs.YtohgihgddknmmaaGreat
