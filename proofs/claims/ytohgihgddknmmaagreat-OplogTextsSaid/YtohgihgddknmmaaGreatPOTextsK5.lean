/- Part 5 of the proof of POTexts. -/
import Derived.WalkKit
import Derived.WalkSpells
import Derived.WalkLawsBesides
import Derived.Deep.Quiet
import Derived.Test.YtohgihgddknmmaaGreatRows
import Derived.KernelRfl
import Derived.Maps.Keyed
import Derived.Maps.RangeRun
import Derived.DeepKeys4
import Derived.Lib.Strings
import Derived.Shelf.RegionOpenPlain
import Derived.Lib.Slices
import Derived.Lib.Walk
import Derived.Lib.Builder
import Derived.Lib.FrozenHead
import Derived.Lib.OthersKept
import Derived.Lib.AppendStr
import Derived.Lib.UnsafeStr
import Derived.Lib.MakeNoZero
import Derived.Laws.Externs
import Derived.Laws.IdiomCopy
import Derived.Laws.BitsLemmas
import Derived.RangeFuncBox
import Derived.RangeFuncLeaves
import Derived.RangeFuncNested
import Derived.Shelf.Abstract
import Derived.OwnWalkIn
import Derived.TacticsInMore
import Derived.LoopNIn
import Derived.LoopIn
import Derived.Maps.AppendAt
import Derived.Sort.LoopGhostIn
import Derived.Laws.Bits64b
import Derived.Laws.IdiomStrings
import Derived.Test.YtohgihgddknmmaaGreatProg
import Derived.Shelf.Lay
import Derived.Shelf.Strings.FuncGrows
import Derived.Laws.RangeAny
import Derived.Ground.GgwProg
import Derived.Ground.NamesProg
import Derived.ArgAppend
import Derived.Deep.RegionWith
import Derived.Test.YtohgihgddknmmaaGreatPOTextsK4
/- The conditions of Go functions' bodies, printed by gen2.py. -/
namespace Go.Proofs.YtohgihgddknmmaaGreat
open Go Go.RowKit
set_option linter.unusedVariables false
set_option maxRecDepth 100000

def oplog_own_an : List LA := []
def oplog_own_T (b4 : Int) (b5 : Int) (b6 : Int) (b7 : ByteArray) (b8 : Int) (b9 : Int) (c0 : Int) (c1 : Int) (c2 : Int) (c3 : Int) (a0 : Option Addr) (a2 : Nat) (a1 : Nat) (a7 : ByteArray) (a8 : ByteArray) (b0 : Int) (b3 : Bool) (a3 : Option Addr) (a6 : Nat) (a4 : Nat) (R : Value → World → Prop) (w : World) : Prop :=
 ∀ b1, w.heap.size ≤ b1 →
 ∀ b2, w.heap.size ≤ b2 →
 ∀ w3, Adv [] [b2, b1] w w3 →
 Calls Tryz.prog 115 #[(.slice a3 a6 a4)] w3 fun e w4 => ∃ (a5 : Option Addr) (n6 c7 : Nat), e = .returned (.slice a5 n6 c7) ∧ Keep [b1, b2] w3 w4 ∧ (((.slice a0 a2 a1) : Value) = (.slice a0 a2 a1)) ∧
 Calls Tryz.prog 116 #[(.slice a0 a2 a1)] w4 fun e w8 => ∃ (a9 : Option Addr) (n10 c11 : Nat), e = .returned (.slice a9 n10 c11) ∧ Keep [b1, b2] w4 w8 ∧
 ∀ w12, Adv [b2, b1] [] w8 w12 →
 R (.agg #[(.int .i64 b4), (.int .i64 b5), (.int .i64 b6), (.string b7), (.int .i64 b8), (.int .i64 b9), (.int .i64 c0), (.int .i64 c1), (.int .i64 c2), (.int .i64 c3), (.slice a9 n10 c11), (.string a7), (.string a8), (.int .i64 b0), (.bool b3), (.slice a5 n6 c7)]) w12
theorem oplog_own_eq (b0 : Int) (b1 : Int) (b2 : Int) (b3 : ByteArray) (b4 : Int) (b5 : Int) (b6 : Int) (b7 : Int) (b8 : Int) (b9 : Int) (a0 : Option Addr) (a2 : Nat) (a1 : Nat) (a6 : ByteArray) (a7 : ByteArray) (a8 : Int) (a9 : Bool) (a3 : Option Addr) (a5 : Nat) (a4 : Nat) (R : Value → World → Prop) (w : World) :
 dnF Tryz.prog oplog_own_an (code Tryz.f99) 400 [] (post3 Tryz.prog Tryz.f99 [] R) ⟨args0 0 [(.agg #[(.int .i64 b0), (.int .i64 b1), (.int .i64 b2), (.string b3), (.int .i64 b4), (.int .i64 b5), (.int .i64 b6), (.int .i64 b7), (.int .i64 b8), (.int .i64 b9), (.slice a0 a2 a1), (.string a6), (.string a7), (.int .i64 a8), (.bool a9), (.slice a3 a5 a4)])], fun _ => undef⟩ ⟨[], w, [], [], true⟩ = oplog_own_T b0 b1 b2 b3 b4 b5 b6 b7 b8 b9 a0 a2 a1 a6 a7 a8 a9 a3 a5 a4 R w := by kernel_rfl
theorem oplog_own_go {b0 : Int} {b1 : Int} {b2 : Int} {b3 : ByteArray} {b4 : Int} {b5 : Int} {b6 : Int} {b7 : Int} {b8 : Int} {b9 : Int} {a0 : Option Addr} {a2 : Nat} {a1 : Nat} {a6 : ByteArray} {a7 : ByteArray} {a8 : Int} {a9 : Bool} {a3 : Option Addr} {a5 : Nat} {a4 : Nat} {R : Value → World → Prop} {w : World} (h : oplog_own_T b0 b1 b2 b3 b4 b5 b6 b7 b8 b9 a0 a2 a1 a6 a7 a8 a9 a3 a5 a4 R w) :
 Calls Tryz.prog 99 #[(.agg #[(.int .i64 b0), (.int .i64 b1), (.int .i64 b2), (.string b3), (.int .i64 b4), (.int .i64 b5), (.int .i64 b6), (.int .i64 b7), (.int .i64 b8), (.int .i64 b9), (.slice a0 a2 a1), (.string a6), (.string a7), (.int .i64 a8), (.bool a9), (.slice a3 a5 a4)])] w fun e w' => ∃ v, e = .returned v ∧ R v w' :=
 calls_none Tryz.wide_mixed (f := 99) (args := [(.agg #[(.int .i64 b0), (.int .i64 b1), (.int .i64 b2), (.string b3), (.int .i64 b4), (.int .i64 b5), (.int .i64 b6), (.int .i64 b7), (.int .i64 b8), (.int .i64 b9), (.slice a0 a2 a1), (.string a6), (.string a7), (.int .i64 a8), (.bool a9), (.slice a3 a5 a4)])]) Tryz.func99 rfl rfl (by kernel_rfl) rfl (Eq.mpr (oplog_own_eq b0 b1 b2 b3 b4 b5 b6 b7 b8 b9 a0 a2 a1 a6 a7 a8 a9 a3 a5 a4 R w) h)
def oplog_all_la1 : LA := ⟨[0, 0, 1, 0, 1, 1], [3, 6, 7, 8], [], 0, []⟩
def oplog_all_an : List LA := [oplog_all_la1]
def oplog_all_v1 (a1 : Option Addr) (a5 : Nat) (a3 : Nat) (a6 : Int) (a0 : Option Addr) (a4 : Nat) (a2 : Nat) (a7 : Int) : List Value := [(.slice a0 a4 a2), (.slice a1 a5 a3), (.int .i64 a6), (.int .i64 a7)]
def oplog_all_m1 : List TB := []
def oplog_all_L1 (a2 : Option Addr) (a5 : Nat) (a7 : Nat) (a6 : Int) (a1 : Option Addr) (a4 : Nat) (a3 : Nat) (a0 : Int) (K1 : Kh) (R : Value → World → Prop) (w : World) : Prop :=
 brB (decide (a0 < a6)) (
 ixA a2 a5 a0 16 fun q1 =>
 ldInt .i64 w q1 fun x2 => ldInt .i64 w (Addr.add q1 1) fun x3 => ldInt .i64 w (Addr.add q1 2) fun x4 => ldStr w (Addr.add q1 3) fun s5 => ldInt .i64 w (Addr.add q1 4) fun x6 => ldInt .i64 w (Addr.add q1 5) fun x7 => ldInt .i64 w (Addr.add q1 6) fun x8 => ldInt .i64 w (Addr.add q1 7) fun x9 => ldInt .i64 w (Addr.add q1 8) fun x10 => ldInt .i64 w (Addr.add q1 9) fun x11 => ldSlice w (Addr.add q1 10) fun a12 n13 c14 => ldStr w (Addr.add q1 11) fun s15 => ldStr w (Addr.add q1 12) fun s16 => ldInt .i64 w (Addr.add q1 13) fun x17 => ldBool w (Addr.add q1 14) fun t18 => ldSlice w (Addr.add q1 15) fun a19 n20 c21 =>
 ∀ b22, w.heap.size ≤ b22 →
 ∀ w23, Adv [] [b22] w w23 →
 Calls Tryz.prog 99 #[(.agg #[(.int .i64 x2), (.int .i64 x3), (.int .i64 x4), (.string s5), (.int .i64 x6), (.int .i64 x7), (.int .i64 x8), (.int .i64 x9), (.int .i64 x10), (.int .i64 x11), (.slice a12 n13 c14), (.string s15), (.string s16), (.int .i64 x17), (.bool t18), (.slice a19 n20 c21)])] w23 fun e w24 => ∃ x25 : Int, ∃ x26 : Int, ∃ x27 : Int, ∃ s28 : ByteArray, ∃ x29 : Int, ∃ x30 : Int, ∃ x31 : Int, ∃ x32 : Int, ∃ x33 : Int, ∃ x34 : Int, ∃ (a35 : Option Addr) (n36 c37 : Nat), ∃ s38 : ByteArray, ∃ s39 : ByteArray, ∃ x40 : Int, ∃ t41 : Bool, ∃ (a42 : Option Addr) (n43 c44 : Nat), e = .returned (.agg #[(.int .i64 x25), (.int .i64 x26), (.int .i64 x27), (.string s28), (.int .i64 x29), (.int .i64 x30), (.int .i64 x31), (.int .i64 x32), (.int .i64 x33), (.int .i64 x34), (.slice a35 n36 c37), (.string s38), (.string s39), (.int .i64 x40), (.bool t41), (.slice a42 n43 c44)]) ∧ Keep [b22] w23 w24 ∧
 al w24 (.cells #[(.int .i64 x25), (.int .i64 x26), (.int .i64 x27), (.string s28), (.int .i64 x29), (.int .i64 x30), (.int .i64 x31), (.int .i64 x32), (.int .i64 x33), (.int .i64 x34), (.slice a35 n36 c37), (.string s38), (.string s39), (.int .i64 x40), (.bool t41), (.slice a42 n43 c44)] 57) fun b45 w46 =>
 effSl Tryz.prog (Builtin.append_ #[39, 39] 39 #[(.slice a1 a4 a3), (.slice (some ⟨b45, 0, none⟩) 1 1)]) w46 fun a48 n49 c50 w47 => Keep [b22] w46 w47 ∧
 K1 (oplog_all_v1 a2 a5 a7 a6 a48 n49 c50 (IntKind.wrap .i64 (a0 + 1))) (oplog_all_m1) w47)
 (
 R (.slice a1 a4 a3) w)
theorem oplog_all_L1_eq (a1 : Option Addr) (a5 : Nat) (a3 : Nat) (a6 : Int) (a0 : Option Addr) (a4 : Nat) (a2 : Nat) (a7 : Int) (K1 : Kh) (js : Nat → Value) (R : Value → World → Prop) (w : World) :
 headA oplog_all_la1 ((dnF Tryz.prog oplog_all_an (code Tryz.f96) 396 [0, 0, 1, 0, 1, 1]) (kthen3 (atA oplog_all_la1 K1) (kont3 Tryz.prog oplog_all_an (code Tryz.f96) [1, 1, 0, 1, 0] [] (post3 Tryz.prog Tryz.f96 [] R)))) (oplog_all_v1 a1 a5 a3 a6 a0 a4 a2 a7) js (oplog_all_m1) w = oplog_all_L1 a1 a5 a3 a6 a0 a4 a2 a7 K1 R w := by kernel_rfl
def oplog_all_K1 (a4 : Option Addr) (a6 : Nat) (a5 : Nat) (a7 : Int) (I : Nat → Option Addr → Nat → Nat → Int → World → Prop) (m : Nat) (vals : List Value) (mem : List TB) (w : World) : Prop := ∃ m', m' < m ∧ ∃ a0 a2 a1 a3, vals = (oplog_all_v1 a4 a6 a5 a7 a0 a2 a1 a3) ∧ mem = (oplog_all_m1) ∧ I m' a0 a2 a1 a3 w
theorem oplog_all_leaf1 {a1 : Option Addr} {a5 : Nat} {a3 : Nat} {a6 : Int} {I : Nat → Option Addr → Nat → Nat → Int → World → Prop} {m : Nat} {a0 : Option Addr} {a4 : Nat} {a2 : Nat} {a7 : Int} {w : World} (m' : Nat) (h1 : m' < m) (h2 : I m' a0 a4 a2 a7 w) : oplog_all_K1 a1 a5 a3 a6 I m (oplog_all_v1 a1 a5 a3 a6 a0 a4 a2 a7) (oplog_all_m1) w := ⟨m', h1, _, _, _, _, rfl, rfl, h2⟩
theorem oplog_all_rule1 {a4 : Option Addr} {a6 : Nat} {a5 : Nat} {a7 : Int} {a8 : Option Addr} {b0 : Nat} {a9 : Nat} {b1 : Int} {R : Value → World → Prop} {w0 : World} (I : Nat → Option Addr → Nat → Nat → Int → World → Prop) (m0 : Nat) (h0 : I m0 a8 b0 a9 b1 w0)
 (hr : ∀ (m : Nat) (a0 : Option Addr) (a2 : Nat) (a1 : Nat) (a3 : Int) (w : World), I m a0 a2 a1 a3 w → oplog_all_L1 a4 a6 a5 a7 a0 a2 a1 a3 (oplog_all_K1 a4 a6 a5 a7 I m) R w) :
 loopD3 oplog_all_la1 (dnF Tryz.prog oplog_all_an (code Tryz.f96) 396 [0, 0, 1, 0, 1, 1]) (kont3 Tryz.prog oplog_all_an (code Tryz.f96) [1, 1, 0, 1, 0] [] (post3 Tryz.prog Tryz.f96 [] R)) (oplog_all_v1 a4 a6 a5 a7 a8 b0 a9 b1) (oplog_all_m1) w0 := by
 refine ⟨fun m vals mem w => ∃ a0 a2 a1 a3, vals = (oplog_all_v1 a4 a6 a5 a7 a0 a2 a1 a3) ∧ mem = (oplog_all_m1) ∧ I m a0 a2 a1 a3 w, m0, ⟨_, _, _, _, rfl, rfl, h0⟩, ?_⟩
 rintro m vals mem w ⟨a0, a2, a1, a3, rfl, rfl, hI⟩
 refine ⟨rfl, rfl, fun js => ?_⟩
 have h := hr m a0 a2 a1 a3 w hI
 rw [← oplog_all_L1_eq _ _ _ _ _ _ _ _ _ js] at h
 exact h
def oplog_all_T (a1 : Option Addr) (a0 : Nat) (a2 : Nat) (R : Value → World → Prop) (w : World) : Prop :=
 loopD3 oplog_all_la1 (dnF Tryz.prog oplog_all_an (code Tryz.f96) 396 [0, 0, 1, 0, 1, 1]) (kont3 Tryz.prog oplog_all_an (code Tryz.f96) [1, 1, 0, 1, 0] [] (post3 Tryz.prog Tryz.f96 [] R)) (oplog_all_v1 a1 a0 a2 (a0 : Int) none 0 0 0) (oplog_all_m1) w
theorem oplog_all_eq (a0 : Option Addr) (a2 : Nat) (a1 : Nat) (R : Value → World → Prop) (w : World) :
 dnF Tryz.prog oplog_all_an (code Tryz.f96) 400 [] (post3 Tryz.prog Tryz.f96 [] R) ⟨args0 0 [(.slice a0 a2 a1)], fun _ => undef⟩ ⟨[], w, [], [], true⟩ = oplog_all_T a0 a2 a1 R w := by kernel_rfl
theorem oplog_all_go {a0 : Option Addr} {a2 : Nat} {a1 : Nat} {R : Value → World → Prop} {w : World} (h : oplog_all_T a0 a2 a1 R w) :
 Calls Tryz.prog 96 #[(.slice a0 a2 a1)] w fun e w' => ∃ v, e = .returned v ∧ R v w' :=
 calls_none Tryz.wide_mixed (f := 96) (args := [(.slice a0 a2 a1)]) Tryz.func96 rfl rfl (by kernel_rfl) rfl (Eq.mpr (oplog_all_eq a0 a2 a1 R w) h)
def oplog_Load_an : List LA := []
def oplog_Load_T (a0 : Int) (a2 : Option Addr) (a1 : Nat) (a3 : Nat) (R : Value → World → Prop) (w : World) : Prop :=
 brB (decide (a0 < 0)) (
 R (.tuple #[(.pointer none), (.int .i64 1)]) w)
 (
 brB (decide (a0 > 1099511627776)) (
 R (.tuple #[(.pointer none), (.int .i64 1)]) w)
 (
 brB (decide ((a1 : Int) > (IntKind.wrap .i64 (1099511627776 - a0)))) (
 R (.tuple #[(.pointer none), (.int .i64 1)]) w)
 (
 Calls Tryz.prog 75 #[(.slice a2 a1 a3)] w fun e w1 => ∃ x2 : Int, e = .returned (.int .i64 x2) ∧
 brB (x2 != 0) (
 R (.tuple #[(.pointer none), (.int .i64 x2)]) w1)
 (
 Calls Tryz.prog 96 #[(.slice a2 a1 a3)] w1 fun e w3 => ∃ (a4 : Option Addr) (n5 c6 : Nat), e = .returned (.slice a4 n5 c6) ∧
 ∀ b7, w3.heap.size ≤ b7 →
 ∀ w8, Adv [] [b7] w3 w8 → w8.heap[b7]? = some (.cells #[(.int .i64 a0), (.slice a4 n5 c6)] 144) →
 R (.tuple #[(.pointer (some ⟨b7, 0, none⟩)), (.int .i64 0)]) w8))))
theorem oplog_Load_eq (a0 : Int) (a1 : Option Addr) (a3 : Nat) (a2 : Nat) (R : Value → World → Prop) (w : World) :
 dnF Tryz.prog oplog_Load_an (code Tryz.f37) 400 [] (post3 Tryz.prog Tryz.f37 [] R) ⟨args0 0 [(.int .i64 a0), (.slice a1 a3 a2)], fun _ => undef⟩ ⟨[], w, [], [], true⟩ = oplog_Load_T a0 a1 a3 a2 R w := by kernel_rfl
theorem oplog_Load_go {a0 : Int} {a1 : Option Addr} {a3 : Nat} {a2 : Nat} {R : Value → World → Prop} {w : World} (h : oplog_Load_T a0 a1 a3 a2 R w) :
 Calls Tryz.prog 37 #[(.int .i64 a0), (.slice a1 a3 a2)] w fun e w' => ∃ v, e = .returned v ∧ R v w' :=
 calls_none Tryz.wide_mixed (f := 37) (args := [(.int .i64 a0), (.slice a1 a3 a2)]) Tryz.func37 rfl rfl (by kernel_rfl) rfl (Eq.mpr (oplog_Load_eq a0 a1 a3 a2 R w) h)
def oplog_New_an : List LA := []
def oplog_New_T (R : Value → World → Prop) (w : World) : Prop :=
 ∀ b1, w.heap.size ≤ b1 →
 ∀ w2, Adv [] [b1] w w2 → w2.heap[b1]? = some (.cells #[(.int .i64 0), (.slice none 0 0)] 144) →
 R (.pointer (some ⟨b1, 0, none⟩)) w2
theorem oplog_New_eq (R : Value → World → Prop) (w : World) :
 dnF Tryz.prog oplog_New_an (code Tryz.f41) 400 [] (post3 Tryz.prog Tryz.f41 [] R) ⟨args0 0 [], fun _ => undef⟩ ⟨[], w, [], [], true⟩ = oplog_New_T R w := by kernel_rfl
theorem oplog_New_go {R : Value → World → Prop} {w : World} (h : oplog_New_T R w) :
 Calls Tryz.prog 41 #[] w fun e w' => ∃ v, e = .returned v ∧ R v w' :=
 calls_none Tryz.wide_mixed (f := 41) (args := []) Tryz.func41 rfl rfl (by kernel_rfl) rfl (Eq.mpr (oplog_New_eq R w) h)
def oplog_Log_last_an : List LA := []
def oplog_Log_last_T (b0 : Nat) (o0 : Int) (o1_a : Option Addr) (o1_n : Nat) (o1_c : Nat) (R : Value → World → Prop) (w : World) : Prop :=
 ∀ w1, Adv [] [] w w1 → w1.heap[b0]? = some (.cells #[(.int .i64 o0), (.slice o1_a o1_n o1_c)] 144) →
 R (.int .i64 (IntKind.wrap .i64 (o0 + (o1_n : Int)))) w1
theorem oplog_Log_last_eq (b0 : Nat) (o0 : Int) (o1_a : Option Addr) (o1_n : Nat) (o1_c : Nat) (R : Value → World → Prop) (w : World) :
 dnF Tryz.prog oplog_Log_last_an (code Tryz.f98) 400 [] (post3 Tryz.prog Tryz.f98 [0] R) ⟨(0, .pointer (some ⟨b0, 0, none⟩), some (0, 0)) :: args0 1 [], fun _ => undef⟩ ⟨[⟨b0, 144, [(.int .i64 o0), (.slice o1_a o1_n o1_c)], false⟩], w, [], [], true⟩ = oplog_Log_last_T b0 o0 o1_a o1_n o1_c R w := by kernel_rfl
theorem oplog_Log_last_go {b0 : Nat} {o0 : Int} {o1_a : Option Addr} {o1_n : Nat} {o1_c : Nat} {R : Value → World → Prop} {w : World} (hb : w.heap[b0]? = some (.cells #[(.int .i64 o0), (.slice o1_a o1_n o1_c)] 144)) (h : oplog_Log_last_T b0 o0 o1_a o1_n o1_c R w) :
 Calls Tryz.prog 98 #[(.pointer (some ⟨b0, 0, none⟩))] w fun e w' => ∃ v, e = .returned v ∧ R v w' :=
 calls_one Tryz.wide_mixed (f := 98) (args := []) Tryz.func98 rfl rfl (by kernel_rfl) rfl hb (Eq.mpr (oplog_Log_last_eq b0 o0 o1_a o1_n o1_c R w) h)
def oplog_Log_Put_an : List LA := []
def oplog_Log_Put_T (b0 : Nat) (o0 : Int) (o1_a : Option Addr) (o1_n : Nat) (o1_c : Nat) (b2 : Int) (b4 : Int) (b5 : Int) (b6 : ByteArray) (b7 : Int) (b8 : Int) (b9 : Int) (c0 : Int) (c1 : Int) (c2 : Int) (a0 : Option Addr) (a2 : Nat) (a1 : Nat) (a6 : ByteArray) (a7 : ByteArray) (a8 : Int) (a9 : Bool) (a3 : Option Addr) (a5 : Nat) (a4 : Nat) (R : Value → World → Prop) (w : World) : Prop :=
 ∀ b1, w.heap.size ≤ b1 →
 ∀ w2, Adv [] [b1] w w2 →
 al w2 (.cells #[(.int .i64 b2), (.int .i64 b4), (.int .i64 b5), (.string b6), (.int .i64 b7), (.int .i64 b8), (.int .i64 b9), (.int .i64 c0), (.int .i64 c1), (.int .i64 c2), (.slice a0 a2 a1), (.string a6), (.string a7), (.int .i64 a8), (.bool a9), (.slice a3 a5 a4)] 57) fun b3 w4 =>
 Calls Tryz.prog 75 #[(.slice (some ⟨b3, 0, none⟩) 1 1)] w4 fun e w5 => ∃ x6 : Int, e = .returned (.int .i64 x6) ∧ Keep [b0, b1] w4 w5 ∧
 brB (x6 != 0) (
 ∀ w7, Adv [] [] w5 w7 → w7.heap[b0]? = some (.cells #[(.int .i64 o0), (.slice o1_a o1_n o1_c)] 144) →
 R (.tuple #[(.int .i64 0), (.int .i64 x6)]) w7)
 (
 ∀ w8, Adv [] [] w5 w8 → w8.heap[b0]? = some (.cells #[(.int .i64 o0), (.slice o1_a o1_n o1_c)] 144) →
 Calls Tryz.prog 98 #[(.pointer (some ⟨b0, 0, none⟩))] w8 fun e w9 => ∃ x10 : Int, e = .returned (.int .i64 x10) ∧ KeepE [b0] [(b1, 57)] [b1] w8 w9 ∧ ∃ x11 : Int, ∃ (a12 : Option Addr) (n13 c14 : Nat), w9.heap[b0]? = some (.cells #[(.int .i64 x11), (.slice a12 n13 c14)] 144) ∧
 brB (decide (x10 ≥ 1099511627776)) (
 R (.tuple #[(.int .i64 0), (.int .i64 2)]) w9)
 (
 ∀ w15, Adv [] [] w9 w15 → w15.heap[b0]? = some (.cells #[(.int .i64 x11), (.slice a12 n13 c14)] 144) →
 Calls Tryz.prog 99 #[(.agg #[(.int .i64 b2), (.int .i64 b4), (.int .i64 b5), (.string b6), (.int .i64 b7), (.int .i64 b8), (.int .i64 b9), (.int .i64 c0), (.int .i64 c1), (.int .i64 c2), (.slice a0 a2 a1), (.string a6), (.string a7), (.int .i64 a8), (.bool a9), (.slice a3 a5 a4)])] w15 fun e w16 => ∃ x17 : Int, ∃ x18 : Int, ∃ x19 : Int, ∃ s20 : ByteArray, ∃ x21 : Int, ∃ x22 : Int, ∃ x23 : Int, ∃ x24 : Int, ∃ x25 : Int, ∃ x26 : Int, ∃ (a27 : Option Addr) (n28 c29 : Nat), ∃ s30 : ByteArray, ∃ s31 : ByteArray, ∃ x32 : Int, ∃ t33 : Bool, ∃ (a34 : Option Addr) (n35 c36 : Nat), e = .returned (.agg #[(.int .i64 x17), (.int .i64 x18), (.int .i64 x19), (.string s20), (.int .i64 x21), (.int .i64 x22), (.int .i64 x23), (.int .i64 x24), (.int .i64 x25), (.int .i64 x26), (.slice a27 n28 c29), (.string s30), (.string s31), (.int .i64 x32), (.bool t33), (.slice a34 n35 c36)]) ∧ KeepE [b0] [(b1, 57)] [b1] w15 w16 ∧ ∃ x37 : Int, ∃ (a38 : Option Addr) (n39 c40 : Nat), w16.heap[b0]? = some (.cells #[(.int .i64 x37), (.slice a38 n39 c40)] 144) ∧ (((.slice a38 n39 c40) : Value) = (.slice a12 n13 c14)) ∧
 al w16 (.cells #[(.int .i64 x17), (.int .i64 x18), (.int .i64 x19), (.string s20), (.int .i64 x21), (.int .i64 x22), (.int .i64 x23), (.int .i64 x24), (.int .i64 x25), (.int .i64 x26), (.slice a27 n28 c29), (.string s30), (.string s31), (.int .i64 x32), (.bool t33), (.slice a34 n35 c36)] 57) fun b41 w42 =>
 effSl Tryz.prog (Builtin.append_ #[39, 39] 39 #[(.slice a12 n13 c14), (.slice (some ⟨b41, 0, none⟩) 1 1)]) w42 fun a44 n45 c46 w43 => Keep [b0, b1] w42 w43 ∧
 ∀ w47, Adv [b0] [] w43 w47 → w47.heap[b0]? = some (.cells #[(.int .i64 x37), (.slice a44 n45 c46)] 144) →
 Calls Tryz.prog 98 #[(.pointer (some ⟨b0, 0, none⟩))] w47 fun e w48 => ∃ x49 : Int, e = .returned (.int .i64 x49) ∧ KeepE [b0] [(b1, 57)] [b1] w47 w48 ∧ ∃ x50 : Int, ∃ (a51 : Option Addr) (n52 c53 : Nat), w48.heap[b0]? = some (.cells #[(.int .i64 x50), (.slice a51 n52 c53)] 144) ∧
 R (.tuple #[(.int .i64 x49), (.int .i64 0)]) w48))
theorem oplog_Log_Put_eq (b0 : Nat) (o0 : Int) (o1_a : Option Addr) (o1_n : Nat) (o1_c : Nat) (b1 : Int) (b2 : Int) (b3 : Int) (b4 : ByteArray) (b5 : Int) (b6 : Int) (b7 : Int) (b8 : Int) (b9 : Int) (c0 : Int) (a0 : Option Addr) (a2 : Nat) (a1 : Nat) (a6 : ByteArray) (a7 : ByteArray) (a8 : Int) (a9 : Bool) (a3 : Option Addr) (a5 : Nat) (a4 : Nat) (R : Value → World → Prop) (w : World) :
 dnF Tryz.prog oplog_Log_Put_an (code Tryz.f42) 400 [] (post3 Tryz.prog Tryz.f42 [0] R) ⟨(0, .pointer (some ⟨b0, 0, none⟩), some (0, 0)) :: args0 1 [(.agg #[(.int .i64 b1), (.int .i64 b2), (.int .i64 b3), (.string b4), (.int .i64 b5), (.int .i64 b6), (.int .i64 b7), (.int .i64 b8), (.int .i64 b9), (.int .i64 c0), (.slice a0 a2 a1), (.string a6), (.string a7), (.int .i64 a8), (.bool a9), (.slice a3 a5 a4)])], fun _ => undef⟩ ⟨[⟨b0, 144, [(.int .i64 o0), (.slice o1_a o1_n o1_c)], false⟩], w, [], [], true⟩ = oplog_Log_Put_T b0 o0 o1_a o1_n o1_c b1 b2 b3 b4 b5 b6 b7 b8 b9 c0 a0 a2 a1 a6 a7 a8 a9 a3 a5 a4 R w := by kernel_rfl
theorem oplog_Log_Put_go {b0 : Nat} {o0 : Int} {o1_a : Option Addr} {o1_n : Nat} {o1_c : Nat} {b1 : Int} {b2 : Int} {b3 : Int} {b4 : ByteArray} {b5 : Int} {b6 : Int} {b7 : Int} {b8 : Int} {b9 : Int} {c0 : Int} {a0 : Option Addr} {a2 : Nat} {a1 : Nat} {a6 : ByteArray} {a7 : ByteArray} {a8 : Int} {a9 : Bool} {a3 : Option Addr} {a5 : Nat} {a4 : Nat} {R : Value → World → Prop} {w : World} (hb : w.heap[b0]? = some (.cells #[(.int .i64 o0), (.slice o1_a o1_n o1_c)] 144)) (h : oplog_Log_Put_T b0 o0 o1_a o1_n o1_c b1 b2 b3 b4 b5 b6 b7 b8 b9 c0 a0 a2 a1 a6 a7 a8 a9 a3 a5 a4 R w) :
 Calls Tryz.prog 42 #[(.pointer (some ⟨b0, 0, none⟩)), (.agg #[(.int .i64 b1), (.int .i64 b2), (.int .i64 b3), (.string b4), (.int .i64 b5), (.int .i64 b6), (.int .i64 b7), (.int .i64 b8), (.int .i64 b9), (.int .i64 c0), (.slice a0 a2 a1), (.string a6), (.string a7), (.int .i64 a8), (.bool a9), (.slice a3 a5 a4)])] w fun e w' => ∃ v, e = .returned v ∧ R v w' :=
 calls_one Tryz.wide_mixed (f := 42) (args := [(.agg #[(.int .i64 b1), (.int .i64 b2), (.int .i64 b3), (.string b4), (.int .i64 b5), (.int .i64 b6), (.int .i64 b7), (.int .i64 b8), (.int .i64 b9), (.int .i64 c0), (.slice a0 a2 a1), (.string a6), (.string a7), (.int .i64 a8), (.bool a9), (.slice a3 a5 a4)])]) Tryz.func42 rfl rfl (by kernel_rfl) rfl hb (Eq.mpr (oplog_Log_Put_eq b0 o0 o1_a o1_n o1_c b1 b2 b3 b4 b5 b6 b7 b8 b9 c0 a0 a2 a1 a6 a7 a8 a9 a3 a5 a4 R w) h)
def oplog_Log_at_an : List LA := []
def oplog_Log_at_T (b0 : Nat) (o0 : Int) (o1_a : Option Addr) (o1_n : Nat) (o1_c : Nat) (a0 : Int) (R : Value → World → Prop) (w : World) : Prop :=
 brB (decide (a0 < o0)) (
 ∀ w1, Adv [] [] w w1 → w1.heap[b0]? = some (.cells #[(.int .i64 o0), (.slice o1_a o1_n o1_c)] 144) →
 R (.int .i64 161) w1)
 (
 ∀ w2, Adv [] [] w w2 → w2.heap[b0]? = some (.cells #[(.int .i64 o0), (.slice o1_a o1_n o1_c)] 144) →
 Calls Tryz.prog 98 #[(.pointer (some ⟨b0, 0, none⟩))] w2 fun e w3 => ∃ x4 : Int, e = .returned (.int .i64 x4) ∧ ∃ x5 : Int, ∃ (a6 : Option Addr) (n7 c8 : Nat), w3.heap[b0]? = some (.cells #[(.int .i64 x5), (.slice a6 n7 c8)] 144) ∧
 brB (decide (a0 > x4)) (
 R (.int .i64 160) w3)
 (
 R (.int .i64 0) w3))
theorem oplog_Log_at_eq (b0 : Nat) (o0 : Int) (o1_a : Option Addr) (o1_n : Nat) (o1_c : Nat) (a0 : Int) (R : Value → World → Prop) (w : World) :
 dnF Tryz.prog oplog_Log_at_an (code Tryz.f97) 400 [] (post3 Tryz.prog Tryz.f97 [0] R) ⟨(0, .pointer (some ⟨b0, 0, none⟩), some (0, 0)) :: args0 1 [(.int .i64 a0)], fun _ => undef⟩ ⟨[⟨b0, 144, [(.int .i64 o0), (.slice o1_a o1_n o1_c)], false⟩], w, [], [], true⟩ = oplog_Log_at_T b0 o0 o1_a o1_n o1_c a0 R w := by kernel_rfl
theorem oplog_Log_at_go {b0 : Nat} {o0 : Int} {o1_a : Option Addr} {o1_n : Nat} {o1_c : Nat} {a0 : Int} {R : Value → World → Prop} {w : World} (hb : w.heap[b0]? = some (.cells #[(.int .i64 o0), (.slice o1_a o1_n o1_c)] 144)) (h : oplog_Log_at_T b0 o0 o1_a o1_n o1_c a0 R w) :
 Calls Tryz.prog 97 #[(.pointer (some ⟨b0, 0, none⟩)), (.int .i64 a0)] w fun e w' => ∃ v, e = .returned v ∧ R v w' :=
 calls_one Tryz.wide_mixed (f := 97) (args := [(.int .i64 a0)]) Tryz.func97 rfl rfl (by kernel_rfl) rfl hb (Eq.mpr (oplog_Log_at_eq b0 o0 o1_a o1_n o1_c a0 R w) h)
def oplog_Log_Get_an : List LA := []
def oplog_Log_Get_T (b0 : Nat) (o0 : Int) (o1_a : Option Addr) (o1_n : Nat) (o1_c : Nat) (a0 : Int) (R : Value → World → Prop) (w : World) : Prop :=
 ∀ b1, w.heap.size ≤ b1 →
 ∀ w2, Adv [] [b1] w w2 → w2.heap[b0]? = some (.cells #[(.int .i64 o0), (.slice o1_a o1_n o1_c)] 144) →
 Calls Tryz.prog 97 #[(.pointer (some ⟨b0, 0, none⟩)), (.int .i64 a0)] w2 fun e w3 => ∃ x4 : Int, e = .returned (.int .i64 x4) ∧ KeepE [b0] [(b1, 57)] [b1] w2 w3 ∧ ∃ x5 : Int, ∃ (a6 : Option Addr) (n7 c8 : Nat), w3.heap[b0]? = some (.cells #[(.int .i64 x5), (.slice a6 n7 c8)] 144) ∧
 brB (a0 == x5) (
 ∀ w9, Adv [b1] [] w3 w9 → w9.heap[b0]? = some (.cells #[(.int .i64 x5), (.slice a6 n7 c8)] 144) →
 R (.tuple #[(.agg #[(.int .i64 0), (.int .i64 0), (.int .i64 0), (.string ByteArray.empty), (.int .i64 0), (.int .i64 0), (.int .i64 0), (.int .i64 0), (.int .i64 0), (.int .i64 0), (.slice none 0 0), (.string ByteArray.empty), (.string ByteArray.empty), (.int .i64 0), (.bool false), (.slice none 0 0)]), (.int .i64 161)]) w9)
 (
 brB (x4 != 0) (
 ∀ w10, Adv [b1] [] w3 w10 → w10.heap[b0]? = some (.cells #[(.int .i64 x5), (.slice a6 n7 c8)] 144) →
 R (.tuple #[(.agg #[(.int .i64 0), (.int .i64 0), (.int .i64 0), (.string ByteArray.empty), (.int .i64 0), (.int .i64 0), (.int .i64 0), (.int .i64 0), (.int .i64 0), (.int .i64 0), (.slice none 0 0), (.string ByteArray.empty), (.string ByteArray.empty), (.int .i64 0), (.bool false), (.slice none 0 0)]), (.int .i64 x4)]) w10)
 (
 ixA a6 n7 (IntKind.wrap .i64 ((IntKind.wrap .i64 (a0 - x5)) - 1)) 16 fun q11 =>
 ∀ w12, Adv [] [] w3 w12 → w12.heap[b0]? = some (.cells #[(.int .i64 x5), (.slice a6 n7 c8)] 144) →
 ldInt .i64 w12 q11 fun x13 => ldInt .i64 w12 (Addr.add q11 1) fun x14 => ldInt .i64 w12 (Addr.add q11 2) fun x15 => ldStr w12 (Addr.add q11 3) fun s16 => ldInt .i64 w12 (Addr.add q11 4) fun x17 => ldInt .i64 w12 (Addr.add q11 5) fun x18 => ldInt .i64 w12 (Addr.add q11 6) fun x19 => ldInt .i64 w12 (Addr.add q11 7) fun x20 => ldInt .i64 w12 (Addr.add q11 8) fun x21 => ldInt .i64 w12 (Addr.add q11 9) fun x22 => ldSlice w12 (Addr.add q11 10) fun a23 n24 c25 => ldStr w12 (Addr.add q11 11) fun s26 => ldStr w12 (Addr.add q11 12) fun s27 => ldInt .i64 w12 (Addr.add q11 13) fun x28 => ldBool w12 (Addr.add q11 14) fun t29 => ldSlice w12 (Addr.add q11 15) fun a30 n31 c32 =>
 Calls Tryz.prog 99 #[(.agg #[(.int .i64 x13), (.int .i64 x14), (.int .i64 x15), (.string s16), (.int .i64 x17), (.int .i64 x18), (.int .i64 x19), (.int .i64 x20), (.int .i64 x21), (.int .i64 x22), (.slice a23 n24 c25), (.string s26), (.string s27), (.int .i64 x28), (.bool t29), (.slice a30 n31 c32)])] w12 fun e w33 => ∃ x34 : Int, ∃ x35 : Int, ∃ x36 : Int, ∃ s37 : ByteArray, ∃ x38 : Int, ∃ x39 : Int, ∃ x40 : Int, ∃ x41 : Int, ∃ x42 : Int, ∃ x43 : Int, ∃ (a44 : Option Addr) (n45 c46 : Nat), ∃ s47 : ByteArray, ∃ s48 : ByteArray, ∃ x49 : Int, ∃ t50 : Bool, ∃ (a51 : Option Addr) (n52 c53 : Nat), e = .returned (.agg #[(.int .i64 x34), (.int .i64 x35), (.int .i64 x36), (.string s37), (.int .i64 x38), (.int .i64 x39), (.int .i64 x40), (.int .i64 x41), (.int .i64 x42), (.int .i64 x43), (.slice a44 n45 c46), (.string s47), (.string s48), (.int .i64 x49), (.bool t50), (.slice a51 n52 c53)]) ∧ KeepE [b0] [(b1, 57)] [b1] w12 w33 ∧ ∃ x54 : Int, ∃ (a55 : Option Addr) (n56 c57 : Nat), w33.heap[b0]? = some (.cells #[(.int .i64 x54), (.slice a55 n56 c57)] 144) ∧
 ∀ w58, Adv [b1] [] w33 w58 → w58.heap[b0]? = some (.cells #[(.int .i64 x54), (.slice a55 n56 c57)] 144) →
 R (.tuple #[(.agg #[(.int .i64 x34), (.int .i64 x35), (.int .i64 x36), (.string s37), (.int .i64 x38), (.int .i64 x39), (.int .i64 x40), (.int .i64 x41), (.int .i64 x42), (.int .i64 x43), (.slice a44 n45 c46), (.string s47), (.string s48), (.int .i64 x49), (.bool t50), (.slice a51 n52 c53)]), (.int .i64 0)]) w58))
theorem oplog_Log_Get_eq (b0 : Nat) (o0 : Int) (o1_a : Option Addr) (o1_n : Nat) (o1_c : Nat) (a0 : Int) (R : Value → World → Prop) (w : World) :
 dnF Tryz.prog oplog_Log_Get_an (code Tryz.f44) 400 [] (post3 Tryz.prog Tryz.f44 [0] R) ⟨(0, .pointer (some ⟨b0, 0, none⟩), some (0, 0)) :: args0 1 [(.int .i64 a0)], fun _ => undef⟩ ⟨[⟨b0, 144, [(.int .i64 o0), (.slice o1_a o1_n o1_c)], false⟩], w, [], [], true⟩ = oplog_Log_Get_T b0 o0 o1_a o1_n o1_c a0 R w := by kernel_rfl
theorem oplog_Log_Get_go {b0 : Nat} {o0 : Int} {o1_a : Option Addr} {o1_n : Nat} {o1_c : Nat} {a0 : Int} {R : Value → World → Prop} {w : World} (hb : w.heap[b0]? = some (.cells #[(.int .i64 o0), (.slice o1_a o1_n o1_c)] 144)) (h : oplog_Log_Get_T b0 o0 o1_a o1_n o1_c a0 R w) :
 Calls Tryz.prog 44 #[(.pointer (some ⟨b0, 0, none⟩)), (.int .i64 a0)] w fun e w' => ∃ v, e = .returned v ∧ R v w' :=
 calls_one Tryz.wide_mixed (f := 44) (args := [(.int .i64 a0)]) Tryz.func44 rfl rfl (by kernel_rfl) rfl hb (Eq.mpr (oplog_Log_Get_eq b0 o0 o1_a o1_n o1_c a0 R w) h)
def oplog_Log_Since_an : List LA := []
def oplog_Log_Since_T (b0 : Nat) (o0 : Int) (o1_a : Option Addr) (o1_n : Nat) (o1_c : Nat) (a0 : Int) (R : Value → World → Prop) (w : World) : Prop :=
 ∀ w1, Adv [] [] w w1 → w1.heap[b0]? = some (.cells #[(.int .i64 o0), (.slice o1_a o1_n o1_c)] 144) →
 Calls Tryz.prog 97 #[(.pointer (some ⟨b0, 0, none⟩)), (.int .i64 a0)] w1 fun e w2 => ∃ x3 : Int, e = .returned (.int .i64 x3) ∧ ∃ x4 : Int, ∃ (a5 : Option Addr) (n6 c7 : Nat), w2.heap[b0]? = some (.cells #[(.int .i64 x4), (.slice a5 n6 c7)] 144) ∧
 brB (x3 != 0) (
 R (.tuple #[(.slice none 0 0), (.int .i64 x3)]) w2)
 (
 slV a5 c7 (IntKind.wrap .i64 (a0 - x4)) n6 c7 16 fun a8 n9 c10 =>
 ∀ w11, Adv [] [] w2 w11 → w11.heap[b0]? = some (.cells #[(.int .i64 x4), (.slice a5 n6 c7)] 144) →
 Calls Tryz.prog 96 #[(.slice a8 n9 c10)] w11 fun e w12 => ∃ (a13 : Option Addr) (n14 c15 : Nat), e = .returned (.slice a13 n14 c15) ∧ ∃ x16 : Int, ∃ (a17 : Option Addr) (n18 c19 : Nat), w12.heap[b0]? = some (.cells #[(.int .i64 x16), (.slice a17 n18 c19)] 144) ∧
 R (.tuple #[(.slice a13 n14 c15), (.int .i64 0)]) w12)
theorem oplog_Log_Since_eq (b0 : Nat) (o0 : Int) (o1_a : Option Addr) (o1_n : Nat) (o1_c : Nat) (a0 : Int) (R : Value → World → Prop) (w : World) :
 dnF Tryz.prog oplog_Log_Since_an (code Tryz.f38) 400 [] (post3 Tryz.prog Tryz.f38 [0] R) ⟨(0, .pointer (some ⟨b0, 0, none⟩), some (0, 0)) :: args0 1 [(.int .i64 a0)], fun _ => undef⟩ ⟨[⟨b0, 144, [(.int .i64 o0), (.slice o1_a o1_n o1_c)], false⟩], w, [], [], true⟩ = oplog_Log_Since_T b0 o0 o1_a o1_n o1_c a0 R w := by kernel_rfl
theorem oplog_Log_Since_go {b0 : Nat} {o0 : Int} {o1_a : Option Addr} {o1_n : Nat} {o1_c : Nat} {a0 : Int} {R : Value → World → Prop} {w : World} (hb : w.heap[b0]? = some (.cells #[(.int .i64 o0), (.slice o1_a o1_n o1_c)] 144)) (h : oplog_Log_Since_T b0 o0 o1_a o1_n o1_c a0 R w) :
 Calls Tryz.prog 38 #[(.pointer (some ⟨b0, 0, none⟩)), (.int .i64 a0)] w fun e w' => ∃ v, e = .returned v ∧ R v w' :=
 calls_one Tryz.wide_mixed (f := 38) (args := [(.int .i64 a0)]) Tryz.func38 rfl rfl (by kernel_rfl) rfl hb (Eq.mpr (oplog_Log_Since_eq b0 o0 o1_a o1_n o1_c a0 R w) h)
def oplog_Log_Cut_an : List LA := []
def oplog_Log_Cut_T (b0 : Nat) (o0 : Int) (o1_a : Option Addr) (o1_n : Nat) (o1_c : Nat) (a0 : Int) (R : Value → World → Prop) (w : World) : Prop :=
 ∀ w1, Adv [] [] w w1 → w1.heap[b0]? = some (.cells #[(.int .i64 o0), (.slice o1_a o1_n o1_c)] 144) →
 Calls Tryz.prog 97 #[(.pointer (some ⟨b0, 0, none⟩)), (.int .i64 a0)] w1 fun e w2 => ∃ x3 : Int, e = .returned (.int .i64 x3) ∧ ∃ x4 : Int, ∃ (a5 : Option Addr) (n6 c7 : Nat), w2.heap[b0]? = some (.cells #[(.int .i64 x4), (.slice a5 n6 c7)] 144) ∧
 brB (x3 != 0) (
 R (.int .i64 x3) w2)
 (
 slV a5 c7 0 (IntKind.wrap .i64 (a0 - x4)) (IntKind.wrap .i64 (a0 - x4)) 16 fun a8 n9 c10 =>
 ∀ w11, Adv [b0] [] w2 w11 → w11.heap[b0]? = some (.cells #[(.int .i64 x4), (.slice a8 n9 c10)] 144) →
 R (.int .i64 0) w11)
theorem oplog_Log_Cut_eq (b0 : Nat) (o0 : Int) (o1_a : Option Addr) (o1_n : Nat) (o1_c : Nat) (a0 : Int) (R : Value → World → Prop) (w : World) :
 dnF Tryz.prog oplog_Log_Cut_an (code Tryz.f45) 400 [] (post3 Tryz.prog Tryz.f45 [0] R) ⟨(0, .pointer (some ⟨b0, 0, none⟩), some (0, 0)) :: args0 1 [(.int .i64 a0)], fun _ => undef⟩ ⟨[⟨b0, 144, [(.int .i64 o0), (.slice o1_a o1_n o1_c)], false⟩], w, [], [], true⟩ = oplog_Log_Cut_T b0 o0 o1_a o1_n o1_c a0 R w := by kernel_rfl
theorem oplog_Log_Cut_go {b0 : Nat} {o0 : Int} {o1_a : Option Addr} {o1_n : Nat} {o1_c : Nat} {a0 : Int} {R : Value → World → Prop} {w : World} (hb : w.heap[b0]? = some (.cells #[(.int .i64 o0), (.slice o1_a o1_n o1_c)] 144)) (h : oplog_Log_Cut_T b0 o0 o1_a o1_n o1_c a0 R w) :
 Calls Tryz.prog 45 #[(.pointer (some ⟨b0, 0, none⟩)), (.int .i64 a0)] w fun e w' => ∃ v, e = .returned v ∧ R v w' :=
 calls_one Tryz.wide_mixed (f := 45) (args := [(.int .i64 a0)]) Tryz.func45 rfl rfl (by kernel_rfl) rfl hb (Eq.mpr (oplog_Log_Cut_eq b0 o0 o1_a o1_n o1_c a0 R w) h)
def oplog_Log_Drop_an : List LA := []
def oplog_Log_Drop_T (b0 : Nat) (o0 : Int) (o1_a : Option Addr) (o1_n : Nat) (o1_c : Nat) (a0 : Int) (R : Value → World → Prop) (w : World) : Prop :=
 ∀ w1, Adv [] [] w w1 → w1.heap[b0]? = some (.cells #[(.int .i64 o0), (.slice o1_a o1_n o1_c)] 144) →
 Calls Tryz.prog 97 #[(.pointer (some ⟨b0, 0, none⟩)), (.int .i64 a0)] w1 fun e w2 => ∃ x3 : Int, e = .returned (.int .i64 x3) ∧ ∃ x4 : Int, ∃ (a5 : Option Addr) (n6 c7 : Nat), w2.heap[b0]? = some (.cells #[(.int .i64 x4), (.slice a5 n6 c7)] 144) ∧
 brB (x3 != 0) (
 R (.int .i64 x3) w2)
 (
 slV a5 c7 (IntKind.wrap .i64 (a0 - x4)) n6 c7 16 fun a8 n9 c10 =>
 ∀ w11, Adv [] [] w2 w11 → w11.heap[b0]? = some (.cells #[(.int .i64 x4), (.slice a5 n6 c7)] 144) →
 Calls Tryz.prog 100 #[(.slice a8 n9 c10)] w11 fun e w12 => ∃ (a13 : Option Addr) (n14 c15 : Nat), e = .returned (.slice a13 n14 c15) ∧ ∃ x16 : Int, ∃ (a17 : Option Addr) (n18 c19 : Nat), w12.heap[b0]? = some (.cells #[(.int .i64 x16), (.slice a17 n18 c19)] 144) ∧
 ∀ w20, Adv [b0] [] w12 w20 → w20.heap[b0]? = some (.cells #[(.int .i64 a0), (.slice a13 n14 c15)] 144) →
 R (.int .i64 0) w20)
theorem oplog_Log_Drop_eq (b0 : Nat) (o0 : Int) (o1_a : Option Addr) (o1_n : Nat) (o1_c : Nat) (a0 : Int) (R : Value → World → Prop) (w : World) :
 dnF Tryz.prog oplog_Log_Drop_an (code Tryz.f43) 400 [] (post3 Tryz.prog Tryz.f43 [0] R) ⟨(0, .pointer (some ⟨b0, 0, none⟩), some (0, 0)) :: args0 1 [(.int .i64 a0)], fun _ => undef⟩ ⟨[⟨b0, 144, [(.int .i64 o0), (.slice o1_a o1_n o1_c)], false⟩], w, [], [], true⟩ = oplog_Log_Drop_T b0 o0 o1_a o1_n o1_c a0 R w := by kernel_rfl
theorem oplog_Log_Drop_go {b0 : Nat} {o0 : Int} {o1_a : Option Addr} {o1_n : Nat} {o1_c : Nat} {a0 : Int} {R : Value → World → Prop} {w : World} (hb : w.heap[b0]? = some (.cells #[(.int .i64 o0), (.slice o1_a o1_n o1_c)] 144)) (h : oplog_Log_Drop_T b0 o0 o1_a o1_n o1_c a0 R w) :
 Calls Tryz.prog 43 #[(.pointer (some ⟨b0, 0, none⟩)), (.int .i64 a0)] w fun e w' => ∃ v, e = .returned v ∧ R v w' :=
 calls_one Tryz.wide_mixed (f := 43) (args := [(.int .i64 a0)]) Tryz.func43 rfl rfl (by kernel_rfl) rfl hb (Eq.mpr (oplog_Log_Drop_eq b0 o0 o1_a o1_n o1_c a0 R w) h)
def oplog_Log_Join_an : List LA := []
def oplog_Log_Join_T (b0 : Nat) (o0 : Int) (o1_a : Option Addr) (o1_n : Nat) (o1_c : Nat) (a0 : Int) (a1 : Option Addr) (a3 : Nat) (a2 : Nat) (R : Value → World → Prop) (w : World) : Prop :=
 ∀ w1, Adv [] [] w w1 → w1.heap[b0]? = some (.cells #[(.int .i64 o0), (.slice o1_a o1_n o1_c)] 144) →
 Calls Tryz.prog 97 #[(.pointer (some ⟨b0, 0, none⟩)), (.int .i64 a0)] w1 fun e w2 => ∃ x3 : Int, e = .returned (.int .i64 x3) ∧ ∃ x4 : Int, ∃ (a5 : Option Addr) (n6 c7 : Nat), w2.heap[b0]? = some (.cells #[(.int .i64 x4), (.slice a5 n6 c7)] 144) ∧
 brB (x3 != 0) (
 R (.int .i64 x3) w2)
 (
 Calls Tryz.prog 37 #[(.int .i64 a0), (.slice a1 a3 a2)] w2 fun e w8 => ∃ p9 : Option Addr, ∃ x10 : Int, e = .returned (.tuple #[(.pointer p9), (.int .i64 x10)]) ∧ ∃ x11 : Int, ∃ (a12 : Option Addr) (n13 c14 : Nat), w8.heap[b0]? = some (.cells #[(.int .i64 x11), (.slice a12 n13 c14)] 144) ∧
 brB (x10 != 0) (
 R (.int .i64 x10) w8)
 (
 Calls Tryz.prog 45 #[(.pointer (some ⟨b0, 0, none⟩)), (.int .i64 a0)] w8 fun e w15 => ∃ x16 : Int, e = .returned (.int .i64 x16) ∧ ∃ x17 : Int, ∃ (a18 : Option Addr) (n19 c20 : Nat), w15.heap[b0]? = some (.cells #[(.int .i64 x17), (.slice a18 n19 c20)] 144) ∧
 ckPtr p9 fun q21 =>
 ∀ w22, Adv [] [] w15 w22 → w22.heap[b0]? = some (.cells #[(.int .i64 x17), (.slice a18 n19 c20)] 144) →
 ldSlice w22 (Addr.add q21 1) fun a23 n24 c25 =>
 effSl Tryz.prog (Builtin.append_ #[39, 39] 39 #[(.slice a18 n19 c20), (.slice a23 n24 c25)]) w22 fun a27 n28 c29 w26 => Keep [b0] w22 w26 ∧
 ∀ w30, Adv [b0] [] w26 w30 → w30.heap[b0]? = some (.cells #[(.int .i64 x17), (.slice a27 n28 c29)] 144) →
 R (.int .i64 0) w30))
theorem oplog_Log_Join_eq (b0 : Nat) (o0 : Int) (o1_a : Option Addr) (o1_n : Nat) (o1_c : Nat) (a3 : Int) (a0 : Option Addr) (a2 : Nat) (a1 : Nat) (R : Value → World → Prop) (w : World) :
 dnF Tryz.prog oplog_Log_Join_an (code Tryz.f39) 400 [] (post3 Tryz.prog Tryz.f39 [0] R) ⟨(0, .pointer (some ⟨b0, 0, none⟩), some (0, 0)) :: args0 1 [(.int .i64 a3), (.slice a0 a2 a1)], fun _ => undef⟩ ⟨[⟨b0, 144, [(.int .i64 o0), (.slice o1_a o1_n o1_c)], false⟩], w, [], [], true⟩ = oplog_Log_Join_T b0 o0 o1_a o1_n o1_c a3 a0 a2 a1 R w := by kernel_rfl
theorem oplog_Log_Join_go {b0 : Nat} {o0 : Int} {o1_a : Option Addr} {o1_n : Nat} {o1_c : Nat} {a3 : Int} {a0 : Option Addr} {a2 : Nat} {a1 : Nat} {R : Value → World → Prop} {w : World} (hb : w.heap[b0]? = some (.cells #[(.int .i64 o0), (.slice o1_a o1_n o1_c)] 144)) (h : oplog_Log_Join_T b0 o0 o1_a o1_n o1_c a3 a0 a2 a1 R w) :
 Calls Tryz.prog 39 #[(.pointer (some ⟨b0, 0, none⟩)), (.int .i64 a3), (.slice a0 a2 a1)] w fun e w' => ∃ v, e = .returned v ∧ R v w' :=
 calls_one Tryz.wide_mixed (f := 39) (args := [(.int .i64 a3), (.slice a0 a2 a1)]) Tryz.func39 rfl rfl (by kernel_rfl) rfl hb (Eq.mpr (oplog_Log_Join_eq b0 o0 o1_a o1_n o1_c a3 a0 a2 a1 R w) h)
def oplog_Log_Span_an : List LA := []
def oplog_Log_Span_T (b0 : Nat) (o0 : Int) (o1_a : Option Addr) (o1_n : Nat) (o1_c : Nat) (R : Value → World → Prop) (w : World) : Prop :=
 ∀ w1, Adv [] [] w w1 → w1.heap[b0]? = some (.cells #[(.int .i64 o0), (.slice o1_a o1_n o1_c)] 144) →
 Calls Tryz.prog 98 #[(.pointer (some ⟨b0, 0, none⟩))] w1 fun e w2 => ∃ x3 : Int, e = .returned (.int .i64 x3) ∧ ∃ x4 : Int, ∃ (a5 : Option Addr) (n6 c7 : Nat), w2.heap[b0]? = some (.cells #[(.int .i64 x4), (.slice a5 n6 c7)] 144) ∧ (((.int .i64 x4) : Value) = (.int .i64 o0)) ∧
 R (.tuple #[(.int .i64 o0), (.int .i64 x3)]) w2
theorem oplog_Log_Span_eq (b0 : Nat) (o0 : Int) (o1_a : Option Addr) (o1_n : Nat) (o1_c : Nat) (R : Value → World → Prop) (w : World) :
 dnF Tryz.prog oplog_Log_Span_an (code Tryz.f40) 400 [] (post3 Tryz.prog Tryz.f40 [0] R) ⟨(0, .pointer (some ⟨b0, 0, none⟩), some (0, 0)) :: args0 1 [], fun _ => undef⟩ ⟨[⟨b0, 144, [(.int .i64 o0), (.slice o1_a o1_n o1_c)], false⟩], w, [], [], true⟩ = oplog_Log_Span_T b0 o0 o1_a o1_n o1_c R w := by kernel_rfl
theorem oplog_Log_Span_go {b0 : Nat} {o0 : Int} {o1_a : Option Addr} {o1_n : Nat} {o1_c : Nat} {R : Value → World → Prop} {w : World} (hb : w.heap[b0]? = some (.cells #[(.int .i64 o0), (.slice o1_a o1_n o1_c)] 144)) (h : oplog_Log_Span_T b0 o0 o1_a o1_n o1_c R w) :
 Calls Tryz.prog 40 #[(.pointer (some ⟨b0, 0, none⟩))] w fun e w' => ∃ v, e = .returned v ∧ R v w' :=
 calls_one Tryz.wide_mixed (f := 40) (args := []) Tryz.func40 rfl rfl (by kernel_rfl) rfl hb (Eq.mpr (oplog_Log_Span_eq b0 o0 o1_a o1_n o1_c R w) h)
def oplog_call_an : List LA := []
def oplog_call_T (a0 : ByteArray) (R : Value → World → Prop) (w : World) : Prop :=
 ∀ b1, w.heap.size ≤ b1 →
 ∀ w2, Adv [] [b1] w w2 →
 Calls Tryz.prog 87 #[(.string a0), (.int .i64 0)] w2 fun e w3 => ∃ x4 : Int, ∃ x5 : Int, ∃ x6 : Int, e = .returned (.tuple #[(.int .u64 x4), (.int .i64 x5), (.int .i64 x6)]) ∧ Keep [b1] w2 w3 ∧
 brB (x6 != 0) (
 ∀ w7, Adv [b1] [] w3 w7 →
 R (.agg #[(.int .i64 0), (.int .i64 0), (.int .i64 0), (.string ByteArray.empty), (.int .i64 0), (.int .i64 0), (.int .i64 0), (.int .i64 0), (.int .i64 0), (.int .i64 0), (.slice none 0 0), (.string ByteArray.empty), (.string ByteArray.empty), (.int .i64 0), (.bool false), (.slice none 0 0)]) w7)
 (
 Calls Tryz.prog 87 #[(.string a0), (.int .i64 x5)] w3 fun e w8 => ∃ x9 : Int, ∃ x10 : Int, ∃ x11 : Int, e = .returned (.tuple #[(.int .u64 x9), (.int .i64 x10), (.int .i64 x11)]) ∧ Keep [b1] w3 w8 ∧
 brB (x11 != 0) (
 ∀ w12, Adv [b1] [] w8 w12 →
 R (.agg #[(.int .i64 0), (.int .i64 0), (.int .i64 0), (.string ByteArray.empty), (.int .i64 0), (.int .i64 0), (.int .i64 0), (.int .i64 0), (.int .i64 0), (.int .i64 0), (.slice none 0 0), (.string ByteArray.empty), (.string ByteArray.empty), (.int .i64 0), (.bool false), (.slice none 0 0)]) w12)
 (
 Calls Tryz.prog 136 #[(.string a0), (.int .i64 x10), (.int .i64 65536)] w8 fun e w13 => ∃ s14 : ByteArray, ∃ x15 : Int, ∃ x16 : Int, e = .returned (.tuple #[(.string s14), (.int .i64 x15), (.int .i64 x16)]) ∧ Keep [b1] w8 w13 ∧
 Calls Tryz.prog 137 #[(.string s14)] w13 fun e w17 => ∃ x18 : Int, ∃ s19 : ByteArray, ∃ x20 : Int, ∃ x21 : Int, ∃ x22 : Int, ∃ x23 : Int, ∃ x24 : Int, ∃ x25 : Int, ∃ (a26 : Option Addr) (n27 c28 : Nat), ∃ s29 : ByteArray, ∃ s30 : ByteArray, ∃ x31 : Int, ∃ t32 : Bool, ∃ (a33 : Option Addr) (n34 c35 : Nat), ∃ x36 : Int, e = .returned (.tuple #[(.agg #[(.int .i64 x18), (.string s19), (.int .i64 x20), (.int .i64 x21), (.int .i64 x22), (.int .i64 x23), (.int .i64 x24), (.int .i64 x25), (.slice a26 n27 c28), (.string s29), (.string s30), (.int .i64 x31), (.bool t32), (.slice a33 n34 c35)]), (.int .i64 x36)]) ∧ Keep [b1] w13 w17 ∧
 ∀ b37, w17.heap.size ≤ b37 →
 ∀ w38, Adv [b1] [b37] w17 w38 →
 R (.agg #[(.int .i64 (IntKind.wrap .i64 x4)), (.int .i64 (IntKind.wrap .i64 x9)), (.int .i64 x18), (.string s19), (.int .i64 x20), (.int .i64 x21), (.int .i64 x22), (.int .i64 x23), (.int .i64 x24), (.int .i64 x25), (.slice a26 n27 c28), (.string s29), (.string s30), (.int .i64 x31), (.bool t32), (.slice a33 n34 c35)]) w38))
theorem oplog_call_eq (a0 : ByteArray) (R : Value → World → Prop) (w : World) :
 dnF Tryz.prog oplog_call_an (code Tryz.f89) 400 [] (post3 Tryz.prog Tryz.f89 [] R) ⟨args0 0 [(.string a0)], fun _ => undef⟩ ⟨[], w, [], [], true⟩ = oplog_call_T a0 R w := by kernel_rfl
theorem oplog_call_go {a0 : ByteArray} {R : Value → World → Prop} {w : World} (h : oplog_call_T a0 R w) :
 Calls Tryz.prog 89 #[(.string a0)] w fun e w' => ∃ v, e = .returned v ∧ R v w' :=
 calls_none Tryz.wide_mixed (f := 89) (args := [(.string a0)]) Tryz.func89 rfl rfl (by kernel_rfl) rfl (Eq.mpr (oplog_call_eq a0 R w) h)
def oplog_Parse_la1 : LA := ⟨[0, 0, 1, 0, 1, 1, 1], [0, 4, 5, 6, 7, 8], [], 0, []⟩
def oplog_Parse_an : List LA := [oplog_Parse_la1]
def oplog_Parse_v1 (a3 : ByteArray) (a4 : Int) (a5 : Int) (a6 : Int) (a0 : Option Addr) (a2 : Nat) (a1 : Nat) (a7 : Int) : List Value := [(.string a3), (.int .u64 a4), (.int .i64 a5), (.int .i64 a6), (.slice a0 a2 a1), (.int .u64 a7)]
def oplog_Parse_m1 : List TB := []
def oplog_Parse_L1 (a3 : ByteArray) (a5 : Int) (a7 : Int) (a4 : Int) (a0 : Option Addr) (a2 : Nat) (a1 : Nat) (a6 : Int) (K1 : Kh) (R : Value → World → Prop) (w : World) : Prop :=
 brB (decide (a6 < a5)) (
 brB (a4 == 0) (
 Calls Tryz.prog 88 #[(.string a3), (.int .i64 a7), (.int .i64 65536)] w fun e w5 => ∃ s6 : ByteArray, ∃ x7 : Int, ∃ x8 : Int, e = .returned (.tuple #[(.string s6), (.int .i64 x7), (.int .i64 x8)]) ∧
 Calls Tryz.prog 89 #[(.string s6)] w5 fun e w9 => ∃ x10 : Int, ∃ x11 : Int, ∃ x12 : Int, ∃ s13 : ByteArray, ∃ x14 : Int, ∃ x15 : Int, ∃ x16 : Int, ∃ x17 : Int, ∃ x18 : Int, ∃ x19 : Int, ∃ (a20 : Option Addr) (n21 c22 : Nat), ∃ s23 : ByteArray, ∃ s24 : ByteArray, ∃ x25 : Int, ∃ t26 : Bool, ∃ (a27 : Option Addr) (n28 c29 : Nat), e = .returned (.agg #[(.int .i64 x10), (.int .i64 x11), (.int .i64 x12), (.string s13), (.int .i64 x14), (.int .i64 x15), (.int .i64 x16), (.int .i64 x17), (.int .i64 x18), (.int .i64 x19), (.slice a20 n21 c22), (.string s23), (.string s24), (.int .i64 x25), (.bool t26), (.slice a27 n28 c29)]) ∧
 al w9 (.cells #[(.int .i64 x10), (.int .i64 x11), (.int .i64 x12), (.string s13), (.int .i64 x14), (.int .i64 x15), (.int .i64 x16), (.int .i64 x17), (.int .i64 x18), (.int .i64 x19), (.slice a20 n21 c22), (.string s23), (.string s24), (.int .i64 x25), (.bool t26), (.slice a27 n28 c29)] 57) fun b30 w31 =>
 effSl Tryz.prog (Builtin.append_ #[39, 39] 39 #[(.slice a0 a2 a1), (.slice (some ⟨b30, 0, none⟩) 1 1)]) w31 fun a33 n34 c35 w32 =>
 K1 (oplog_Parse_v1 a3 a5 x7 x8 a33 n34 c35 (IntKind.wrap .u64 (a6 + 1))) (oplog_Parse_m1) w32)
 (
 Calls Tryz.prog 31 #[(.slice a0 a2 a1)] w fun e w36 => ∃ s37 : ByteArray, ∃ x38 : Int, e = .returned (.tuple #[(.string s37), (.int .i64 x38)]) ∧
 brB (a4 != 0) (
 R (.tuple #[(.slice none 0 0), (.int .i64 162)]) w36)
 (
 brB (x38 != 0) (
 R (.tuple #[(.slice none 0 0), (.int .i64 162)]) w36)
 (
 brB (!(s37.toList == a3.toList)) (
 R (.tuple #[(.slice none 0 0), (.int .i64 162)]) w36)
 (
 R (.tuple #[(.slice a0 a2 a1), (.int .i64 0)]) w36)))))
 (
 Calls Tryz.prog 31 #[(.slice a0 a2 a1)] w fun e w39 => ∃ s40 : ByteArray, ∃ x41 : Int, e = .returned (.tuple #[(.string s40), (.int .i64 x41)]) ∧
 brB (a4 != 0) (
 R (.tuple #[(.slice none 0 0), (.int .i64 162)]) w39)
 (
 brB (x41 != 0) (
 R (.tuple #[(.slice none 0 0), (.int .i64 162)]) w39)
 (
 brB (!(s40.toList == a3.toList)) (
 R (.tuple #[(.slice none 0 0), (.int .i64 162)]) w39)
 (
 R (.tuple #[(.slice a0 a2 a1), (.int .i64 0)]) w39))))
theorem oplog_Parse_L1_eq (a3 : ByteArray) (a4 : Int) (a5 : Int) (a6 : Int) (a0 : Option Addr) (a2 : Nat) (a1 : Nat) (a7 : Int) (K1 : Kh) (js : Nat → Value) (R : Value → World → Prop) (w : World) :
 headA oplog_Parse_la1 ((dnF Tryz.prog oplog_Parse_an (code Tryz.f33) 395 [0, 0, 1, 0, 1, 1, 1]) (kthen3 (atA oplog_Parse_la1 K1) (kont3 Tryz.prog oplog_Parse_an (code Tryz.f33) [1, 1, 1, 0, 1, 0] [] (post3 Tryz.prog Tryz.f33 [] R)))) (oplog_Parse_v1 a3 a4 a5 a6 a0 a2 a1 a7) js (oplog_Parse_m1) w = oplog_Parse_L1 a3 a4 a5 a6 a0 a2 a1 a7 K1 R w := by kernel_rfl
def oplog_Parse_K1 (a6 : ByteArray) (a7 : Int) (I : Nat → Int → Int → Option Addr → Nat → Nat → Int → World → Prop) (m : Nat) (vals : List Value) (mem : List TB) (w : World) : Prop := ∃ m', m' < m ∧ ∃ a3 a4 a0 a2 a1 a5, vals = (oplog_Parse_v1 a6 a7 a3 a4 a0 a2 a1 a5) ∧ mem = (oplog_Parse_m1) ∧ I m' a3 a4 a0 a2 a1 a5 w
theorem oplog_Parse_leaf1 {a3 : ByteArray} {a4 : Int} {I : Nat → Int → Int → Option Addr → Nat → Nat → Int → World → Prop} {m : Nat} {a5 : Int} {a6 : Int} {a0 : Option Addr} {a2 : Nat} {a1 : Nat} {a7 : Int} {w : World} (m' : Nat) (h1 : m' < m) (h2 : I m' a5 a6 a0 a2 a1 a7 w) : oplog_Parse_K1 a3 a4 I m (oplog_Parse_v1 a3 a4 a5 a6 a0 a2 a1 a7) (oplog_Parse_m1) w := ⟨m', h1, _, _, _, _, _, _, rfl, rfl, h2⟩
theorem oplog_Parse_rule1 {a6 : ByteArray} {a7 : Int} {b1 : Int} {b2 : Int} {a8 : Option Addr} {b0 : Nat} {a9 : Nat} {b3 : Int} {R : Value → World → Prop} {w0 : World} (I : Nat → Int → Int → Option Addr → Nat → Nat → Int → World → Prop) (m0 : Nat) (h0 : I m0 b1 b2 a8 b0 a9 b3 w0)
 (hr : ∀ (m : Nat) (a3 : Int) (a4 : Int) (a0 : Option Addr) (a2 : Nat) (a1 : Nat) (a5 : Int) (w : World), I m a3 a4 a0 a2 a1 a5 w → oplog_Parse_L1 a6 a7 a3 a4 a0 a2 a1 a5 (oplog_Parse_K1 a6 a7 I m) R w) :
 loopD3 oplog_Parse_la1 (dnF Tryz.prog oplog_Parse_an (code Tryz.f33) 395 [0, 0, 1, 0, 1, 1, 1]) (kont3 Tryz.prog oplog_Parse_an (code Tryz.f33) [1, 1, 1, 0, 1, 0] [] (post3 Tryz.prog Tryz.f33 [] R)) (oplog_Parse_v1 a6 a7 b1 b2 a8 b0 a9 b3) (oplog_Parse_m1) w0 := by
 refine ⟨fun m vals mem w => ∃ a3 a4 a0 a2 a1 a5, vals = (oplog_Parse_v1 a6 a7 a3 a4 a0 a2 a1 a5) ∧ mem = (oplog_Parse_m1) ∧ I m a3 a4 a0 a2 a1 a5 w, m0, ⟨_, _, _, _, _, _, rfl, rfl, h0⟩, ?_⟩
 rintro m vals mem w ⟨a3, a4, a0, a2, a1, a5, rfl, rfl, hI⟩
 refine ⟨rfl, rfl, fun js => ?_⟩
 have h := hr m a3 a4 a0 a2 a1 a5 w hI
 rw [← oplog_Parse_L1_eq _ _ _ _ _ _ _ _ _ js] at h
 exact h
def oplog_Parse_T (a0 : ByteArray) (R : Value → World → Prop) (w : World) : Prop :=
 Calls Tryz.prog 87 #[(.string a0), (.int .i64 0)] w fun e w1 => ∃ x2 : Int, ∃ x3 : Int, ∃ x4 : Int, e = .returned (.tuple #[(.int .u64 x2), (.int .i64 x3), (.int .i64 x4)]) ∧
 loopD3 oplog_Parse_la1 (dnF Tryz.prog oplog_Parse_an (code Tryz.f33) 395 [0, 0, 1, 0, 1, 1, 1]) (kont3 Tryz.prog oplog_Parse_an (code Tryz.f33) [1, 1, 1, 0, 1, 0] [] (post3 Tryz.prog Tryz.f33 [] R)) (oplog_Parse_v1 a0 x2 x3 x4 none 0 0 0) (oplog_Parse_m1) w1
theorem oplog_Parse_eq (a0 : ByteArray) (R : Value → World → Prop) (w : World) :
 dnF Tryz.prog oplog_Parse_an (code Tryz.f33) 400 [] (post3 Tryz.prog Tryz.f33 [] R) ⟨args0 0 [(.string a0)], fun _ => undef⟩ ⟨[], w, [], [], true⟩ = oplog_Parse_T a0 R w := by kernel_rfl
theorem oplog_Parse_go {a0 : ByteArray} {R : Value → World → Prop} {w : World} (h : oplog_Parse_T a0 R w) :
 Calls Tryz.prog 33 #[(.string a0)] w fun e w' => ∃ v, e = .returned v ∧ R v w' :=
 calls_none Tryz.wide_mixed (f := 33) (args := [(.string a0)]) Tryz.func33 rfl rfl (by kernel_rfl) rfl (Eq.mpr (oplog_Parse_eq a0 R w) h)
def oplog_Same_1_an : List LA := []
def oplog_Same_1_T (c2 : Int) (c3 : Int) (c4 : Int) (c5 : ByteArray) (c6 : Int) (c7 : Int) (c8 : Int) (c9 : Int) (d0 : Int) (d1 : Int) (a0 : Option Addr) (a2 : Nat) (a1 : Nat) (b4 : ByteArray) (b5 : ByteArray) (b6 : Int) (b7 : Bool) (a3 : Option Addr) (a5 : Nat) (a4 : Nat) (d2 : Int) (d3 : Int) (d4 : Int) (d5 : ByteArray) (d6 : Int) (d7 : Int) (d8 : Int) (d9 : Int) (e0 : Int) (e1 : Int) (a6 : Option Addr) (a8 : Nat) (a7 : Nat) (b8 : ByteArray) (b9 : ByteArray) (c0 : Int) (c1 : Bool) (a9 : Option Addr) (b3 : Nat) (b0 : Nat) (R : Value → World → Prop) (w : World) : Prop :=
 ∀ b1, w.heap.size ≤ b1 →
 ∀ b2, w.heap.size ≤ b2 →
 brB (c2 == d2) (
 brB (c3 == d3) (
 ∀ w3, Adv [] [b2, b1] w w3 →
 Calls Tryz.prog 95 #[(.agg #[(.int .i64 c4), (.string c5), (.int .i64 c6), (.int .i64 c7), (.int .i64 c8), (.int .i64 c9), (.int .i64 d0), (.int .i64 d1), (.slice a0 a2 a1), (.string b4), (.string b5), (.int .i64 b6), (.bool b7), (.slice a3 a5 a4)]), (.agg #[(.int .i64 d4), (.string d5), (.int .i64 d6), (.int .i64 d7), (.int .i64 d8), (.int .i64 d9), (.int .i64 e0), (.int .i64 e1), (.slice a6 a8 a7), (.string b8), (.string b9), (.int .i64 c0), (.bool c1), (.slice a9 b3 b0)])] w3 fun e w4 => ∃ t5 : Bool, e = .returned (.bool t5) ∧ Keep [b1, b2] w3 w4 ∧
 R (.bool t5) w4)
 (
 ∀ w6, Adv [] [b2, b1] w w6 →
 R (.bool false) w6))
 (
 ∀ w7, Adv [] [b2, b1] w w7 →
 R (.bool false) w7)
theorem oplog_Same_1_eq (c0 : Int) (c1 : Int) (c2 : Int) (c3 : ByteArray) (c4 : Int) (c5 : Int) (c6 : Int) (c7 : Int) (c8 : Int) (c9 : Int) (a0 : Option Addr) (a2 : Nat) (a1 : Nat) (b2 : ByteArray) (b3 : ByteArray) (b4 : Int) (b5 : Bool) (a3 : Option Addr) (a5 : Nat) (a4 : Nat) (d0 : Int) (d1 : Int) (d2 : Int) (d3 : ByteArray) (d4 : Int) (d5 : Int) (d6 : Int) (d7 : Int) (d8 : Int) (d9 : Int) (a6 : Option Addr) (a8 : Nat) (a7 : Nat) (b6 : ByteArray) (b7 : ByteArray) (b8 : Int) (b9 : Bool) (a9 : Option Addr) (b1 : Nat) (b0 : Nat) (R : Value → World → Prop) (w : World) :
 dnF Tryz.prog oplog_Same_1_an (code Tryz.f94) 400 [] (post3 Tryz.prog Tryz.f94 [] R) ⟨args0 0 [(.agg #[(.int .i64 c0), (.int .i64 c1), (.int .i64 c2), (.string c3), (.int .i64 c4), (.int .i64 c5), (.int .i64 c6), (.int .i64 c7), (.int .i64 c8), (.int .i64 c9), (.slice a0 a2 a1), (.string b2), (.string b3), (.int .i64 b4), (.bool b5), (.slice a3 a5 a4)]), (.agg #[(.int .i64 d0), (.int .i64 d1), (.int .i64 d2), (.string d3), (.int .i64 d4), (.int .i64 d5), (.int .i64 d6), (.int .i64 d7), (.int .i64 d8), (.int .i64 d9), (.slice a6 a8 a7), (.string b6), (.string b7), (.int .i64 b8), (.bool b9), (.slice a9 b1 b0)])], fun _ => undef⟩ ⟨[], w, [], [], true⟩ = oplog_Same_1_T c0 c1 c2 c3 c4 c5 c6 c7 c8 c9 a0 a2 a1 b2 b3 b4 b5 a3 a5 a4 d0 d1 d2 d3 d4 d5 d6 d7 d8 d9 a6 a8 a7 b6 b7 b8 b9 a9 b1 b0 R w := by kernel_rfl
theorem oplog_Same_1_go {c0 : Int} {c1 : Int} {c2 : Int} {c3 : ByteArray} {c4 : Int} {c5 : Int} {c6 : Int} {c7 : Int} {c8 : Int} {c9 : Int} {a0 : Option Addr} {a2 : Nat} {a1 : Nat} {b2 : ByteArray} {b3 : ByteArray} {b4 : Int} {b5 : Bool} {a3 : Option Addr} {a5 : Nat} {a4 : Nat} {d0 : Int} {d1 : Int} {d2 : Int} {d3 : ByteArray} {d4 : Int} {d5 : Int} {d6 : Int} {d7 : Int} {d8 : Int} {d9 : Int} {a6 : Option Addr} {a8 : Nat} {a7 : Nat} {b6 : ByteArray} {b7 : ByteArray} {b8 : Int} {b9 : Bool} {a9 : Option Addr} {b1 : Nat} {b0 : Nat} {R : Value → World → Prop} {w : World} (h : oplog_Same_1_T c0 c1 c2 c3 c4 c5 c6 c7 c8 c9 a0 a2 a1 b2 b3 b4 b5 a3 a5 a4 d0 d1 d2 d3 d4 d5 d6 d7 d8 d9 a6 a8 a7 b6 b7 b8 b9 a9 b1 b0 R w) :
 Calls Tryz.prog 94 #[(.agg #[(.int .i64 c0), (.int .i64 c1), (.int .i64 c2), (.string c3), (.int .i64 c4), (.int .i64 c5), (.int .i64 c6), (.int .i64 c7), (.int .i64 c8), (.int .i64 c9), (.slice a0 a2 a1), (.string b2), (.string b3), (.int .i64 b4), (.bool b5), (.slice a3 a5 a4)]), (.agg #[(.int .i64 d0), (.int .i64 d1), (.int .i64 d2), (.string d3), (.int .i64 d4), (.int .i64 d5), (.int .i64 d6), (.int .i64 d7), (.int .i64 d8), (.int .i64 d9), (.slice a6 a8 a7), (.string b6), (.string b7), (.int .i64 b8), (.bool b9), (.slice a9 b1 b0)])] w fun e w' => ∃ v, e = .returned v ∧ R v w' :=
 calls_none Tryz.wide_mixed (f := 94) (args := [(.agg #[(.int .i64 c0), (.int .i64 c1), (.int .i64 c2), (.string c3), (.int .i64 c4), (.int .i64 c5), (.int .i64 c6), (.int .i64 c7), (.int .i64 c8), (.int .i64 c9), (.slice a0 a2 a1), (.string b2), (.string b3), (.int .i64 b4), (.bool b5), (.slice a3 a5 a4)]), (.agg #[(.int .i64 d0), (.int .i64 d1), (.int .i64 d2), (.string d3), (.int .i64 d4), (.int .i64 d5), (.int .i64 d6), (.int .i64 d7), (.int .i64 d8), (.int .i64 d9), (.slice a6 a8 a7), (.string b6), (.string b7), (.int .i64 b8), (.bool b9), (.slice a9 b1 b0)])]) Tryz.func94 rfl rfl (by kernel_rfl) rfl (Eq.mpr (oplog_Same_1_eq c0 c1 c2 c3 c4 c5 c6 c7 c8 c9 a0 a2 a1 b2 b3 b4 b5 a3 a5 a4 d0 d1 d2 d3 d4 d5 d6 d7 d8 d9 a6 a8 a7 b6 b7 b8 b9 a9 b1 b0 R w) h)
def oplog_Same_an : List LA := []
def oplog_Same_T (a0 : Option Addr) (a2 : Nat) (a1 : Nat) (a3 : Option Addr) (a5 : Nat) (a4 : Nat) (R : Value → World → Prop) (w : World) : Prop :=
 Calls Tryz.prog 93 #[(.slice a0 a2 a1), (.slice a3 a5 a4), (.func (.func 94) #[] #[])] w fun e w1 => ∃ t2 : Bool, e = .returned (.bool t2) ∧
 R (.bool t2) w1
theorem oplog_Same_eq (a0 : Option Addr) (a2 : Nat) (a1 : Nat) (a3 : Option Addr) (a5 : Nat) (a4 : Nat) (R : Value → World → Prop) (w : World) :
 dnF Tryz.prog oplog_Same_an (code Tryz.f35) 400 [] (post3 Tryz.prog Tryz.f35 [] R) ⟨args0 0 [(.slice a0 a2 a1), (.slice a3 a5 a4)], fun _ => undef⟩ ⟨[], w, [], [], true⟩ = oplog_Same_T a0 a2 a1 a3 a5 a4 R w := by kernel_rfl
theorem oplog_Same_go {a0 : Option Addr} {a2 : Nat} {a1 : Nat} {a3 : Option Addr} {a5 : Nat} {a4 : Nat} {R : Value → World → Prop} {w : World} (h : oplog_Same_T a0 a2 a1 a3 a5 a4 R w) :
 Calls Tryz.prog 35 #[(.slice a0 a2 a1), (.slice a3 a5 a4)] w fun e w' => ∃ v, e = .returned v ∧ R v w' :=
 calls_none Tryz.wide_mixed (f := 35) (args := [(.slice a0 a2 a1), (.slice a3 a5 a4)]) Tryz.func35 rfl rfl (by kernel_rfl) rfl (Eq.mpr (oplog_Same_eq a0 a2 a1 a3 a5 a4 R w) h)
def slices_EqualFunc_api_Call_api_Call_api_Call_api_Call_la1 : LA := ⟨[0, 0, 1, 0, 1, 1], [1, 2, 15, 16, 17], [], 0, []⟩
def slices_EqualFunc_api_Call_api_Call_api_Call_api_Call_an : List LA := [slices_EqualFunc_api_Call_api_Call_api_Call_api_Call_la1]
def slices_EqualFunc_api_Call_api_Call_api_Call_api_Call_v1 (a5 : Option Addr) (a7 : Nat) (a6 : Nat) (a0 : Option Addr) (a2 : Nat) (a1 : Nat) (a3 : Int) (a4 : Int) : List Value := [(.slice a5 a7 a6), (.func (.func 94) #[] #[]), (.slice a0 a2 a1), (.int .i64 a3), (.int .i64 a4)]
def slices_EqualFunc_api_Call_api_Call_api_Call_api_Call_m1 : List TB := []
def slices_EqualFunc_api_Call_api_Call_api_Call_api_Call_L1 (a4 : Option Addr) (a5 : Nat) (a7 : Nat) (a1 : Option Addr) (a2 : Nat) (a6 : Nat) (a3 : Int) (a0 : Int) (K1 : Kh) (R : Value → World → Prop) (w : World) : Prop :=
 brB (decide (a0 < a3)) (
 ixA a1 a2 a0 16 fun q1 =>
 ldInt .i64 w q1 fun x2 => ldInt .i64 w (Addr.add q1 1) fun x3 => ldInt .i64 w (Addr.add q1 2) fun x4 => ldStr w (Addr.add q1 3) fun s5 => ldInt .i64 w (Addr.add q1 4) fun x6 => ldInt .i64 w (Addr.add q1 5) fun x7 => ldInt .i64 w (Addr.add q1 6) fun x8 => ldInt .i64 w (Addr.add q1 7) fun x9 => ldInt .i64 w (Addr.add q1 8) fun x10 => ldInt .i64 w (Addr.add q1 9) fun x11 => ldSlice w (Addr.add q1 10) fun a12 n13 c14 => ldStr w (Addr.add q1 11) fun s15 => ldStr w (Addr.add q1 12) fun s16 => ldInt .i64 w (Addr.add q1 13) fun x17 => ldBool w (Addr.add q1 14) fun t18 => ldSlice w (Addr.add q1 15) fun a19 n20 c21 =>
 ∀ b22, w.heap.size ≤ b22 →
 ixA a4 a5 a0 16 fun q23 =>
 ∀ w24, Adv [] [b22] w w24 →
 ldInt .i64 w24 q23 fun x25 => ldInt .i64 w24 (Addr.add q23 1) fun x26 => ldInt .i64 w24 (Addr.add q23 2) fun x27 => ldStr w24 (Addr.add q23 3) fun s28 => ldInt .i64 w24 (Addr.add q23 4) fun x29 => ldInt .i64 w24 (Addr.add q23 5) fun x30 => ldInt .i64 w24 (Addr.add q23 6) fun x31 => ldInt .i64 w24 (Addr.add q23 7) fun x32 => ldInt .i64 w24 (Addr.add q23 8) fun x33 => ldInt .i64 w24 (Addr.add q23 9) fun x34 => ldSlice w24 (Addr.add q23 10) fun a35 n36 c37 => ldStr w24 (Addr.add q23 11) fun s38 => ldStr w24 (Addr.add q23 12) fun s39 => ldInt .i64 w24 (Addr.add q23 13) fun x40 => ldBool w24 (Addr.add q23 14) fun t41 => ldSlice w24 (Addr.add q23 15) fun a42 n43 c44 =>
 ∀ b45, w24.heap.size ≤ b45 →
 ∀ w46, Adv [] [b45] w24 w46 →
 Calls Tryz.prog 94 #[(.agg #[(.int .i64 x2), (.int .i64 x3), (.int .i64 x4), (.string s5), (.int .i64 x6), (.int .i64 x7), (.int .i64 x8), (.int .i64 x9), (.int .i64 x10), (.int .i64 x11), (.slice a12 n13 c14), (.string s15), (.string s16), (.int .i64 x17), (.bool t18), (.slice a19 n20 c21)]), (.agg #[(.int .i64 x25), (.int .i64 x26), (.int .i64 x27), (.string s28), (.int .i64 x29), (.int .i64 x30), (.int .i64 x31), (.int .i64 x32), (.int .i64 x33), (.int .i64 x34), (.slice a35 n36 c37), (.string s38), (.string s39), (.int .i64 x40), (.bool t41), (.slice a42 n43 c44)])] w46 fun e w47 => ∃ t48 : Bool, e = .returned (.bool t48) ∧ Keep [b22, b45] w46 w47 ∧
 brB (!t48) (
 R (.bool false) w47)
 (
 K1 (slices_EqualFunc_api_Call_api_Call_api_Call_api_Call_v1 a4 a5 a7 a1 a2 a6 a3 (IntKind.wrap .i64 (a0 + 1))) (slices_EqualFunc_api_Call_api_Call_api_Call_api_Call_m1) w47))
 (
 R (.bool true) w)
theorem slices_EqualFunc_api_Call_api_Call_api_Call_api_Call_L1_eq (a5 : Option Addr) (a7 : Nat) (a6 : Nat) (a0 : Option Addr) (a2 : Nat) (a1 : Nat) (a3 : Int) (a4 : Int) (K1 : Kh) (js : Nat → Value) (R : Value → World → Prop) (w : World) :
 headA slices_EqualFunc_api_Call_api_Call_api_Call_api_Call_la1 ((dnF Tryz.prog slices_EqualFunc_api_Call_api_Call_api_Call_api_Call_an (code Tryz.f93) 396 [0, 0, 1, 0, 1, 1]) (kthen3 (atA slices_EqualFunc_api_Call_api_Call_api_Call_api_Call_la1 K1) (kont3 Tryz.prog slices_EqualFunc_api_Call_api_Call_api_Call_api_Call_an (code Tryz.f93) [1, 1, 0, 1, 0] [] (post3 Tryz.prog Tryz.f93 [] R)))) (slices_EqualFunc_api_Call_api_Call_api_Call_api_Call_v1 a5 a7 a6 a0 a2 a1 a3 a4) js (slices_EqualFunc_api_Call_api_Call_api_Call_api_Call_m1) w = slices_EqualFunc_api_Call_api_Call_api_Call_api_Call_L1 a5 a7 a6 a0 a2 a1 a3 a4 K1 R w := by kernel_rfl
def slices_EqualFunc_api_Call_api_Call_api_Call_api_Call_K1 (a5 : Option Addr) (a7 : Nat) (a6 : Nat) (a1 : Option Addr) (a3 : Nat) (a2 : Nat) (a4 : Int) (I : Nat → Int → World → Prop) (m : Nat) (vals : List Value) (mem : List TB) (w : World) : Prop := ∃ m', m' < m ∧ ∃ a0, vals = (slices_EqualFunc_api_Call_api_Call_api_Call_api_Call_v1 a5 a7 a6 a1 a3 a2 a4 a0) ∧ mem = (slices_EqualFunc_api_Call_api_Call_api_Call_api_Call_m1) ∧ I m' a0 w
theorem slices_EqualFunc_api_Call_api_Call_api_Call_api_Call_leaf1 {a5 : Option Addr} {a7 : Nat} {a6 : Nat} {a0 : Option Addr} {a2 : Nat} {a1 : Nat} {a3 : Int} {I : Nat → Int → World → Prop} {m : Nat} {a4 : Int} {w : World} (m' : Nat) (h1 : m' < m) (h2 : I m' a4 w) : slices_EqualFunc_api_Call_api_Call_api_Call_api_Call_K1 a5 a7 a6 a0 a2 a1 a3 I m (slices_EqualFunc_api_Call_api_Call_api_Call_api_Call_v1 a5 a7 a6 a0 a2 a1 a3 a4) (slices_EqualFunc_api_Call_api_Call_api_Call_api_Call_m1) w := ⟨m', h1, _, rfl, rfl, h2⟩
theorem slices_EqualFunc_api_Call_api_Call_api_Call_api_Call_rule1 {a5 : Option Addr} {a7 : Nat} {a6 : Nat} {a1 : Option Addr} {a3 : Nat} {a2 : Nat} {a4 : Int} {a8 : Int} {R : Value → World → Prop} {w0 : World} (I : Nat → Int → World → Prop) (m0 : Nat) (h0 : I m0 a8 w0)
 (hr : ∀ (m : Nat) (a0 : Int) (w : World), I m a0 w → slices_EqualFunc_api_Call_api_Call_api_Call_api_Call_L1 a5 a7 a6 a1 a3 a2 a4 a0 (slices_EqualFunc_api_Call_api_Call_api_Call_api_Call_K1 a5 a7 a6 a1 a3 a2 a4 I m) R w) :
 loopD3 slices_EqualFunc_api_Call_api_Call_api_Call_api_Call_la1 (dnF Tryz.prog slices_EqualFunc_api_Call_api_Call_api_Call_api_Call_an (code Tryz.f93) 396 [0, 0, 1, 0, 1, 1]) (kont3 Tryz.prog slices_EqualFunc_api_Call_api_Call_api_Call_api_Call_an (code Tryz.f93) [1, 1, 0, 1, 0] [] (post3 Tryz.prog Tryz.f93 [] R)) (slices_EqualFunc_api_Call_api_Call_api_Call_api_Call_v1 a5 a7 a6 a1 a3 a2 a4 a8) (slices_EqualFunc_api_Call_api_Call_api_Call_api_Call_m1) w0 := by
 refine ⟨fun m vals mem w => ∃ a0, vals = (slices_EqualFunc_api_Call_api_Call_api_Call_api_Call_v1 a5 a7 a6 a1 a3 a2 a4 a0) ∧ mem = (slices_EqualFunc_api_Call_api_Call_api_Call_api_Call_m1) ∧ I m a0 w, m0, ⟨_, rfl, rfl, h0⟩, ?_⟩
 rintro m vals mem w ⟨a0, rfl, rfl, hI⟩
 refine ⟨rfl, rfl, fun js => ?_⟩
 have h := hr m a0 w hI
 rw [← slices_EqualFunc_api_Call_api_Call_api_Call_api_Call_L1_eq _ _ _ _ _ _ _ _ _ js] at h
 exact h
def slices_EqualFunc_api_Call_api_Call_api_Call_api_Call_T (a2 : Option Addr) (a0 : Nat) (a3 : Nat) (a4 : Option Addr) (a1 : Nat) (a5 : Nat) (R : Value → World → Prop) (w : World) : Prop :=
 brB ((a0 : Int) != (a1 : Int)) (
 R (.bool false) w)
 (
 loopD3 slices_EqualFunc_api_Call_api_Call_api_Call_api_Call_la1 (dnF Tryz.prog slices_EqualFunc_api_Call_api_Call_api_Call_api_Call_an (code Tryz.f93) 396 [0, 0, 1, 0, 1, 1]) (kont3 Tryz.prog slices_EqualFunc_api_Call_api_Call_api_Call_api_Call_an (code Tryz.f93) [1, 1, 0, 1, 0] [] (post3 Tryz.prog Tryz.f93 [] R)) (slices_EqualFunc_api_Call_api_Call_api_Call_api_Call_v1 a4 a1 a5 a2 a0 a3 (a0 : Int) 0) (slices_EqualFunc_api_Call_api_Call_api_Call_api_Call_m1) w)
theorem slices_EqualFunc_api_Call_api_Call_api_Call_api_Call_eq (a0 : Option Addr) (a2 : Nat) (a1 : Nat) (a3 : Option Addr) (a5 : Nat) (a4 : Nat) (R : Value → World → Prop) (w : World) :
 dnF Tryz.prog slices_EqualFunc_api_Call_api_Call_api_Call_api_Call_an (code Tryz.f93) 400 [] (post3 Tryz.prog Tryz.f93 [] R) ⟨args0 0 [(.slice a0 a2 a1), (.slice a3 a5 a4), (.func (.func 94) #[] #[])], fun _ => undef⟩ ⟨[], w, [], [], true⟩ = slices_EqualFunc_api_Call_api_Call_api_Call_api_Call_T a0 a2 a1 a3 a5 a4 R w := by kernel_rfl
theorem slices_EqualFunc_api_Call_api_Call_api_Call_api_Call_go {a0 : Option Addr} {a2 : Nat} {a1 : Nat} {a3 : Option Addr} {a5 : Nat} {a4 : Nat} {R : Value → World → Prop} {w : World} (h : slices_EqualFunc_api_Call_api_Call_api_Call_api_Call_T a0 a2 a1 a3 a5 a4 R w) :
 Calls Tryz.prog 93 #[(.slice a0 a2 a1), (.slice a3 a5 a4), (.func (.func 94) #[] #[])] w fun e w' => ∃ v, e = .returned v ∧ R v w' :=
 calls_none Tryz.wide_mixed (f := 93) (args := [(.slice a0 a2 a1), (.slice a3 a5 a4), (.func (.func 94) #[] #[])]) Tryz.func93 rfl rfl (by kernel_rfl) rfl (Eq.mpr (slices_EqualFunc_api_Call_api_Call_api_Call_api_Call_eq a0 a2 a1 a3 a5 a4 R w) h)
def slices_Clone_api_Call_api_Call_an : List LA := []
def slices_Clone_api_Call_api_Call_T (a0 : Option Addr) (a2 : Nat) (a1 : Nat) (R : Value → World → Prop) (w : World) : Prop :=
 brB (Option.isNone a0) (
 R (.slice none 0 0) w)
 (
 al w (.cells #[] 57) fun b1 w2 =>
 effSl Tryz.prog (Builtin.append_ #[39, 39] 39 #[(.slice (some ⟨b1, 0, none⟩) 0 0), (.slice a0 a2 a1)]) w2 fun a4 n5 c6 w3 =>
 R (.slice a4 n5 c6) w3)
theorem slices_Clone_api_Call_api_Call_eq (a0 : Option Addr) (a2 : Nat) (a1 : Nat) (R : Value → World → Prop) (w : World) :
 dnF Tryz.prog slices_Clone_api_Call_api_Call_an (code Tryz.f100) 400 [] (post3 Tryz.prog Tryz.f100 [] R) ⟨args0 0 [(.slice a0 a2 a1)], fun _ => undef⟩ ⟨[], w, [], [], true⟩ = slices_Clone_api_Call_api_Call_T a0 a2 a1 R w := by kernel_rfl
theorem slices_Clone_api_Call_api_Call_go {a0 : Option Addr} {a2 : Nat} {a1 : Nat} {R : Value → World → Prop} {w : World} (h : slices_Clone_api_Call_api_Call_T a0 a2 a1 R w) :
 Calls Tryz.prog 100 #[(.slice a0 a2 a1)] w fun e w' => ∃ v, e = .returned v ∧ R v w' :=
 calls_none Tryz.wide_mixed (f := 100) (args := [(.slice a0 a2 a1)]) Tryz.func100 rfl rfl (by kernel_rfl) rfl (Eq.mpr (slices_Clone_api_Call_api_Call_eq a0 a2 a1 R w) h)

end Go.Proofs.YtohgihgddknmmaaGreat

/- Calls checked. -/
namespace Go.Proofs.YtohgihgddknmmaaGreat
open Go Go.RowKit Go.Shelf
set_option linter.unusedVariables false
set_option linter.unusedSimpArgs false

def oddN (n : Int) : Bool := decide (n < 1 ∨ n > 1099511627776)
theorem oddN_ok (n : Int) (w : World) : Calls Tryz.prog 122 #[.int .i64 n] w fun e w' => e = .returned (.bool (oddN n)) ∧ w' = w := by
  refine go_of (oplog_checked_1_go ?_)
  refine brB_dec (fun h => ⟨?_, rfl⟩) fun h => ⟨?_, rfl⟩
  · congr 1; symm; simp [oddN]; omega
  · congr 1; rw [oddN]; congr 1; apply propext; omega
set_option maxRecDepth 100000 in
set_option maxHeartbeats 2000000 in
theorem odd2_raw {w : World} {b1 : Nat} {T : TypeId} (h : w.heap[b1]? = some (.cells #[.func (.func 122) #[] #[]] T)) (c n : Int) (v2 v3 v4 v5 v6 v7 v8 v9 v10 v11 v12 v13 v14 v15 : Value) :
    Calls Tryz.prog 124 #[.agg #[.int .i64 c, .int .i64 n, v2, v3, v4, v5, v6, v7, v8, v9, v10, v11, v12, v13, v14, v15], .pointer (some ⟨b1, 0, none⟩)] w fun e w' => e = .returned (.bool (oddN c || oddN n)) ∧ Mod [] w w' := by
  have mixed := Tryz.wide_mixed
  have hM : Mod [] w (w.alloc (.cells #[.int .i64 c, .int .i64 n, v2, v3, v4, v5, v6, v7, v8, v9, v10, v11, v12, v13, v14, v15] 57)) := Mod.of_below ((Below.refl _ _).alloc (Nat.le_refl _) _)
  have hN := World.alloc_heap_new w (.cells #[.int .i64 c, .int .i64 n, v2, v3, v4, v5, v6, v7, v8, v9, v10, v11, v12, v13, v14, v15] 57)
  have c0 : (w.alloc (.cells #[.int .i64 c, .int .i64 n, v2, v3, v4, v5, v6, v7, v8, v9, v10, v11, v12, v13, v14, v15] 57)).cell? ⟨b1, 0, none⟩ = some (.func (.func 122) #[] #[]) := by rw [cell_at (hM.keep0 h)]; rfl
  have c1 : (w.alloc (.cells #[.int .i64 c, .int .i64 n, v2, v3, v4, v5, v6, v7, v8, v9, v10, v11, v12, v13, v14, v15] 57)).cell? ⟨w.heap.size, 0, none⟩ = some (.int .i64 c) := by rw [cell_at hN]; rfl
  have c2 : (w.alloc (.cells #[.int .i64 c, .int .i64 n, v2, v3, v4, v5, v6, v7, v8, v9, v10, v11, v12, v13, v14, v15] 57)).cell? ⟨w.heap.size, 1, none⟩ = some (.int .i64 n) := by rw [cell_at hN]; rfl
  go_enter Tryz.func124, Tryz.ntmps124
  go_wp2_with fail
  refine (oddN_ok _ _).mono ?_
  rintro _ w' ⟨rfl, rfl⟩
  cases hc : oddN c with
  | true =>
    go_wp2
    go_ret
    exact ⟨by rw [hc]; rfl, hM⟩
  | false =>
    go_wp2_with fail
    refine (oddN_ok _ _).mono ?_
    rintro _ w' ⟨rfl, rfl⟩
    go_wp2
    go_ret
    exact ⟨by rw [hc]; rfl, hM⟩
/-! ### calls -/
def oddC (x : PCall) : Bool := oddN x.c || oddN x.n
def checkE (xs : List PCall) : Int := if xs.any oddC then 1 else match xs.find? fun x => opE x.op ≠ 0 with
  | none => 0
  | some x => opE x.op
structure CsAt (w : World) (s : Sl) (ll : List CV) : Prop where
  sl : SlAt w 16 CV.cs s.a s.n ll
  op : ∀ q ∈ ll, OpAt w q.x.op q.rs q.ts
theorem CsAt.keep0 {w w' : World} {s : Sl} {ll : List CV} (h : CsAt w s ll) (M : Mod [] w w') : CsAt w' s ll := ⟨h.sl.keep0 M, fun q hq => (h.op q hq).keep0 M⟩
theorem odd2_ok {w : World} {b1 : Nat} {T : TypeId} (h : w.heap[b1]? = some (.cells #[.func (.func 122) #[] #[]] T)) (q : CV) :
    Calls Tryz.prog 124 #[q.v, .pointer (some ⟨b1, 0, none⟩)] w fun e w' => e = .returned (.bool (oddC q.x)) ∧ Mod [] w w' := odd2_raw h _ _ _ _ _ _ _ _ _ _ _ _ _ _ _ _
theorem any_snoc {α : Type} {p : α → Bool} {l : List α} {k : Nat} {x : α} (h : l[k]? = some x) : (l.take (k + 1)).any p = ((l.take k).any p || p x) := by
  rw [List.take_add_one, h]; simp
theorem IndexOddC_ok {w : World} {b1 : Nat} {s : Sl} {ll : List CV} (h : w.heap[b1]? = some (.cells #[.func (.func 122) #[] #[]] 147)) (hs : SlAt w 16 CV.cs s.a s.n ll) (hl : ll.length ≤ 1000000) :
    Calls Tryz.prog 151 #[.slice s.a s.n s.c, .func (.func 124) #[] #[.pointer (some ⟨b1, 0, none⟩)]] w fun e w' => ∃ v, e = .returned v ∧ ∃ x : Int, v = .int .i64 x ∧ (decide (x ≥ 0) = ll.any fun q => oddC q.x) ∧ Mod [] w w' := by
  have hn := hs.1
  refine slices_IndexFunc_api_Call_api_Call_go ?_
  refine slices_IndexFunc_api_Call_api_Call_rule1 (fun mm x w' => ∃ k : Nat, x = k ∧ k ≤ ll.length ∧ Mod [] w w' ∧ ((ll.take k).any fun q => oddC q.x) = false ∧ mm = ll.length - k) ll.length ⟨0, rfl, by omega, Mod.refl _, by simp, rfl⟩ ?_
  rintro mm x w' ⟨k, rfl, hk, M, ha, rfl⟩
  refine brB_dec (fun hlt => ?_) fun hge => ?_
  · obtain ⟨q, hq⟩ : ∃ q, ll[k]? = some q := ⟨_, List.getElem?_eq_getElem (by omega)⟩
    refine (hs.keep0 M).ix hq fun ad had => ldCV_of had ?_
    refine (odd2_ok (M.keep0 h) q).mono ?_
    rintro _ w2 ⟨rfl, M2⟩
    have e1 := any_snoc (p := fun q : CV => oddC q.x) hq
    rw [ha, Bool.false_or] at e1
    refine ⟨_, rfl, brB_of (fun g => ?_) fun g => ?_⟩
    · refine ⟨k, rfl, ?_, M.go0 M2 (by simp)⟩
      have h1 : (ll.any fun q => oddC q.x) = true := List.any_eq_true.2 ⟨q, List.mem_of_getElem? hq, g⟩
      rw [h1]; simp
    · exact slices_IndexFunc_api_Call_api_Call_leaf1 (ll.length - (k + 1)) (by omega) ⟨k + 1, by rw [wrap_id (by omega) (by omega)]; omega, by omega, M.go0 M2 (by simp), by rw [e1]; exact g, rfl⟩
  · have hk : k = ll.length := by omega
    subst hk
    rw [List.take_length] at ha
    exact ⟨-1, rfl, by rw [ha]; rfl, M⟩
theorem ContainsOddC_ok {w : World} {b1 : Nat} {s : Sl} {ll : List CV} (h : w.heap[b1]? = some (.cells #[.func (.func 122) #[] #[]] 147)) (hs : SlAt w 16 CV.cs s.a s.n ll) (hl : ll.length ≤ 1000000) :
    Calls Tryz.prog 123 #[.slice s.a s.n s.c, .func (.func 124) #[] #[.pointer (some ⟨b1, 0, none⟩)]] w fun e w' => e = .returned (.bool (ll.any fun q => oddC q.x)) ∧ Mod [] w w' := by
  refine go_of (slices_ContainsFunc_api_Call_api_Call_go ?_)
  refine (IndexOddC_ok h hs hl).mono ?_
  rintro _ w1 ⟨_, rfl, x, rfl, hx, M⟩
  exact ⟨_, rfl, by rw [← hx], M⟩
theorem find_snoc {l : List CV} {k : Nat} (h : ∀ q ∈ l.take k, opE q.x.op = 0) {q : CV} (hq : l[k]? = some q) (he : opE q.x.op ≠ 0) : (l.map (·.x)).find? (fun x => opE x.op ≠ 0) = some q.x := by
  have hk := (List.getElem?_eq_some_iff.1 hq).1
  have e : l = l.take k ++ q :: l.drop (k + 1) := by
    rw [← (List.getElem?_eq_some_iff.1 hq).2, ← List.drop_eq_getElem_cons hk, List.take_append_drop]
  rw [e, List.map_append, List.find?_append]
  have h0 : ((l.take k).map (·.x)).find? (fun x => opE x.op ≠ 0) = none := by
    rw [List.find?_eq_none]
    intro x hx
    obtain ⟨q', hq', rfl⟩ := List.mem_map.1 hx
    simpa using h q' hq'
  rw [h0]
  simp [he]
theorem Checked_ok {w : World} {s : Sl} {ll : List CV} (h : CsAt w s ll) (hl : ll.length ≤ 1000000) :
    Calls Tryz.prog 75 #[.slice s.a s.n s.c] w fun e w' => e = .returned (.int .i64 (checkE (ll.map (·.x)))) ∧ Mod [] w w' := by
  have hn := h.sl.1
  refine go_of (oplog_checked_go ?_)
  intro b1 f1 w2 A2 h2
  refine (ContainsOddC_ok h2 (h.sl.keep0 A2.mod) hl).mono ?_
  rintro _ w3 ⟨rfl, M3⟩
  have N3 := A2.mod.go0 M3 (by simp)
  have ea : ((ll.map (·.x)).any oddC) = ll.any fun q => oddC q.x := by rw [List.any_map]; rfl
  refine ⟨_, rfl, _, M3.keep0 h2, brB_of (fun g => ?_) fun g => ?_⟩
  · refine ⟨?_, N3⟩
    rw [checkE, ea, g]; rfl
  have hE : checkE (ll.map (·.x)) = match (ll.map (·.x)).find? fun x => opE x.op ≠ 0 with
      | none => 0
      | some x => opE x.op := by rw [checkE, ea, g]; rfl
  refine oplog_checked_rule1 (fun mm x v w' => ∃ k : Nat, x = k ∧ k ≤ ll.length ∧ Mod [] w w' ∧ b1 < w'.heap.size ∧ (∀ q ∈ ll.take k, opE q.x.op = 0) ∧ mm = ll.length - k) ll.length ⟨0, rfl, by omega, N3, lt_of_block (M3.keep0 h2), by simp, rfl⟩ ?_
  rintro mm x v w4 ⟨k, rfl, hk, M4, lb, hz, rfl⟩ h4
  refine brB_dec (fun hlt => ?_) fun hge => ?_
  · obtain ⟨q, hq⟩ : ∃ q, ll[k]? = some q := ⟨_, List.getElem?_eq_getElem (by omega)⟩
    refine (h.sl.keep0 M4).ix hq fun ad had => ldCV_of had ?_
    intro b5 f5 w5 A5 h5
    have l5 := A5.lt b5 (by simp)
    have s5 := A5.mod.size
    have N5 := M4.go0 A5.mod (by simp)
    refine (Check_ok ((h.op q (List.mem_of_getElem? hq)).keep0 N5)).mono ?_
    rintro _ w6 ⟨rfl, M6⟩
    have N6 := N5.go0 M6 (by simp)
    have s6 := M6.size
    refine ⟨_, rfl, Keep.of0 M6, _, M6.keep0 h5, brB_of (fun g2 => ?_) fun g2 => ?_⟩
    · have g2 : opE q.x.op ≠ 0 := by simpa using g2
      refine ⟨?_, N6⟩
      rw [hE, find_snoc hz hq g2]
    · have g2 : opE q.x.op = 0 := by simpa using g2
      refine oplog_checked_leaf1 (ll.length - (k + 1)) (by omega) ⟨k + 1, by rw [wrap_id (by omega) (by omega)]; omega, by omega, N6, by omega, ?_, rfl⟩
      intro q' hq'
      rw [List.take_add_one, hq] at hq'
      simp at hq'
      rcases hq' with hq' | rfl
      · exact hz q' hq'
      · exact g2
  · have hk : k = ll.length := by omega
    subst hk
    rw [List.take_length] at hz
    refine ⟨?_, M4⟩
    rw [hE]
    have : (ll.map (·.x)).find? (fun x => opE x.op ≠ 0) = none := by
      rw [List.find?_eq_none]
      intro x hx
      obtain ⟨q', hq', rfl⟩ := List.mem_map.1 hx
      simpa using hz q' hq'
    rw [this]
theorem checkE_ok {xs : List PCall} : checkE xs = 0 ↔ ∀ x ∈ xs, oddC x = false ∧ opE x.op = 0 := by
  unfold checkE
  constructor
  · intro h
    split at h
    · omega
    · rename_i ha
      split at h
      · rename_i hf
        intro x hx
        refine ⟨?_, ?_⟩
        · cases ho : oddC x with
          | false => rfl
          | true => exact absurd (List.any_eq_true.2 ⟨x, hx, ho⟩) ha
        · have := List.find?_eq_none.1 hf x hx
          simpa using this
      · rename_i x hf
        have := List.find?_some hf
        simp [h] at this
  · intro h
    rw [if_neg]
    · have : xs.find? (fun x => opE x.op ≠ 0) = none := by
        rw [List.find?_eq_none]
        intro x hx
        simpa using (h x hx).2
      rw [this]
    · intro ha
      obtain ⟨x, hx, ho⟩ := List.any_eq_true.1 ha
      rw [(h x hx).1] at ho; cases ho
end Go.Proofs.YtohgihgddknmmaaGreat

/- Rows that were cut, and grow. -/
namespace Go.Proofs.YtohgihgddknmmaaGreat
open Go Go.RowKit
set_option linter.unusedVariables false
set_option linter.unusedSimpArgs false

/-- A row of its own, or one that is full, in a block of its own. -/
def LRow {α : Type} (w : World) (T sz : Nat) (enc : α → List Value) (s : Sl) (l : List α) : Prop :=
  Row w 0 T sz enc s.a s.n s.c l ∨ (s.n = s.c ∧ SlAt w sz enc s.a s.n l ∧ ∃ ad cur, s.a = some ad ∧ w.heap[ad.block]? = some (.cells cur T))
theorem LRow.sl {α : Type} {w : World} {T sz : Nat} {enc : α → List Value} {s : Sl} {l : List α} (h : LRow w T sz enc s l) (hs : ∀ x, (enc x).length = sz) : SlAt w sz enc s.a s.n l := by
  rcases h with h | h
  · exact h.sl hs
  · exact h.2.1
theorem LRow.block {α : Type} {w : World} {T sz : Nat} {enc : α → List Value} {s : Sl} {l : List α} (h : LRow w T sz enc s l) : ∀ ad, s.a = some ad → ∃ cur, w.heap[ad.block]? = some (.cells cur T) := by
  intro ad ha
  rcases h with h | ⟨_, _, ad', cur, ha', hc⟩
  · exact (h.block ad ha).2
  · rw [ha] at ha'; cases ha'; exact ⟨cur, hc⟩
theorem LRow.cap {α : Type} {w : World} {T sz : Nat} {enc : α → List Value} {s : Sl} {l : List α} (h : LRow w T sz enc s l) : s.n ≤ s.c := by
  rcases h with h | ⟨h, _⟩
  · exact h.cap
  · omega
theorem add_block (a : Addr) (i : Nat) : (a.add i).block = a.block := by unfold Addr.add; split <;> rfl
theorem SlAt.keepS {α : Type} {S : List Nat} {w w' : World} {sz : Nat} {enc : α → List Value} {a : Option Addr} {n : Nat} {l : List α} (h : SlAt w sz enc a n l) (M : Mod S w w') (hb : ∀ ad, a = some ad → ad.block < w.heap.size ∧ ad.block ∉ S) : SlAt w' sz enc a n l := by
  refine ⟨h.1, fun i x hx => ?_⟩
  obtain ⟨ad, ha, hc⟩ := h.2 i x hx
  have hbb := hb ad ha
  refine ⟨ad, ha, fun j v hv => ?_⟩
  have e : ((ad.add (i * sz)).add j).block = ad.block := by rw [add_block, add_block]
  rw [M.cell (by rw [e]; exact hbb.1) (by rw [e]; exact hbb.2)]
  exact hc j v hv
theorem LRow.keep {α : Type} {S : List Nat} {w w' : World} {T sz : Nat} {enc : α → List Value} {s : Sl} {l : List α} (h : LRow w T sz enc s l) (M : Mod S w w') (hS : ∀ ad, s.a = some ad → ad.block ∉ S) : LRow w' T sz enc s l := by
  rcases h with h | ⟨h1, h2, ad, cur, ha, hc⟩
  · exact .inl (h.keep M hS)
  · exact .inr ⟨h1, h2.keepS M fun ad' ha' => by rw [ha] at ha'; cases ha'; exact ⟨lt_of_block hc, hS ad ha⟩, ad, cur, ha, M.keep hc (hS ad ha)⟩
theorem LRow.keep0 {α : Type} {w w' : World} {T sz : Nat} {enc : α → List Value} {s : Sl} {l : List α} (h : LRow w T sz enc s l) (M : Mod [] w w') : LRow w' T sz enc s l := h.keep M (by simp)
/-- The slice that is full behind k. -/
theorem LRow.cut {α : Type} {w : World} {T sz : Nat} {enc : α → List Value} {s : Sl} {l : List α} (h : LRow w T sz enc s l) (hs : ∀ x, (enc x).length = sz) {k : Nat} (hk : k ≤ s.n) : LRow w T sz enc ⟨s.a, k, k⟩ (l.take k) := by
  cases hsa : s.a with
  | none =>
    have h1 := h.sl hs
    have hl : l = [] := by
      cases l with
      | nil => rfl
      | cons x r => obtain ⟨ad, ha, _⟩ := h1.2 0 x rfl; rw [hsa] at ha; cases ha
    have := h1.1
    subst hl
    simp at this
    have hk0 : k = 0 := by omega
    subst hk0
    exact .inl (Row.nil ..)
  | some ad =>
    obtain ⟨cur, hc⟩ := h.block ad hsa
    exact .inr ⟨rfl, by have := (h.sl hs).take hk; rw [hsa] at this; exact this, ad, cur, rfl, hc⟩

/-- What an append leaves: a new row, or the old one's block. -/
def AppL {α : Type} (w w' : World) (T sz : Nat) (enc : α → List Value) (s s' : Sl) (l : List α) : Prop :=
  (Row w' w.heap.size T sz enc s'.a s'.n s'.c l ∧ Mod [] w w') ∨ (s'.a = s.a ∧ LRow w' T sz enc s' l ∧ Mod (rowS s.a) w w')
theorem appendL_of {α : Type} {P : Program} {w : World} {T S sz bytes : Nat} {enc : α → List Value} {s : Sl} {l : List α} {i : TypeInfo} {z : Value} {ty : TypeId} {F : Option Addr → Nat → Nat → World → Prop}
    (h : LRow w T sz enc s l) (ht : P.underlying S = some (.slice T)) (hi : P.info? T = some i) (hz : i.zero = some z) (hsize : i.size = sz) (hby : i.bytes = bytes) (hzs : z.cells.size = sz) (hsz : 0 < sz)
    {a2 : Option Addr} {n2 c2 : Nat} {l2 : List α} (h2 : SlAt w sz enc a2 n2 l2) (hpos : a2 = none ∨ 0 < n2) (hx : ∀ x, (enc x).length = sz) (hone : ∀ x, ∀ u ∈ enc x, u.oneCell' = true) (hlen : (l.length + l2.length) * bytes ≤ 140737488355328) (hl2 : l.length + l2.length ≤ maxLen)
    (hF : ∀ (s' : Sl) w', AppL w w' T sz enc s s' (l ++ l2) → F s'.a s'.n s'.c w') :
    effSl P (Builtin.append_ #[S, S] ty #[.slice s.a s.n s.c, .slice a2 n2 c2]) w F := by
  have h1 := h.sl hx
  have hn := h1.1
  have hcap := h.cap
  cases a2 with
  | none =>
    have hl0 : l2 = [] := by
      cases l2 with
      | nil => rfl
      | cons x r => obtain ⟨ad, ha, _⟩ := h2.2 0 x rfl; cases ha
    subst hl0
    have hn2 : n2 = 0 := h2.1
    subst hn2
    refine ⟨s.a, s.n, s.c, w, ?_, hF s w (.inr ⟨rfl, by simpa using h, (Mod.refl w).less (by simp)⟩)⟩
    rcases h with h | ⟨e, _, ad, cur, ha, _⟩
    · exact append_none w 0 S ty T i sz ht hi _ s.n _ h.2 c2
    · rw [ha]
      simp [Builtin.append_, run_underlying ht, sizeOf, typeInfo, hi, Builtin.lenOf, Builtin.firstCells, hcap, storeCells]
  | some ad2 =>
  have hpos : 0 < n2 := by rcases hpos with h | h; cases h; exact h
  have hll2 := h2.1
  have hf2 : (l2.flatMap enc).length = n2 * sz := by rw [flatMap_len hx, ← hll2]
  have hone2 : ∀ u ∈ l2.flatMap enc, u.oneCell' = true := fun u hu => by obtain ⟨x, _, hx'⟩ := List.mem_flatMap.1 hu; exact hone x u hx'
  have hfl : (l.flatMap enc).length = s.n * sz := by rw [flatMap_len hx, ← hn]
  -- it grows
  have grow : ∀ {b : Addr}, s.a = some b → s.c < s.n + n2 → effSl P (Builtin.append_ #[S, S] ty #[.slice s.a s.n s.c, .slice (some ad2) n2 c2]) w F := fun {b} ha hg => by
    rw [ha] at h1
    obtain ⟨v', w', g1, g2, g3⟩ := run_append_arg_grows w S ty T i z sz bytes ht hi hz hsize hby hzs hsz b s.n s.c (l.flatMap enc) hfl (h1.flat hx) ad2 n2 c2 (l2.flatMap enc) hf2 (h2.flat hx) hg (by omega) (by rw [hn, hll2]; exact hlen)
    have hv : ∃ a' c', v' = .slice a' (s.n + n2) c' := by
      rcases g2.2 with ⟨_, e2⟩ | ⟨g, cap, cur, e1, _⟩
      · omega
      · exact ⟨_, _, e1⟩
    obtain ⟨a', c', rfl⟩ := hv
    rw [ha]
    refine ⟨a', s.n + n2, c', w', g1, hF ⟨a', s.n + n2, c'⟩ w' (.inl ⟨⟨by simp [hn, hll2], by simpa using g2⟩, g3.os, g3.tape, g3.output, g3.size, fun k hk _ => g3.block k hk (by simp)⟩)⟩
  rcases h with h | ⟨e, _, ad, cur, ha, _⟩
  · have hR := h
    obtain ⟨_, ho⟩ := h
    rcases ho.2 with ⟨e1, e2⟩ | ⟨g, cap, cur, e1, _, hg, hnc, hcm, hcs, _⟩
    · -- nil
      simp only [Value.slice.injEq] at e1
      obtain ⟨ea, en, ec⟩ := e1
      have hl0 : l = [] := List.length_eq_zero_iff.1 (by omega)
      subst hl0
      obtain ⟨v', w', g1, g2, g3, _⟩ := run_append_own w w.heap.size S ty T i z sz bytes ht hi hz hsize hby hzs hsz (.slice none 0 0) 0 [] (World.ownsRow_nil ..) ad2 n2 c2 (l2.flatMap enc) hf2 (h2.flat hx) hone2 (by simp at hl2; omega) (by simp at hlen; rw [hll2]; simpa using hlen) (Nat.le_refl _)
      have hv : ∃ a' c', v' = .slice a' n2 c' := by
        rcases g2.2 with ⟨_, e2⟩ | ⟨g, cap, cur, e1, _⟩
        · omega
        · exact ⟨_, _, by rw [e1, Nat.zero_add]⟩
      obtain ⟨a', c', rfl⟩ := hv
      rw [ea, en, ec]
      refine ⟨a', n2, c', w', g1, hF ⟨a', n2, c'⟩ w' (.inl ⟨⟨by simp [hll2], by simpa using g2⟩, g3.os, g3.tape, g3.output, g3.size, fun k hk _ => g3.block k hk (by simp [Value.ownBlock])⟩)⟩
    · simp only [Value.slice.injEq] at e1
      obtain ⟨ea, _, ec⟩ := e1
      by_cases hroom : s.n + n2 ≤ s.c
      · obtain ⟨v', w', g1, g2, g3, _⟩ := run_append_own w 0 S ty T i z sz bytes ht hi hz hsize hby hzs hsz (.slice s.a s.n s.c) s.n (l.flatMap enc) ho ad2 n2 c2 (l2.flatMap enc) hf2 (h2.flat hx) hone2 (by omega) (by rw [hn, hll2]; exact hlen) (Nat.zero_le _)
        have hk : ∀ j, j < (l2.flatMap enc).length → s.n * i.size + j < cur.size := fun j hj => by
          rw [hf2] at hj
          rw [hcs, hsize, ← ec]
          have h1 : (s.n + n2) * sz ≤ s.c * sz := Nat.mul_le_mul_right sz hroom
          rw [Nat.add_mul] at h1
          omega
        have r1 := run_append_room_cells (P := P) w S ty T i ht hi g 0 s.n s.c ad2 n2 c2 (l2.flatMap enc) (by rw [hsize]; exact hf2) (h2.flat hx) hone2 hroom
          (fun j hj => by rw [cell_at hg]; simp [hk j hj]) (fun j hj => by rw [frozen_at hg])
        rw [ea] at g1
        rw [r1] at g1
        simp only [Result.ok.injEq] at g1
        obtain ⟨rfl, rfl⟩ := g1
        rw [ea]
        refine ⟨_, _, _, _, r1, hF ⟨some ⟨g, 0, none⟩, s.n + n2, s.c⟩ _ (.inr ⟨ea.symm, .inl ⟨by simp [hn, hll2], by simpa using g2⟩, g3.os, g3.tape, g3.output, g3.size, fun k hk hkX => g3.block k hk fun e => hkX ?_⟩)⟩
        rw [ea] at e ⊢
        simp [Value.ownBlock] at e
        simp [rowS, e]
      · exact grow ea (by omega)
  · exact grow ha (by omega)

/-! ### calls of one's own -/
theorem OOwn_ok {w : World} {q : CV} (h : OpAt w q.x.op q.rs q.ts) :
    Calls Tryz.prog 99 #[q.v] w fun e w' => ∃ v, e = .returned v ∧ ∃ rs ts : Sl, v = (⟨q.x, rs, ts⟩ : CV).v ∧ OpOwn w' w.heap.size q.x.op rs ts ∧ Mod [] w w' := by
  refine oplog_own_go ?_
  intro b1 f1 b2 f2 w3 A3
  have l1 := A3.lt b1 (by simp)
  have l2 := A3.lt b2 (by simp)
  have s3 := A3.mod.size
  refine (CloneS_ok (s := q.ts) (h.topics.keep0 A3.mod) h.lt).mono ?_
  rintro _ w4 ⟨_, rfl, ts', rfl, hT, M4⟩
  have s4 := M4.size
  refine ⟨_, _, _, rfl, Keep.of0 M4, rfl, ?_⟩
  refine (CloneR_ok (s := q.rs) ((h.recs.keep0 A3.mod).keep0 M4) h.lr).mono ?_
  rintro _ w5 ⟨_, rfl, rs', rfl, hR, M5⟩
  have s5 := M5.size
  refine ⟨_, _, _, rfl, Keep.of0 M5, fun w6 A6 => ?_⟩
  refine ⟨rs', ts', rfl, ?_, ((A3.mod.go0 M4 (by simp)).go0 M5 (by simp)).go0 A6.mod (by simp; omega)⟩
  have hO : OpOwn w5 w3.heap.size q.x.op rs' ts' := ⟨hR.rebase (by omega), hT.keep0 M5, h.lr, h.lt⟩
  exact (hO.keepB A6.mod (by simp; omega)).rebase s3
set_option maxHeartbeats 1000000 in
theorem OAll_ok {w : World} {s : Sl} {ll : List CV} (h : CsAt w s ll) (hl : ll.length ≤ 100000) :
    Calls Tryz.prog 96 #[.slice s.a s.n s.c] w fun e w' => ∃ v, e = .returned v ∧ ∃ (s' : Sl) (l' : List CV), v = .slice s'.a s'.n s'.c ∧ Row w' w.heap.size 57 16 CV.cs s'.a s'.n s'.c l' ∧ (∀ q ∈ l', OpOwn w' w.heap.size q.x.op q.rs q.ts) ∧ l'.map (·.x) = ll.map (·.x) ∧ (ll = [] → s' = nilS) ∧ Mod [] w w' := by
  have hn := h.sl.1
  refine oplog_all_go ?_
  refine oplog_all_rule1 (fun mm a n c x w' => ∃ (k : Nat) (l : List CV), x = k ∧ k ≤ ll.length ∧ Row w' w.heap.size 57 16 CV.cs a n c l ∧ (∀ q ∈ l, OpOwn w' w.heap.size q.x.op q.rs q.ts) ∧ l.map (·.x) = (ll.take k).map (·.x) ∧ Mod [] w w' ∧ (k = 0 → a = none ∧ n = 0 ∧ c = 0) ∧ mm = ll.length - k) ll.length
    ⟨0, [], rfl, by omega, Row.nil .., by simp, by simp, Mod.refl _, fun _ => ⟨rfl, rfl, rfl⟩, rfl⟩ ?_
  rintro mm a n c x w2 ⟨k, l, rfl, hk, hRow, hOw, hlm, M2, hnil, rfl⟩
  have s2 := M2.size
  refine brB_dec (fun hlt => ?_) fun hge => ?_
  · obtain ⟨q, hq⟩ : ∃ q, ll[k]? = some q := ⟨_, List.getElem?_eq_getElem (by omega)⟩
    refine (h.sl.keep0 M2).ix hq fun ad ha => ldCV_of ha ?_
    intro b3 f3 w3 A3
    have l3 := A3.lt b3 (by simp)
    have s3 := A3.mod.size
    refine (OOwn_ok (q := q) ((h.op q (List.mem_of_getElem? hq)).keep0 (M2.go0 A3.mod (by simp)))).mono ?_
    rintro _ w4 ⟨_, rfl, rs', ts', rfl, hO, M4⟩
    have s4 := M4.size
    refine ⟨_, _, _, _, _, _, _, _, _, _, _, _, _, _, _, _, _, _, _, _, rfl, Keep.of0 M4, ?_⟩
    refine al_of fun b7 w7 c7 M7 f7 => ?_
    have s7 := M7.size
    have K7 : Mod [] w2 w7 := (A3.mod.go0 M4 (by simp)).go0 M7 (by simp)
    have hll' : l.length ≤ 100000 := by have := congrArg List.length hlm; simp at this; omega
    obtain ⟨i0, hi, hz0, hz1, hz2⟩ := info_parts infoCall
    refine append_of (x := (⟨q.x, rs', ts'⟩ : CV)) (hRow.keep0 K7) Tryz.underlying39 hi hz0 hz1 hz2 rfl (by decide) c7 rfl (CV.cs_one _) (by omega) (by unfold maxLen; omega) (by omega) fun a' c' w8 hR8 hM8 => ?_
    have M8 := hM8 _ (rowS_ok a)
    have hrow := rowS_block hRow
    have kp : ∀ {o rs ts}, OpOwn w7 w.heap.size o rs ts → OpOwn w8 w.heap.size o rs ts := fun hh => hh.keep M8 fun k hk cs T hc => by
      obtain ⟨_, _, cur, hcur⟩ := hrow k hk
      rw [K7.keep0 hcur] at hc; cases hc; decide
    refine ⟨Keep.of M8 fun b hb _ hb' => ?_, ?_⟩
    · have := hrow b hb'; simp at hb; omega
    refine oplog_all_leaf1 (ll.length - (k + 1)) (by omega) ⟨k + 1, _, by rw [wrap_id (by omega) (by omega)]; omega, by omega, hR8, fun y hy => ?_, ?_, (M2.go0 K7 (by simp)).go0 M8 fun i hi => (hrow i hi).1, fun h => by omega, rfl⟩
    · rcases List.mem_append.1 hy with hy | hy
      · exact kp ((hOw y hy).keep0 K7)
      · simp at hy; subst hy; exact kp ((hO.keep0 M7).rebase (by omega))
    · rw [List.take_add_one, hq, List.map_append, List.map_append, hlm]; rfl
  · have hk' : k = ll.length := by omega
    subst hk'
    rw [List.take_length] at hlm
    refine ⟨⟨a, n, c⟩, l, rfl, hRow, hOw, hlm, fun h0 => ?_, M2⟩
    obtain ⟨rfl, rfl, rfl⟩ := hnil (by rw [h0]; rfl)
    rfl
theorem CloneC_ok {w : World} {s : Sl} {l : List CV} (h : SlAt w 16 CV.cs s.a s.n l) (hl : l.length ≤ 1000000) :
    Calls Tryz.prog 100 #[.slice s.a s.n s.c] w fun e w' => ∃ v, e = .returned v ∧ ∃ s' : Sl, v = .slice s'.a s'.n s'.c ∧ Row w' w.heap.size 57 16 CV.cs s'.a s'.n s'.c l ∧ Mod [] w w' := by
  refine slices_Clone_api_Call_api_Call_go ?_
  refine brB_of (fun h0 => ?_) fun _ => ?_
  · have hl0 : l = [] := by
      cases l with
      | nil => rfl
      | cons x r => obtain ⟨ad, ha, _⟩ := h.2 0 x rfl; rw [ha] at h0; cases h0
    subst hl0
    exact ⟨⟨none, 0, 0⟩, rfl, Row.nil .., Mod.refl _⟩
  · refine al_of fun b w1 c1 M1 f1 => ?_
    obtain ⟨i0, hi, hz0, hz1, hz2⟩ := info_parts infoCall
    refine appendAll_of (Row.fresh c1 f1) Tryz.underlying39 hi hz0 hz1 hz2 rfl (by decide) (h.keep0 M1) CV.cs_len CV.cs_one (by simp; omega) (by simp; unfold maxLen; omega) M1.size fun a' n' c' w2 hR hM => ?_
    exact ⟨⟨a', n', c'⟩, rfl, by simpa using hR, M1.go0 (hM [b] (by simp)) (by simpa using f1)⟩
end Go.Proofs.YtohgihgddknmmaaGreat

/- A log: what its methods do. -/
namespace Go.Proofs.YtohgihgddknmmaaGreat
open Go Go.RowKit
set_option linter.unusedVariables false
set_option linter.unusedSimpArgs false

abbrev LgT : TypeId := 144
def InD (D : Nat → Prop) (a : Option Addr) : Prop := ∀ ad, a = some ad → D ad.block
def OpD (w : World) (D : Nat → Prop) (q : CV) : Prop := OpOwn w 0 q.x.op q.rs q.ts ∧ InD D q.rs.a ∧ InD D q.ts.a
/-- A log's variable; all of it lies in D. -/
def LogIs (w : World) (D : Nat → Prop) (b0 : Nat) (start : Int) (xs : List PCall) : Prop :=
  ∃ (s : Sl) (ll : List CV), w.heap[b0]? = some (.cells #[.int .i64 start, .slice s.a s.n s.c] LgT) ∧ D b0 ∧ LRow w 57 16 CV.cs s ll ∧ InD D s.a ∧ (∀ q ∈ ll, OpD w D q) ∧ ll.map (·.x) = xs
def grD (D : Nat → Prop) (w : World) : Nat → Prop := fun k => D k ∨ w.heap.size ≤ k
/-- Nothing but what is in D was written. -/
def ModD (D : Nat → Prop) (w w' : World) : Prop := ∃ S, Mod S w w' ∧ ∀ k ∈ S, k < w.heap.size → D k
theorem ModD.of0 {D : Nat → Prop} {w w' : World} (M : Mod [] w w') : ModD D w w' := ⟨[], M, by simp⟩
theorem ModD.size {D : Nat → Prop} {w w' : World} (h : ModD D w w') : w.heap.size ≤ w'.heap.size := by obtain ⟨S, M, _⟩ := h; exact M.size
theorem ModD.trans {D D' : Nat → Prop} {a b c : World} (h : ModD D a b) (k : ModD D' b c) (hD : ∀ i, i < a.heap.size → D' i → D i) : ModD D a c := by
  obtain ⟨S, M, hS⟩ := h
  obtain ⟨S', M', hS'⟩ := k
  refine ⟨S ++ S', M.trans M', fun i hi hl => ?_⟩
  rcases List.mem_append.1 hi with hi | hi
  · exact hS i hi hl
  · exact hD i hl (hS' i hi (by have := M.size; omega))
/-- Seen from an older world, of which D has nothing. -/
theorem ModD.new {D : Nat → Prop} {w0 w w' : World} (h : ModD D w w') (M : Mod [] w0 w) (hD : ∀ i, D i → w0.heap.size ≤ i) : Mod [] w0 w' := by
  obtain ⟨S, M', hS⟩ := h
  refine (M.trans M').less fun i hi hl => ?_
  have := hD i (hS i (by simpa using hi) (by have := M.size; omega))
  omega
theorem OpD.keep {w w' : World} {D : Nat → Prop} {q : CV} (h : OpD w D q) (M : ∃ S, Mod S w w' ∧ ∀ k ∈ S, k < w.heap.size → ¬ D k) : OpD w' D q := by
  obtain ⟨S, M, hS⟩ := M
  obtain ⟨h1, h2, h3⟩ := h
  refine ⟨⟨h1.recs.keep M fun ad ha hk => ?_, h1.topics.keep M fun ad ha hk => ?_, h1.lr, h1.lt⟩, h2, h3⟩
  · obtain ⟨_, cur, hc⟩ := h1.recs.block ad ha
    exact hS _ hk (lt_of_block hc) (h2 ad ha)
  · obtain ⟨_, cur, hc⟩ := h1.topics.block ad ha
    exact hS _ hk (lt_of_block hc) (h3 ad ha)
theorem OpD.keepT {w w' : World} {D : Nat → Prop} {q : CV} {S : List Nat} (h : OpD w D q) (M : Mod S w w') (hS : ∀ k ∈ S, ∀ cs T, w.heap[k]? = some (.cells cs T) → T ≠ 149 ∧ T ≠ 9) : OpD w' D q := ⟨h.1.keep M hS, h.2⟩
theorem OpD.more {w : World} {D D' : Nat → Prop} {q : CV} (h : OpD w D q) (hD : ∀ k, k < w.heap.size → D k → D' k) : OpD w D' q := by
  refine ⟨h.1, fun ad ha => ?_, fun ad ha => ?_⟩
  · obtain ⟨_, cur, hc⟩ := h.1.recs.block ad ha
    exact hD _ (lt_of_block hc) (h.2.1 ad ha)
  · obtain ⟨_, cur, hc⟩ := h.1.topics.block ad ha
    exact hD _ (lt_of_block hc) (h.2.2 ad ha)
theorem OpD.of {w : World} {B : Nat} {D : Nat → Prop} {q : CV} (h : OpOwn w B q.x.op q.rs q.ts) (hD : ∀ k, B ≤ k → k < w.heap.size → D k) : OpD w D q := by
  refine ⟨h.rebase (Nat.zero_le _), fun ad ha => ?_, fun ad ha => ?_⟩
  · obtain ⟨hb, cur, hc⟩ := h.recs.block ad ha
    exact hD _ hb (lt_of_block hc)
  · obtain ⟨hb, cur, hc⟩ := h.topics.block ad ha
    exact hD _ hb (lt_of_block hc)
theorem LogIs.keep {w w' : World} {D : Nat → Prop} {b0 : Nat} {start : Int} {xs : List PCall} (h : LogIs w D b0 start xs) (M : ∃ S, Mod S w w' ∧ ∀ k ∈ S, k < w.heap.size → ¬ D k) : LogIs w' D b0 start xs := by
  have M0 := M
  obtain ⟨S, M, hS⟩ := M
  obtain ⟨s, ll, h1, h2, h3, h4, h5, h6⟩ := h
  refine ⟨s, ll, M.keep h1 fun hk => hS _ hk (lt_of_block h1) h2, h2, h3.keep M fun ad ha hk => ?_, h4, fun q hq => (h5 q hq).keep M0, h6⟩
  obtain ⟨cur, hc⟩ := h3.block ad ha
  exact hS _ hk (lt_of_block hc) (h4 ad ha)
theorem LogIs.keep0 {w w' : World} {D : Nat → Prop} {b0 : Nat} {start : Int} {xs : List PCall} (h : LogIs w D b0 start xs) (M : Mod [] w w') : LogIs w' D b0 start xs := h.keep ⟨[], M, by simp⟩
theorem LogIs.more {w : World} {D D' : Nat → Prop} {b0 : Nat} {start : Int} {xs : List PCall} (h : LogIs w D b0 start xs) (hD : ∀ k, k < w.heap.size → D k → D' k) : LogIs w D' b0 start xs := by
  obtain ⟨s, ll, h1, h2, h3, h4, h5, h6⟩ := h
  refine ⟨s, ll, h1, hD _ (lt_of_block h1) h2, h3, fun ad ha => ?_, fun q hq => (h5 q hq).more hD, h6⟩
  obtain ⟨cur, hc⟩ := h3.block ad ha
  exact hD _ (lt_of_block hc) (h4 ad ha)
theorem LogIs.lt {w : World} {D : Nat → Prop} {b0 : Nat} {start : Int} {xs : List PCall} (h : LogIs w D b0 start xs) : b0 < w.heap.size ∧ D b0 := by
  obtain ⟨s, ll, h1, h2, _⟩ := h; exact ⟨lt_of_block h1, h2⟩
theorem LRow.len {w : World} {s : Sl} {ll : List CV} (h : LRow w 57 16 CV.cs s ll) : s.n = ll.length := (h.sl CV.cs_len).1
theorem LRow.cs {w : World} {D : Nat → Prop} {s : Sl} {ll : List CV} (h : LRow w 57 16 CV.cs s ll) (h5 : ∀ q ∈ ll, OpD w D q) : CsAt w s ll := ⟨h.sl CV.cs_len, fun q hq => (h5 q hq).1.at⟩

/-! ### the methods -/
def LB (start : Int) (xs : List PCall) : Prop := 0 ≤ start ∧ start ≤ 1099511627776 ∧ xs.length ≤ 100000
def atE (start : Int) (len : Nat) (n : Int) : Int := if n < start then 161 else if n > start + (len : Int) then 160 else 0
theorem last_ok {w : World} {b0 : Nat} {start : Int} {s : Sl} (h1 : w.heap[b0]? = some (.cells #[.int .i64 start, .slice s.a s.n s.c] LgT)) (hs : 0 ≤ start ∧ start ≤ 1099511627776) (hn : s.n ≤ 1000000) :
    Calls Tryz.prog 98 #[.pointer (some ⟨b0, 0, none⟩)] w fun e w' => e = .returned (.int .i64 (start + (s.n : Nat))) ∧ w'.heap[b0]? = some (.cells #[.int .i64 start, .slice s.a s.n s.c] LgT) ∧ Mod [] w w' := by
  refine go_of (oplog_Log_last_go h1 ?_)
  intro w1 A1 h2
  exact ⟨by rw [wrap_id (by omega) (by omega)], h2, A1.mod⟩
theorem at_ok {w : World} {b0 : Nat} {start : Int} {s : Sl} (h1 : w.heap[b0]? = some (.cells #[.int .i64 start, .slice s.a s.n s.c] LgT)) (hs : 0 ≤ start ∧ start ≤ 1099511627776) (hn : s.n ≤ 1000000) (n : Int) :
    Calls Tryz.prog 97 #[.pointer (some ⟨b0, 0, none⟩), .int .i64 n] w fun e w' => e = .returned (.int .i64 (atE start s.n n)) ∧ w'.heap[b0]? = some (.cells #[.int .i64 start, .slice s.a s.n s.c] LgT) ∧ Mod [] w w' := by
  refine go_of (oplog_Log_at_go h1 ?_)
  refine brB_dec (fun g => fun w1 A1 h2 => ⟨by rw [atE, if_pos g], h2, A1.mod⟩) fun g => ?_
  intro w1 A1 h2
  refine (last_ok h2 hs hn).mono ?_
  rintro _ w2 ⟨rfl, h3, M2⟩
  have N2 := A1.mod.go0 M2 (by simp)
  refine ⟨_, rfl, _, _, _, _, h3, brB_dec (fun g2 => ⟨by rw [atE, if_neg g, if_pos g2], h3, N2⟩) fun g2 => ⟨by rw [atE, if_neg g, if_neg g2], h3, N2⟩⟩
theorem atE_ok {start : Int} {len : Nat} {n : Int} : atE start len n = 0 ↔ start ≤ n ∧ n ≤ start + (len : Int) := by
  unfold atE
  constructor
  · intro h
    split at h
    · omega
    · split at h <;> omega
  · intro h
    rw [if_neg (by omega), if_neg (by omega)]
theorem Span_ok {w : World} {D : Nat → Prop} {b0 : Nat} {start : Int} {xs : List PCall} (h : LogIs w D b0 start xs) (hb : LB start xs) :
    Calls Tryz.prog 40 #[.pointer (some ⟨b0, 0, none⟩)] w fun e w' => e = .returned (.tuple #[.int .i64 start, .int .i64 (start + (xs.length : Nat))]) ∧ Mod [] w w' := by
  obtain ⟨s, ll, h1, h2, h3, h4, h5, rfl⟩ := h
  obtain ⟨b1, b2, b3⟩ := hb
  have hn := h3.len
  simp at b3
  refine go_of (oplog_Log_Span_go h1 ?_)
  intro w1 A1 h21
  refine (last_ok h21 ⟨b1, b2⟩ (by omega)).mono ?_
  rintro _ w2 ⟨rfl, h31, M2⟩
  exact ⟨_, rfl, _, _, _, _, h31, rfl, by rw [hn]; simp, A1.mod.go0 M2 (by simp)⟩
theorem ONew_ok (w : World) : Calls Tryz.prog 41 #[] w fun e w' => ∃ v, e = .returned v ∧ ∃ b0, v = .pointer (some ⟨b0, 0, none⟩) ∧ LogIs w' (fun k => w.heap.size ≤ k) b0 0 [] ∧ Mod [] w w' := by
  refine oplog_New_go ?_
  intro b1 f1 w2 A2 h2
  exact ⟨b1, rfl, ⟨nilS, [], h2, f1, .inl (Row.nil ..), fun ad ha => (by cases ha), by simp, rfl⟩, A2.mod⟩
def loadE (start : Int) (xs : List PCall) : Int := if start < 0 ∨ start > 1099511627776 ∨ (xs.length : Int) > 1099511627776 - start then 1 else checkE xs
theorem Load_ok {w : World} {start : Int} {s : Sl} {ll : List CV} (h : CsAt w s ll) (hl : ll.length ≤ 100000) :
    Calls Tryz.prog 37 #[.int .i64 start, .slice s.a s.n s.c] w fun e w' => ∃ v, e = .returned v ∧
      (if loadE start (ll.map (·.x)) = 0 then ∃ b0, v = .tuple #[.pointer (some ⟨b0, 0, none⟩), .int .i64 0] ∧ w.heap.size ≤ b0 ∧ ∃ (s' : Sl) (l' : List CV), w'.heap[b0]? = some (.cells #[.int .i64 start, .slice s'.a s'.n s'.c] LgT) ∧ Row w' w.heap.size 57 16 CV.cs s'.a s'.n s'.c l' ∧ (∀ q ∈ l', OpOwn w' w.heap.size q.x.op q.rs q.ts) ∧ l'.map (·.x) = ll.map (·.x) ∧ (ll = [] → s' = nilS)
      else v = .tuple #[.pointer none, .int .i64 (loadE start (ll.map (·.x)))]) ∧ Mod [] w w' := by
  have hn := h.sl.1
  have el : (ll.map (·.x)).length = ll.length := by simp
  refine oplog_Load_go ?_
  have bad : ∀ {X : Prop}, loadE start (ll.map (·.x)) = 1 → (if loadE start (ll.map (·.x)) = 0 then X else Value.tuple #[.pointer none, .int .i64 1] = .tuple #[.pointer none, .int .i64 (loadE start (ll.map (·.x)))]) := fun {X} e => by
    rw [if_neg (by rw [e]; decide), e]
  refine brB_dec (fun g => ⟨bad (by rw [loadE, if_pos (.inl g)]), Mod.refl _⟩) fun g1 => ?_
  refine brB_dec (fun g => ⟨bad (by rw [loadE, if_pos (.inr (.inl g))]), Mod.refl _⟩) fun g2 => ?_
  rw [wrap_id (x := 1099511627776 - start) (by omega) (by omega)]
  refine brB_dec (fun g => ⟨bad (by rw [loadE, if_pos (.inr (.inr (by rw [el]; omega)))]), Mod.refl _⟩) fun g3 => ?_
  have hE : loadE start (ll.map (·.x)) = checkE (ll.map (·.x)) := by rw [loadE, if_neg (by rw [el]; omega)]
  refine (Checked_ok h (by omega)).mono ?_
  rintro _ w1 ⟨rfl, M1⟩
  refine ⟨_, rfl, brB_of (fun g => ?_) fun g => ?_⟩
  · have g : checkE (ll.map (·.x)) ≠ 0 := by simpa using g
    show _ ∧ _
    rw [hE, if_neg g]
    exact ⟨rfl, M1⟩
  have g : checkE (ll.map (·.x)) = 0 := by simpa using g
  have s1 := M1.size
  refine (OAll_ok (h.keep0 M1) hl).mono ?_
  rintro _ w2 ⟨_, rfl, s', l', rfl, hR, hO, hm, h0, M2⟩
  have s2 := M2.size
  refine ⟨_, _, _, rfl, fun b7 f7 w3 A3 h3 => ?_⟩
  show _ ∧ _
  rw [hE, if_pos g]
  exact ⟨⟨b7, rfl, by omega, s', l', h3, (hR.keep0 A3.mod).rebase s1, fun q hq => ((hO q hq).keep0 A3.mod).rebase s1, hm, h0⟩, (M1.go0 M2 (by simp)).go0 A3.mod (by simp)⟩
def putE (start : Int) (len : Nat) (x : PCall) : Int := if checkE [x] ≠ 0 then checkE [x] else if start + (len : Int) ≥ 1099511627776 then 2 else 0
set_option maxHeartbeats 1000000 in
theorem OPut_ok {w : World} {D : Nat → Prop} {b0 : Nat} {start : Int} {xs : List PCall} (h : LogIs w D b0 start xs) (hb : LB start xs) {q : CV} (hq : OpAt w q.x.op q.rs q.ts) :
    Calls Tryz.prog 42 #[.pointer (some ⟨b0, 0, none⟩), q.v] w fun e w' =>
      e = .returned (if putE start xs.length q.x = 0 then .tuple #[.int .i64 (start + (xs.length : Nat) + 1), .int .i64 0] else .tuple #[.int .i64 0, .int .i64 (putE start xs.length q.x)]) ∧
      LogIs w' (grD D w) b0 start (if putE start xs.length q.x = 0 then xs ++ [q.x] else xs) ∧ ModD D w w' ∧ (putE start xs.length q.x ≠ 0 → Mod [] w w') := by
  have h0 := h
  obtain ⟨s, ll, h1, h2, h3, h4, h5, rfl⟩ := h
  obtain ⟨bb1, bb2, bb3⟩ := hb
  have hn := h3.len
  have el : (ll.map (·.x)).length = ll.length := by simp
  rw [el] at bb3 ⊢
  have lt0 := lt_of_block h1
  refine go_of (oplog_Log_Put_go h1 ?_)
  intro b1 f1 w2 A2
  have l1 := A2.lt b1 (by simp)
  have s2 := A2.mod.size
  refine al_of fun b3 w4 c4 M4 f4 => ?_
  have s4 := M4.size
  have N4 := A2.mod.go0 M4 (by simp)
  have hC : CsAt w4 ⟨some ⟨b3, 0, none⟩, 1, 1⟩ [q] := ⟨SlAt.one (enc := CV.cs) (x := q) (T := 57) c4, fun y hy => by simp at hy; subst hy; exact hq.keep0 N4⟩
  refine (Checked_ok hC (by simp)).mono ?_
  rintro _ w5 ⟨rfl, M5⟩
  have s5 := M5.size
  have N5 := N4.go0 M5 (by simp)
  refine ⟨_, rfl, Keep.of0 M5, ?_⟩
  have bad : ∀ {w' : World}, Mod [] w w' → putE start ll.length q.x ≠ 0 → (Value.tuple #[.int .i64 0, .int .i64 (putE start ll.length q.x)] = if putE start ll.length q.x = 0 then .tuple #[.int .i64 (start + (ll.length : Nat) + 1), .int .i64 0] else .tuple #[.int .i64 0, .int .i64 (putE start ll.length q.x)]) ∧
      LogIs w' (grD D w) b0 start (if putE start ll.length q.x = 0 then ll.map (·.x) ++ [q.x] else ll.map (·.x)) ∧ ModD D w w' ∧ (putE start ll.length q.x ≠ 0 → Mod [] w w') := fun {w'} M hne => by
    rw [if_neg hne, if_neg hne]
    exact ⟨rfl, (h0.keep0 M).more fun k _ hk => .inl hk, ModD.of0 M, fun _ => M⟩
  have hmap : checkE ([q].map (·.x)) = checkE [q.x] := rfl
  refine brB_of (fun g => ?_) fun g => ?_
  · have g : checkE [q.x] ≠ 0 := by simpa using g
    have e : putE start ll.length q.x = checkE [q.x] := by rw [putE, if_pos g]
    intro w6 A6 _
    rw [hmap, ← e]
    exact bad (N5.go0 A6.mod (by simp)) (by rw [e]; exact g)
  have g : checkE [q.x] = 0 := by simpa using g
  intro w6 A6 h6
  have s6 := A6.mod.size
  refine (last_ok h6 ⟨bb1, bb2⟩ (by omega)).mono ?_
  rintro _ w7 ⟨rfl, h7, M7⟩
  have s7 := M7.size
  have N7 := (N5.go0 A6.mod (by simp)).go0 M7 (by simp)
  refine ⟨_, rfl, Keep.of0 M7, _, _, _, _, h7, ?_⟩
  refine brB_dec (fun g2 => ?_) fun g2 => ?_
  · have e : putE start ll.length q.x = 2 := by rw [putE, if_neg (by simpa using g), if_pos (by omega)]
    have := bad N7 (by rw [e]; decide)
    rw [e] at this ⊢
    exact this
  have hpe : putE start ll.length q.x = 0 := by rw [putE, if_neg (by simpa using g), if_neg (by omega)]
  rw [if_pos hpe, if_pos hpe]
  intro w8 A8 h8
  have s8 := A8.mod.size
  have N8 := N7.go0 A8.mod (by simp)
  refine (OOwn_ok (q := q) (hq.keep0 N8)).mono ?_
  rintro _ w9 ⟨_, rfl, rs', ts', rfl, hO, M9⟩
  have s9 := M9.size
  refine ⟨_, _, _, _, _, _, _, _, _, _, _, _, _, _, _, _, _, _, _, _, rfl, Keep.of0 M9, _, _, _, _, M9.keep0 h8, rfl, ?_⟩
  refine al_of fun b41 w10 c10 M10 f10 => ?_
  have s10 := M10.size
  have N10 := (N8.go0 M9 (by simp)).go0 M10 (by simp)
  have h10 := M10.keep0 (M9.keep0 h8)
  obtain ⟨i0, hi, hz0, hz1, hz2⟩ := info_parts infoCall
  refine appendL_of (h3.keep0 N10) Tryz.underlying39 hi hz0 hz1 hz2 rfl (by decide) (l2 := [(⟨q.x, rs', ts'⟩ : CV)]) (SlAt.one c10) (.inr (by omega)) CV.cs_len CV.cs_one (by simp; omega) (by simp; unfold maxLen; omega) fun s' w11 hA => ?_
  have sz11 : w10.heap.size ≤ w11.heap.size := by rcases hA with ⟨_, M⟩ | ⟨_, _, M⟩ <;> exact M.size
  have hrow : ∀ k ∈ rowS s.a, k < w10.heap.size ∧ (∃ cur, w10.heap[k]? = some (.cells cur 57)) ∧ k < w.heap.size ∧ D k := fun k hk => by
    cases hsa : s.a with
    | none => rw [hsa] at hk; simp [rowS] at hk
    | some ad =>
      rw [hsa] at hk
      simp [rowS] at hk
      subst hk
      obtain ⟨cur, hc⟩ := h3.block ad hsa
      exact ⟨lt_of_block (N10.keep0 hc), ⟨cur, N10.keep0 hc⟩, lt_of_block hc, h4 ad hsa⟩
  have M11 : Mod (rowS s.a) w10 w11 := by
    rcases hA with ⟨_, M⟩ | ⟨_, _, M⟩
    · exact M.less (by simp)
    · exact M
  have hb0r : b0 ∉ rowS s.a := fun hk => by
    obtain ⟨_, ⟨cur, hc⟩, _⟩ := hrow b0 hk
    rw [h10] at hc; cases hc
  refine ⟨Keep.of M11 fun b hb _ hb' => ?_, fun w12 A12 h12 => ?_⟩
  · have := hrow b hb'
    simp at hb
    rcases hb with rfl | rfl
    · exact hb0r hb'
    · omega
  have s12 := A12.mod.size
  refine (last_ok (s := s') h12 ⟨bb1, bb2⟩ ?_).mono ?_
  · rcases hA with ⟨hR, _⟩ | ⟨_, hR, _⟩
    · have := (hR.sl CV.cs_len).1; simp at this; omega
    · have := hR.len; simp at this; omega
  rintro _ w13 ⟨rfl, h13, M13⟩
  have hsn : s'.n = ll.length + 1 := by
    rcases hA with ⟨hR, _⟩ | ⟨_, hR, _⟩
    · have := (hR.sl CV.cs_len).1; simpa using this
    · have := hR.len; simpa using this
  have hfin : ModD D w w13 := by
    refine ⟨[] ++ rowS s.a ++ [b0] ++ [], ((N10.trans M11).trans A12.mod).trans M13, fun k hk hl => ?_⟩
    simp at hk
    rcases hk with hk | rfl
    · exact (hrow k hk).2.2.2
    · exact h2
  refine ⟨_, rfl, Keep.of0 M13, _, _, _, _, h13, ?_, ?_, hfin, fun hne => absurd hpe hne⟩
  · have e : start + ((ll.length + 1 : Nat) : Int) = start + (ll.length : Nat) + 1 := by omega
    rw [hsn, e]
  · have bne : ∀ {ad : Addr}, s'.a = some ad → ad.block ≠ b0 := fun {ad} ha e => by
      rcases hA with ⟨hR, _⟩ | ⟨e1, hR, _⟩
      · have := (hR.block ad ha).1; omega
      · obtain ⟨cur, hc⟩ := hR.block ad ha
        have h11 := M11.keep h10 hb0r
        rw [e, h11] at hc; cases hc
    have hL13 : LRow w13 57 16 CV.cs s' (ll ++ [⟨q.x, rs', ts'⟩]) := by
      have hL11 : LRow w11 57 16 CV.cs s' (ll ++ [⟨q.x, rs', ts'⟩]) := by
        rcases hA with ⟨hR, _⟩ | ⟨_, hR, _⟩
        · exact .inl (hR.rebase (Nat.zero_le _))
        · exact hR
      exact (hL11.keep A12.mod fun ad ha hk => bne ha (by simpa using hk)).keep0 M13
    have tk : ∀ k ∈ rowS s.a ++ [b0] ++ [], ∀ cs T, w10.heap[k]? = some (.cells cs T) → T ≠ 149 ∧ T ≠ 9 := fun k hk cs T hc => by
      simp at hk
      rcases hk with hk | rfl
      · obtain ⟨_, ⟨cur, hcur⟩, _⟩ := hrow k hk
        rw [hcur] at hc; cases hc; decide
      · rw [h10] at hc; cases hc; decide
    have M1013 := (M11.trans A12.mod).trans M13
    have hI : InD (grD D w) s'.a := fun ad ha => by
      rcases hA with ⟨hR, _⟩ | ⟨e1, hR, _⟩
      · have := (hR.block ad ha).1
        exact Or.inr (by omega)
      · rw [e1] at ha
        exact Or.inl (h4 ad ha)
    have hO2 : ∀ y ∈ ll ++ [(⟨q.x, rs', ts'⟩ : CV)], OpD w13 (grD D w) y := fun y hy => by
      rcases List.mem_append.1 hy with hy | hy
      · exact (((h5 y hy).keep ⟨[], N10, by simp⟩).keepT M1013 tk).more fun k _ hk => Or.inl hk
      · simp at hy; subst hy
        exact OpD.of ((hO.keep0 M10).keep M1013 tk) fun k hk _ => Or.inr (by omega)
    exact ⟨s', ll ++ [(⟨q.x, rs', ts'⟩ : CV)], h13, Or.inl h2, hL13, hI, hO2, by rw [List.map_append]; rfl⟩
end Go.Proofs.YtohgihgddknmmaaGreat

/- A log: the rest of its methods. -/
namespace Go.Proofs.YtohgihgddknmmaaGreat
open Go Go.RowKit
set_option linter.unusedVariables false
set_option linter.unusedSimpArgs false

theorem addr_zero (a : Addr) : a.add 0 = a := by unfold Addr.add; split <;> simp_all
theorem slV_cut {a : Option Addr} {c k : Nat} {F : Option Addr → Nat → Nat → Prop} (hk : k ≤ c) (hF : F a k k) : slV a c 0 (k : Int) (k : Int) 16 F := by
  refine ⟨by omega, by omega, by omega, by omega, ?_⟩
  have e1 : ((k : Int) - 0).toNat = k := by omega
  have e2 : (a.map fun x => x.add (Int.toNat 0 * 16)) = a := by
    cases a with
    | none => rfl
    | some ad => show some (ad.add 0) = _; rw [addr_zero]
  rw [e1, e2]
  split <;> exact hF
def getE (start : Int) (len : Nat) (n : Int) : Int := if n = start then 161 else atE start len n
theorem OGet_ok {w : World} {D : Nat → Prop} {b0 : Nat} {start : Int} {xs : List PCall} (h : LogIs w D b0 start xs) (hb : LB start xs) (n : Int) :
    Calls Tryz.prog 44 #[.pointer (some ⟨b0, 0, none⟩), .int .i64 n] w fun e w' => ∃ v, e = .returned v ∧
      (if getE start xs.length n = 0 then ∃ q : CV, v = .tuple #[q.v, .int .i64 0] ∧ xs[(n - start - 1).toNat]? = some q.x ∧ OpOwn w' w.heap.size q.x.op q.rs q.ts
      else v = .tuple #[(⟨⟨0, 0, op0⟩, nilS, nilS⟩ : CV).v, .int .i64 (getE start xs.length n)]) ∧ Mod [] w w' := by
  obtain ⟨s, ll, h1, h2, h3, h4, h5, rfl⟩ := h
  obtain ⟨bb1, bb2, bb3⟩ := hb
  have hn := h3.len
  have el : (ll.map (·.x)).length = ll.length := by simp
  rw [el] at bb3 ⊢
  refine oplog_Log_Get_go h1 ?_
  intro b1 f1 w2 A2 h12
  have l1 := A2.lt b1 (by simp)
  have s2 := A2.mod.size
  refine (at_ok h12 ⟨bb1, bb2⟩ (by omega) n).mono ?_
  rintro _ w3 ⟨rfl, h13, M3⟩
  have s3 := M3.size
  have N3 := A2.mod.go0 M3 (by simp)
  refine ⟨_, rfl, Keep.of0 M3, _, _, _, _, h13, ?_⟩
  refine brB_of (fun g => ?_) fun g => ?_
  · have g : n = start := by simpa using g
    have e : getE start ll.length n = 161 := by rw [getE, if_pos g]
    intro w4 A4 _
    show _ ∧ _
    rw [e, if_neg (by decide)]
    exact ⟨rfl, N3.go0 A4.mod (by simpa using f1)⟩
  have g : ¬ n = start := by simpa using g
  have e : getE start ll.length n = atE start ll.length n := by rw [getE, if_neg g]
  rw [hn]
  refine brB_of (fun g2 => ?_) fun g2 => ?_
  · have g2 : atE start ll.length n ≠ 0 := by simpa using g2
    intro w4 A4 _
    show _ ∧ _
    rw [e, if_neg g2]
    exact ⟨rfl, N3.go0 A4.mod (by simpa using f1)⟩
  have g2 : atE start ll.length n = 0 := by simpa using g2
  have hr := atE_ok.1 g2
  obtain ⟨k, hk⟩ : ∃ k : Nat, n - start - 1 = k := ⟨(n - start - 1).toNat, by omega⟩
  have hk2 : k < ll.length := by omega
  obtain ⟨q, hq⟩ : ∃ q, ll[k]? = some q := ⟨_, List.getElem?_eq_getElem hk2⟩
  have ew : IntKind.wrap .i64 (IntKind.wrap .i64 (n - start) - 1) = (k : Int) := by rw [wrap_id (x := n - start) (by omega) (by omega), wrap_id (by omega) (by omega)]; omega
  rw [ew, ← hn]
  have hcs := h3.cs h5
  refine (hcs.sl.keep0 N3).ixW hq fun ad had => ?_
  intro w4 A4 h14
  refine ldCV_of (had w4 A4.mod) ?_
  have s4 := A4.mod.size
  have N4 := N3.go0 A4.mod (by simp)
  refine (OOwn_ok (q := q) ((h5 q (List.mem_of_getElem? hq)).1.at.keep0 N4)).mono ?_
  rintro _ w5 ⟨_, rfl, rs', ts', rfl, hO, M5⟩
  have s5 := M5.size
  refine ⟨_, _, _, _, _, _, _, _, _, _, _, _, _, _, _, _, _, _, _, _, rfl, Keep.of0 M5, _, _, _, _, M5.keep0 h14, fun w6 A6 _ => ?_⟩
  show _ ∧ _
  rw [hn, e, if_pos g2]
  have ek : (n - start - 1).toNat = k := by omega
  exact ⟨⟨⟨q.x, rs', ts'⟩, rfl, by rw [ek, List.getElem?_map, hq]; rfl, (hO.keepB A6.mod (by simp; omega)).rebase (by omega)⟩, (N4.go0 M5 (by simp)).go0 A6.mod (by simpa using f1)⟩
theorem CsAt.dropN {w : World} {s s' : Sl} {ll : List CV} {k : Nat} (h : CsAt w s ll) (hs : SlAt w 16 CV.cs s'.a s'.n (ll.drop k)) : CsAt w s' (ll.drop k) := ⟨hs, fun q hq => h.op q (List.mem_of_mem_drop hq)⟩
theorem Since_ok {w : World} {D : Nat → Prop} {b0 : Nat} {start : Int} {xs : List PCall} (h : LogIs w D b0 start xs) (hb : LB start xs) (n : Int) :
    Calls Tryz.prog 38 #[.pointer (some ⟨b0, 0, none⟩), .int .i64 n] w fun e w' => ∃ v, e = .returned v ∧
      (if atE start xs.length n = 0 then ∃ s' : Sl, v = .tuple #[.slice s'.a s'.n s'.c, .int .i64 0] ∧ CallsOwn w' w.heap.size s' (xs.drop (n - start).toNat)
      else v = .tuple #[.slice none 0 0, .int .i64 (atE start xs.length n)]) ∧ Mod [] w w' := by
  obtain ⟨s, ll, h1, h2, h3, h4, h5, rfl⟩ := h
  obtain ⟨bb1, bb2, bb3⟩ := hb
  have hn := h3.len
  have el : (ll.map (·.x)).length = ll.length := by simp
  rw [el] at bb3 ⊢
  refine oplog_Log_Since_go h1 ?_
  intro w2 A2 h12
  refine (at_ok h12 ⟨bb1, bb2⟩ (by omega) n).mono ?_
  rintro _ w3 ⟨rfl, h13, M3⟩
  have N3 := A2.mod.go0 M3 (by simp)
  refine ⟨_, rfl, _, _, _, _, h13, ?_⟩
  rw [hn]
  refine brB_of (fun g2 => ?_) fun g2 => ?_
  · have g2 : atE start ll.length n ≠ 0 := by simpa using g2
    show _ ∧ _
    rw [if_neg g2]
    exact ⟨rfl, N3⟩
  have g2 : atE start ll.length n = 0 := by simpa using g2
  have hr := atE_ok.1 g2
  obtain ⟨k, hk⟩ : ∃ k : Nat, n - start = k := ⟨(n - start).toNat, by omega⟩
  have ew : IntKind.wrap .i64 (n - start) = (k : Int) := by rw [wrap_id (by omega) (by omega)]; omega
  rw [ew, ← hn]
  have hcs := (h3.cs h5).keep0 N3
  refine slV_drop hcs.sl (by omega) h3.cap fun a' c' hS => ?_
  intro w4 A4 h14
  have N4 := N3.go0 A4.mod (by simp)
  have s4 := N4.size
  refine (OAll_ok (s := ⟨a', s.n - k, c'⟩) ((hcs.dropN (s' := ⟨a', s.n - k, c'⟩) hS).keep0 A4.mod) (by rw [List.length_drop]; omega)).mono ?_
  rintro _ w5 ⟨_, rfl, s', l', rfl, hR, hO, hm, _, M5⟩
  refine ⟨_, _, _, rfl, _, _, _, _, M5.keep0 h14, ?_⟩
  show _ ∧ _
  rw [hn, if_pos g2]
  have ek : (n - start).toNat = k := by omega
  exact ⟨⟨s', rfl, l', hR.rebase s4, fun q hq => (hO q hq).rebase s4, by rw [hm, ek, List.map_drop]⟩, N4.go0 M5 (by simp)⟩
theorem OCut_ok {w : World} {D : Nat → Prop} {b0 : Nat} {start : Int} {xs : List PCall} (h : LogIs w D b0 start xs) (hb : LB start xs) (n : Int) :
    Calls Tryz.prog 45 #[.pointer (some ⟨b0, 0, none⟩), .int .i64 n] w fun e w' => e = .returned (.int .i64 (atE start xs.length n)) ∧
      LogIs w' D b0 start (if atE start xs.length n = 0 then xs.take (n - start).toNat else xs) ∧ Mod [b0] w w' := by
  have h0 := h
  obtain ⟨s, ll, h1, h2, h3, h4, h5, rfl⟩ := h
  obtain ⟨bb1, bb2, bb3⟩ := hb
  have hn := h3.len
  have el : (ll.map (·.x)).length = ll.length := by simp
  rw [el] at bb3 ⊢
  refine go_of (oplog_Log_Cut_go h1 ?_)
  intro w2 A2 h12
  refine (at_ok h12 ⟨bb1, bb2⟩ (by omega) n).mono ?_
  rintro _ w3 ⟨rfl, h13, M3⟩
  have N3 := A2.mod.go0 M3 (by simp)
  refine ⟨_, rfl, _, _, _, _, h13, ?_⟩
  rw [hn]
  refine brB_of (fun g2 => ?_) fun g2 => ?_
  · have g2 : atE start ll.length n ≠ 0 := by simpa using g2
    rw [if_neg g2]
    exact ⟨rfl, h0.keep0 N3, N3.less (by simp)⟩
  have g2 : atE start ll.length n = 0 := by simpa using g2
  rw [if_pos g2, g2]
  have hr := atE_ok.1 g2
  obtain ⟨k, hk⟩ : ∃ k : Nat, n - start = k := ⟨(n - start).toNat, by omega⟩
  have ew : IntKind.wrap .i64 (n - start) = (k : Int) := by rw [wrap_id (by omega) (by omega)]; omega
  have ek : (n - start).toNat = k := by omega
  rw [ew, ek]
  refine slV_cut (by have := h3.cap; omega) fun w4 A4 h14 => ?_
  have hL : LRow w4 57 16 CV.cs ⟨s.a, k, k⟩ (ll.take k) := ((h3.keep0 N3).keep A4.mod fun ad ha hk => by
    obtain ⟨cur, hc⟩ := (h3.keep0 N3).block ad ha
    simp at hk; rw [hk, h13] at hc; cases hc).cut CV.cs_len (by omega)
  refine ⟨rfl, ⟨⟨s.a, k, k⟩, ll.take k, h14, h2, hL, h4, fun q hq => ?_, by rw [List.map_take]⟩, (N3.trans A4.mod).less (by simp)⟩
  exact ((h5 q (List.mem_of_mem_take hq)).keep ⟨[], N3, by simp⟩).keepT A4.mod fun k hk cs T hc => by simp at hk; subst hk; rw [h13] at hc; cases hc; decide
theorem ODrop_ok {w : World} {D : Nat → Prop} {b0 : Nat} {start : Int} {xs : List PCall} (h : LogIs w D b0 start xs) (hb : LB start xs) (n : Int) :
    Calls Tryz.prog 43 #[.pointer (some ⟨b0, 0, none⟩), .int .i64 n] w fun e w' => e = .returned (.int .i64 (atE start xs.length n)) ∧
      LogIs w' (grD D w) b0 (if atE start xs.length n = 0 then n else start) (if atE start xs.length n = 0 then xs.drop (n - start).toNat else xs) ∧ Mod [b0] w w' := by
  have h0 := h
  obtain ⟨s, ll, h1, h2, h3, h4, h5, rfl⟩ := h
  obtain ⟨bb1, bb2, bb3⟩ := hb
  have hn := h3.len
  have lt0 := lt_of_block h1
  have el : (ll.map (·.x)).length = ll.length := by simp
  rw [el] at bb3 ⊢
  refine go_of (oplog_Log_Drop_go h1 ?_)
  intro w2 A2 h12
  refine (at_ok h12 ⟨bb1, bb2⟩ (by omega) n).mono ?_
  rintro _ w3 ⟨rfl, h13, M3⟩
  have N3 := A2.mod.go0 M3 (by simp)
  refine ⟨_, rfl, _, _, _, _, h13, ?_⟩
  rw [hn]
  refine brB_of (fun g2 => ?_) fun g2 => ?_
  · have g2 : atE start ll.length n ≠ 0 := by simpa using g2
    rw [if_neg g2, if_neg g2]
    exact ⟨rfl, (h0.keep0 N3).more fun k _ hk => Or.inl hk, N3.less (by simp)⟩
  have g2 : atE start ll.length n = 0 := by simpa using g2
  rw [if_pos g2, if_pos g2, g2]
  have hr := atE_ok.1 g2
  obtain ⟨k, hk⟩ : ∃ k : Nat, n - start = k := ⟨(n - start).toNat, by omega⟩
  have ew : IntKind.wrap .i64 (n - start) = (k : Int) := by rw [wrap_id (by omega) (by omega)]; omega
  have ek : (n - start).toNat = k := by omega
  rw [ew, ek, ← hn]
  have hcs := (h3.cs h5).keep0 N3
  refine slV_drop hcs.sl (by omega) h3.cap fun a' c' hS => ?_
  intro w4 A4 h14
  have N4 := N3.go0 A4.mod (by simp)
  have s4 := N4.size
  refine (CloneC_ok (s := ⟨a', s.n - k, c'⟩) (hS.keep0 A4.mod) (by rw [List.length_drop]; omega)).mono ?_
  rintro _ w5 ⟨_, rfl, s', rfl, hR, M5⟩
  have N5 := N4.go0 M5 (by simp)
  refine ⟨_, _, _, rfl, _, _, _, _, M5.keep0 h14, fun w6 A6 h16 => ?_⟩
  have hR6 : Row w6 w4.heap.size 57 16 CV.cs s'.a s'.n s'.c (ll.drop k) := hR.keep A6.mod fun ad ha hk => by
    have := (hR.block ad ha).1
    simp at hk; omega
  refine ⟨rfl, ⟨s', ll.drop k, h16, Or.inl h2, .inl (hR6.rebase (Nat.zero_le _)), fun ad ha => Or.inr (by have := (hR.block ad ha).1; omega), fun q hq => ?_, by rw [List.map_drop]⟩, (N5.trans A6.mod).less (by simp)⟩
  exact (((h5 q (List.mem_of_mem_drop hq)).keep ⟨[], N5, by simp⟩).keepT A6.mod fun k hk cs T hc => by simp at hk; subst hk; rw [M5.keep0 h14] at hc; cases hc; decide).more fun k _ hk => Or.inl hk
def joinE (start : Int) (len : Nat) (n : Int) (ys : List PCall) : Int := if atE start len n ≠ 0 then atE start len n else loadE n ys
set_option maxHeartbeats 1000000 in
theorem OJoin_ok {w : World} {D : Nat → Prop} {b0 : Nat} {start : Int} {xs : List PCall} (h : LogIs w D b0 start xs) (hb : LB start xs) (n : Int) {t : Sl} {lt : List CV} (ht : CsAt w t lt) (hl : lt.length ≤ 100000) :
    Calls Tryz.prog 39 #[.pointer (some ⟨b0, 0, none⟩), .int .i64 n, .slice t.a t.n t.c] w fun e w' => e = .returned (.int .i64 (joinE start xs.length n (lt.map (·.x)))) ∧
      LogIs w' (grD D w) b0 start (if joinE start xs.length n (lt.map (·.x)) = 0 then xs.take (n - start).toNat ++ lt.map (·.x) else xs) ∧ ModD D w w' := by
  have h0 := h
  obtain ⟨s, ll, h1, h2, h3, h4, h5, rfl⟩ := h
  have hb' := hb
  obtain ⟨bb1, bb2, bb3⟩ := hb
  have hn := h3.len
  have lt0 := lt_of_block h1
  have el : (ll.map (·.x)).length = ll.length := by simp
  rw [el] at bb3 ⊢
  refine go_of (oplog_Log_Join_go h1 ?_)
  intro w2 A2 h12
  refine (at_ok h12 ⟨bb1, bb2⟩ (by omega) n).mono ?_
  rintro _ w3 ⟨rfl, h13, M3⟩
  have N3 := A2.mod.go0 M3 (by simp)
  refine ⟨_, rfl, _, _, _, _, h13, ?_⟩
  rw [hn]
  have bad : ∀ {w' : World}, Mod [] w w' → joinE start ll.length n (lt.map (·.x)) ≠ 0 → LogIs w' (grD D w) b0 start (if joinE start ll.length n (lt.map (·.x)) = 0 then (ll.map (·.x)).take (n - start).toNat ++ lt.map (·.x) else ll.map (·.x)) ∧ ModD D w w' := fun {w'} M hne => by
    rw [if_neg hne]
    exact ⟨(h0.keep0 M).more fun k _ hk => Or.inl hk, ModD.of0 M⟩
  refine brB_of (fun g2 => ?_) fun g2 => ?_
  · have g2 : atE start ll.length n ≠ 0 := by simpa using g2
    have e : joinE start ll.length n (lt.map (·.x)) = atE start ll.length n := by rw [joinE, if_pos g2]
    exact ⟨by rw [e], bad N3 (by rw [e]; exact g2)⟩
  have g2 : atE start ll.length n = 0 := by simpa using g2
  have e : joinE start ll.length n (lt.map (·.x)) = loadE n (lt.map (·.x)) := by rw [joinE, if_neg (by simpa using g2)]
  have hr := atE_ok.1 g2
  refine (Load_ok (ht.keep0 N3) hl).mono ?_
  rintro _ w4 ⟨v, rfl, hv, M4⟩
  have s3 := N3.size
  have s4 := M4.size
  have N4 := N3.go0 M4 (by simp)
  by_cases g3 : loadE n (lt.map (·.x)) = 0
  · rw [if_pos g3] at hv
    obtain ⟨b9, rfl, f9, s9, l9, h49, hR9, hO9, hm9, hnil9⟩ := hv
    refine ⟨_, _, rfl, _, _, _, _, M4.keep0 h13, ?_⟩
    refine brB_of (fun g => absurd g (by decide)) fun _ => ?_
    have L4 := h0.keep0 N4
    refine (OCut_ok L4 hb' n).mono ?_
    rintro _ w5 ⟨rfl, L5, M5⟩
    rw [el, if_pos g2] at L5
    have s5 := M5.size
    obtain ⟨s6, ll6, h56, _, hL6, hI6, hO6, hm6⟩ := L5
    refine ⟨_, rfl, _, _, _, _, h56, ?_⟩
    refine ckPtr_of ?_
    intro w6 A6 h6
    have s6' := A6.mod.size
    have h59 : w6.heap[b9]? = some (.cells #[.int .i64 n, .slice s9.a s9.n s9.c] LgT) := A6.mod.keep0 (M5.keep h49 (by simp; omega))
    refine ldSlice_of (x := s9.a) (n := s9.n) (c := s9.c) (by rw [addr_add, cell_at h59]; rfl) ?_
    have hR69 : Row w6 w3.heap.size 57 16 CV.cs s9.a s9.n s9.c l9 := (hR9.keep M5 fun ad ha hk => by
      have := (hR9.block ad ha).1
      simp at hk; omega).keep0 A6.mod
    have e9 : l9.length = lt.length := by have := congrArg List.length hm9; simpa using this
    have e6 : ll6.length ≤ ll.length := by
      have := congrArg List.length hm6
      simp at this; omega
    obtain ⟨i0, hi, hz0, hz1, hz2⟩ := info_parts infoCall
    have hn9 := (hR69.sl CV.cs_len).1
    refine appendL_of (hL6.keep0 A6.mod) Tryz.underlying39 hi hz0 hz1 hz2 rfl (by decide) (hR69.sl CV.cs_len) ?_ CV.cs_len CV.cs_one (by omega) (by unfold maxLen; omega) fun s' w7 hA => ?_
    · by_cases hz : lt = []
      · left; rw [hnil9 hz]; rfl
      · right
        have : 0 < lt.length := List.length_pos_iff.2 hz
        omega
    have hrow : ∀ k ∈ rowS s6.a, k < w6.heap.size ∧ (∃ cur, w6.heap[k]? = some (.cells cur 57)) ∧ D k := fun k hk => by
      cases hsa : s6.a with
      | none => rw [hsa] at hk; simp [rowS] at hk
      | some ad =>
        rw [hsa] at hk
        simp [rowS] at hk
        subst hk
        obtain ⟨cur, hc⟩ := (hL6.keep0 A6.mod).block ad hsa
        exact ⟨lt_of_block hc, ⟨cur, hc⟩, hI6 ad hsa⟩
    have M7 : Mod (rowS s6.a) w6 w7 := by
      rcases hA with ⟨_, M⟩ | ⟨_, _, M⟩
      · exact M.less (by simp)
      · exact M
    have s7 := M7.size
    have hb0r : b0 ∉ rowS s6.a := fun hk => by
      obtain ⟨_, ⟨cur, hc⟩, _⟩ := hrow b0 hk
      rw [h6] at hc; cases hc
    refine ⟨Keep.of M7 fun b hb _ hb' => ?_, fun w8 A8 h8 => ?_⟩
    · simp at hb; subst hb; exact hb0r hb'
    have bne : ∀ {ad : Addr}, s'.a = some ad → ad.block ≠ b0 := fun {ad} ha e => by
      rcases hA with ⟨hR, _⟩ | ⟨e1, hR, _⟩
      · have := (hR.block ad ha).1; omega
      · obtain ⟨cur, hc⟩ := hR.block ad ha
        have h11 := M7.keep h6 hb0r
        rw [e, h11] at hc; cases hc
    have hL8 : LRow w8 57 16 CV.cs s' (ll6 ++ l9) := by
      have hL11 : LRow w7 57 16 CV.cs s' (ll6 ++ l9) := by
        rcases hA with ⟨hR, _⟩ | ⟨_, hR, _⟩
        · exact .inl (hR.rebase (Nat.zero_le _))
        · exact hR
      exact hL11.keep A8.mod fun ad ha hk => bne ha (by simpa using hk)
    have tk : ∀ k ∈ rowS s6.a ++ [b0], ∀ cs T, w6.heap[k]? = some (.cells cs T) → T ≠ 149 ∧ T ≠ 9 := fun k hk cs T hc => by
      simp at hk
      rcases hk with hk | rfl
      · obtain ⟨_, ⟨cur, hcur⟩, _⟩ := hrow k hk
        rw [hcur] at hc; cases hc; decide
      · rw [h6] at hc; cases hc; decide
    have M68 := M7.trans A8.mod
    have hI : InD (grD D w) s'.a := fun ad ha => by
      rcases hA with ⟨hR, _⟩ | ⟨e1, hR, _⟩
      · have := (hR.block ad ha).1
        exact Or.inr (by omega)
      · rw [e1] at ha
        exact Or.inl (hI6 ad ha)
    have hO2 : ∀ y ∈ ll6 ++ l9, OpD w8 (grD D w) y := fun y hy => by
      rcases List.mem_append.1 hy with hy | hy
      · exact (((hO6 y hy).keep ⟨[], A6.mod, by simp⟩).keepT M68 tk).more fun k _ hk => Or.inl hk
      · refine OpD.of ((((hO9 y hy).keep M5 fun k hk cs T hc => ?_).keep0 A6.mod).keep M68 tk) fun k hk _ => Or.inr (by omega)
        simp at hk; subst hk
        rw [M4.keep0 h13] at hc; cases hc; decide
    refine ⟨by rw [e, g3], ?_, ?_⟩
    · rw [e, if_pos g3]
      exact ⟨s', ll6 ++ l9, h8, Or.inl h2, hL8, hI, hO2, by rw [List.map_append, hm6, hm9]⟩
    · refine ⟨_, ((N4.trans M5).trans A6.mod).trans M68, fun k hk hl => ?_⟩
      simp at hk
      rcases hk with rfl | hk | rfl
      · exact h2
      · exact (hrow k hk).2.2
      · exact h2
  · rw [if_neg g3] at hv
    subst hv
    refine ⟨_, _, rfl, _, _, _, _, M4.keep0 h13, ?_⟩
    refine brB_of (fun g => ⟨by rw [e], bad N4 (by rw [e]; exact g3)⟩) fun g => absurd (by simpa using g) g3
end Go.Proofs.YtohgihgddknmmaaGreat

/- Calls as bytes. -/
namespace Go.Proofs.YtohgihgddknmmaaGreat
open Go Go.RowKit
set_option linter.unusedVariables false
set_option linter.unusedSimpArgs false

theorem opB_len {o : POp} (G : OpGood o) : (opB o).length ≤ 30000 := by
  obtain ⟨hk, ⟨n1, n2, n3, n4⟩, hT, hG, hMm, hL, hb, ho⟩ := G
  have hT := fun h => (name_le (hT h)).1
  have hG := fun h => (name_le (hG h)).1
  have hMm := fun h => (name_le (hMm h)).1
  have nl : ∀ {x : Int}, num x = true → (vPutL x.toNat).length ≤ 10 := fun {x} h => by
    have := num_le h
    exact (vPutL_len x.toNat (by omega)).2
  have tl : ∀ {s : ByteArray}, s.size ≤ 16 → (putT s).length ≤ 26 := fun {s} h => by have := (putT_len s (by omega)).2; omega
  obtain ⟨kd, pt, n, off, b, g, m, gen, robin, topics⟩ := o
  simp only at hk hT hG hMm hL hb n1 n2 n3 n4
  have hkn := nl (x := kd) (by simp [num]; omega)
  have l1 := nl n1
  have l2 := nl n2
  have l3 := nl n3
  have l4 := nl n4
  have hk : kd = 0 ∨ kd = 1 ∨ kd = 2 ∨ kd = 3 ∨ kd = 4 ∨ kd = 5 ∨ kd = 6 ∨ kd = 7 ∨ kd = 8 ∨ kd = 9 ∨ kd = 10 ∨ kd = 11 ∨ kd = 12 := by omega
  unfold opB
  rw [List.length_append]
  rcases hk with rfl | rfl | rfl | rfl | rfl | rfl | rfl | rfl | rfl | rfl | rfl | rfl | rfl
  · have := tl (hT rfl); simp [opBody] at *; omega
  · simp [opBody] at *; omega
  · have := tl (hT rfl); have := (BatGood.of (hb rfl)).len; simp [opBody, partB] at *; omega
  · have := tl (hT rfl); simp [opBody, partB] at *; omega
  · have := tl (hT rfl); simp [opBody, partB] at *; omega
  · have := tl (hT rfl); simp [opBody, partB] at *; omega
  · have h1 := tl (hG rfl)
    have h2 := tl (hMm rfl)
    have hL := hL rfl
    simp only [namesB, Bool.and_eq_true, decide_eq_true_eq] at hL
    obtain ⟨⟨⟨l1', l2'⟩, l3'⟩, _⟩ := hL
    have h3 : (namesL topics).length ≤ 10 + 8 * 26 := by
      have e1 := flat_le (f := putT) (c := 26) (l := topics) fun s hs => tl (name_le (List.all_eq_true.1 l3' s hs)).1
      have e2 := (vPutL_len topics.length (by omega)).2
      have e3 : topics.length * 26 ≤ 8 * 26 := Nat.mul_le_mul_right _ l2'
      unfold namesL; rw [List.length_append]; omega
    have h4 : (vPutL (flagN robin)).length ≤ 10 := (vPutL_len _ (by cases robin <;> decide)).2
    simp only [opBody, List.length_append, if_neg (show ¬ (6 : Int) = 0 by decide), if_neg (show ¬ (6 : Int) = 1 by decide), if_neg (show ¬ (6 : Int) = 2 by decide), if_neg (show ¬ (6 : Int) = 3 by decide), if_neg (show ¬ (6 : Int) = 4 by decide), if_neg (show ¬ (6 : Int) = 5 by decide), if_pos]
    omega
  iterate 3
    · have h1 := tl (hG rfl)
      have h2 := tl (hMm rfl)
      simp [opBody] at *; omega
  · have h1 := tl (hG rfl)
    have h2 := tl (hMm rfl)
    have := tl (hT rfl)
    simp [opBody, partB] at *; omega
  · have h1 := tl (hG rfl)
    have := tl (hT rfl)
    simp [opBody, partB] at *; omega
  · simp [opBody] at *; omega
def callR (x : PCall) : List UInt8 := vPutL x.c.toNat ++ vPutL x.n.toNat ++ putT (bs (opB x.op))
def callB (x : PCall) : List UInt8 := frameB (bs (callR x))
def textB (xs : List PCall) : List UInt8 := vPutL xs.length ++ xs.flatMap callB
def textE (xs : List PCall) : Int := if xs.length > 4096 then 2 else checkE xs
theorem oddN_out {n : Int} (h : oddN n = false) : 1 ≤ n ∧ n ≤ 1099511627776 := by
  simp [oddN] at h; omega
theorem oddC_out {x : PCall} (h : oddC x = false) : (1 ≤ x.c ∧ x.c ≤ 1099511627776) ∧ 1 ≤ x.n ∧ x.n ≤ 1099511627776 := by
  simp [oddC] at h
  exact ⟨oddN_out h.1, oddN_out h.2⟩
theorem callR_len {x : PCall} (h : oddC x = false) (ho : opE x.op = 0) : (callR x).length ≤ 30040 := by
  have h1 := oddC_out h
  have h2 := opB_len (OpGood.of ho)
  have e1 := (vPutL_len x.c.toNat (by omega)).2
  have e2 := (vPutL_len x.n.toNat (by omega)).2
  have e3 := (putT_len (bs (opB x.op)) (by rw [bs_size]; omega)).2
  rw [bs_size] at e3
  unfold callR
  rw [List.length_append, List.length_append]
  omega
theorem callB_len {x : PCall} (h : oddC x = false) (ho : opE x.op = 0) : (callB x).length ≤ 40000 ∧ 1 ≤ (callB x).length := by
  have h1 := callR_len h ho
  have e3 := putT_len (bs (callR x)) (by rw [bs_size]; omega)
  rw [bs_size] at e3
  unfold callB
  rw [frameB_len]
  omega
set_option maxHeartbeats 1000000 in
theorem Text_ok {w : World} {s : Sl} {ll : List CV} (h : CsAt w s ll) (hl : ll.length ≤ 1000000) :
    Calls Tryz.prog 31 #[.slice s.a s.n s.c] w fun e w' => e = .returned (.tuple #[.string (if textE (ll.map (·.x)) = 0 then bs (textB (ll.map (·.x))) else bs []), .int .i64 (textE (ll.map (·.x)))]) ∧ Mod [] w w' := by
  have hn := h.sl.1
  have el : (ll.map (·.x)).length = ll.length := by simp
  refine go_of (oplog_Text_go ?_)
  refine brB_dec (fun g => ?_) fun g => ?_
  · have e : textE (ll.map (·.x)) = 2 := by rw [textE, if_pos (by rw [el]; omega)]
    rw [e]; exact ⟨rfl, Mod.refl _⟩
  have e : textE (ll.map (·.x)) = checkE (ll.map (·.x)) := by rw [textE, if_neg (by rw [el]; omega)]
  refine (Checked_ok h hl).mono ?_
  rintro _ w1 ⟨rfl, M1⟩
  have s1 := M1.size
  refine ⟨_, rfl, brB_of (fun g2 => ?_) fun g2 => ?_⟩
  · have g2 : checkE (ll.map (·.x)) ≠ 0 := by simpa using g2
    rw [e, if_neg g2]; exact ⟨rfl, M1⟩
  have g2 : checkE (ll.map (·.x)) = 0 := by simpa using g2
  have good : ∀ q ∈ ll, oddC q.x = false ∧ opE q.x.op = 0 := fun q hq => checkE_ok.1 g2 q.x (List.mem_map.2 ⟨q, hq, rfl⟩)
  rw [e, if_pos g2, g2]
  intro b3 f3 w4 A4
  have l4 := A4.lt b3 (by simp)
  have s4 := A4.mod.size
  rw [wrapU (by omega)]
  refine (Put_ok s.n (by omega) w4).mono ?_
  rintro _ w5 ⟨rfl, M5⟩
  refine ⟨_, rfl, Keep.of0 M5, ?_⟩
  intro w7 A7 h7
  have s5 := M5.size
  have s7 := A7.mod.size
  have N7 : Mod [] w w7 := ((M1.go0 A4.mod (by simp)).go0 M5 (by simp)).go0 A7.mod (by simp)
  have v0 := vPutL_len s.n (by omega)
  refine (SW_ok (B := w1.heap.size) (Sb.fresh f3 h7) (l2 := vPutL s.n) (by rw [List.length_nil]; omega) (by omega)).mono ?_
  rintro _ w8 ⟨rfl, hB8, W8⟩
  obtain ⟨p8, a8, n8, c8, hc8⟩ := Sb.cells hB8
  refine ⟨_, _, rfl, p8, a8, n8, c8, hc8, ?_⟩
  have modW : ∀ {w'}, Wr w1.heap.size b3 w7 w' → Mod [] w w' := fun W => W.mod N7 s1
  refine oplog_Text_rule1 (fun mm x p0 a0 n0 c0 w' => ∃ k : Nat, x = k ∧ k ≤ ll.length ∧ Sb w1.heap.size b3 (vPutL s.n ++ (ll.take k).flatMap fun q => callB q.x) w' ∧ Wr w1.heap.size b3 w7 w' ∧ mm = ll.length - k) ll.length ⟨0, rfl, by omega, by simpa using hB8, W8, rfl⟩ ?_
  rintro mm x p0 a0 n0 c0 w9 ⟨k, rfl, hk, hB9, W9, rfl⟩ h9
  have s9 := W9.bel.size
  have N9 := modW W9
  refine brB_dec (fun hlt => ?_) fun hge => ?_
  · obtain ⟨q, hq⟩ : ∃ q, ll[k]? = some q := ⟨_, List.getElem?_eq_getElem (by omega)⟩
    obtain ⟨gq1, gq2⟩ := good q (List.mem_of_getElem? hq)
    have hodd := oddC_out gq1
    refine (h.sl.keep0 N9).ix hq fun ad had => ldCV_of had ?_
    intro b10 f10 w10 A10 h10
    have l10 := A10.lt b10 (by simp)
    have s10 := A10.mod.size
    have N10 := N9.go0 A10.mod (by simp)
    refine (RPut_ok (o := q.x.op) ((h.op q (List.mem_of_getElem? hq)).keep0 N10)).mono ?_
    rintro _ w11 ⟨rfl, M11, hlen⟩
    rw [if_pos gq2]
    have s11 := M11.size
    refine ⟨_, _, rfl, Keep.of0 M11, _, _, _, _, M11.keep0 h10, ?_⟩
    intro w12 A12 h12
    have s12 := A12.mod.size
    obtain ⟨cN, hcN⟩ := Int.eq_ofNat_of_zero_le (show 0 ≤ q.x.c by omega)
    obtain ⟨nN, hnN⟩ := Int.eq_ofNat_of_zero_le (show 0 ≤ q.x.n by omega)
    rw [hcN, hnN, wrapU (by omega), wrapU (by omega)]
    refine (Put_ok cN (by omega) w12).mono ?_
    rintro _ w13 ⟨rfl, M13⟩
    have s13 := M13.size
    refine ⟨_, rfl, Keep.of0 M13, _, _, _, _, M13.keep0 h12, rfl, ?_⟩
    refine (Put_ok nN (by omega) w13).mono ?_
    rintro _ w14 ⟨rfl, M14⟩
    have s14 := M14.size
    refine ⟨_, rfl, Keep.of0 M14, _, _, _, _, M14.keep0 (M13.keep0 h12), ?_⟩
    have lc := vPutL_len cN (by omega)
    have ln := vPutL_len nN (by omega)
    have lo := opB_len (OpGood.of gq2)
    refine ⟨by show (bs (vPutL cN)).size + (bs (vPutL nN)).size ≤ _; rw [bs_size, bs_size]; omega, ?_⟩
    have e1 : vPut cN ++ vPut nN = bs (vPutL cN ++ vPutL nN) := bs_app _ _
    rw [e1]
    refine (PutText_ok (bs (opB q.x.op)) (by rw [bs_size]; omega) w14).mono ?_
    rintro _ w15 ⟨rfl, M15⟩
    have s15 := M15.size
    refine ⟨_, rfl, Keep.of0 M15, _, _, _, _, M15.keep0 (M14.keep0 (M13.keep0 h12)), ?_⟩
    have lp := (putT_len (bs (opB q.x.op)) (by rw [bs_size]; omega)).2
    rw [bs_size] at lp
    refine ⟨by rw [bs_size, bs_size, List.length_append]; omega, ?_⟩
    have e2 : bs (vPutL cN ++ vPutL nN) ++ bs (putT (bs (opB q.x.op))) = bs (callR q.x) := by
      rw [bs_app]; unfold callR; rw [hcN, hnN]; rfl
    rw [e2]
    have lr := callR_len gq1 gq2
    refine (Frame_ok (bs (callR q.x)) (by rw [bs_size]; omega) w15).mono ?_
    rintro _ w16 ⟨rfl, M16⟩
    have s16 := M16.size
    have K : Mod [] w9 w16 := ((((A10.mod.go0 M11 (by simp)).go0 A12.mod (by simp)).go0 M13 (by simp)).go0 M14 (by simp)).go0 (M15.go0 M16 (by simp)) (by simp)
    have hB16 := hB9.keep0 K
    obtain ⟨p16, a16, n16, c16, hc16⟩ := Sb.cells hB16
    refine ⟨_, rfl, Keep.of0 M16, p16, a16, n16, c16, hc16, ?_⟩
    have hlt2 : (vPutL s.n ++ (ll.take k).flatMap fun q => callB q.x).length ≤ 10 + 4096 * 40000 := by
      have e1 := flat_le (f := fun q : CV => callB q.x) (c := 40000) (l := ll.take k) fun q hq => (callB_len (good q (List.mem_of_mem_take hq)).1 (good q (List.mem_of_mem_take hq)).2).1
      have e3 : (ll.take k).length * 40000 ≤ 4096 * 40000 := Nat.mul_le_mul_right _ (by rw [List.length_take]; omega)
      rw [List.length_append]; omega
    have lcb := callB_len gq1 gq2
    refine (SW_ok (l2 := callB q.x) hB16 (by omega) (by omega)).mono ?_
    rintro _ w17 ⟨rfl, hB17, W17⟩
    obtain ⟨p17, a17, n17, c17, hc17⟩ := Sb.cells hB17
    refine ⟨_, _, rfl, W17.keepE fun k hk he => ?_, p17, a17, n17, c17, hc17, ?_⟩
    · simp at hk he
      subst hk
      exact ⟨he, .inr ⟨_, by simp; rfl, by decide⟩⟩
    refine oplog_Text_leaf1 (ll.length - (k + 1)) (by omega) ⟨k + 1, by rw [wrap_id (by omega) (by omega)]; omega, by omega, ?_, (W9.trans (Wr.of0 K (by omega))).trans W17, rfl⟩
    rw [take_flat hq, ← List.append_assoc]
    exact hB17
  · have hk : k = ll.length := by omega
    subst hk
    rw [List.take_length] at hB9
    have et : (vPutL s.n ++ ll.flatMap fun q => callB q.x) = textB (ll.map (·.x)) := by
      unfold textB; rw [el, hn, List.flatMap_map]
    rw [et] at hB9
    refine (SS_ok hB9 (by intro h0; have := congrArg List.length h0; rw [← et, List.length_append] at this; simp only [List.length_nil] at this; omega)).mono ?_
    rintro _ w10 ⟨rfl, hB10, W10⟩
    obtain ⟨p10, a10, n10, c10, hc10⟩ := Sb.cells hB10
    exact ⟨_, rfl, p10, a10, n10, c10, hc10, rfl, modW (W9.trans W10)⟩

/-! ### calls got -/
def call0 : PCall := ⟨0, 0, op0⟩
def cText (l : List UInt8) (b : Nat) : ByteArray := match txtA 65536 l b with
  | some p => p.1
  | none => ⟨#[]⟩
def callG (s : ByteArray) : PCall := match numA s.data.toList 0 with
  | none => call0
  | some p => match numA s.data.toList p.2 with
    | none => call0
    | some q => ⟨IntKind.wrap .i64 (p.1 : Nat), IntKind.wrap .i64 (q.1 : Nat), (getO (cText s.data.toList q.2)).getD op0⟩
theorem callG_put {x : PCall} (h : oddC x = false) (ho : opE x.op = 0) : callG (bs (callR x)) = x := by
  have h1 := oddC_out h
  have h2 := opB_len (OpGood.of ho)
  have e0 : (bs (callR x)).data.toList = vPutL x.c.toNat ++ (vPutL x.n.toNat ++ (putT (bs (opB x.op)) ++ [])) := by rw [bs_data]; simp [callR]
  have t1 := numA_put (l := (bs (callR x)).data.toList) (a := 0) (n := x.c.toNat) (by omega) (by rw [List.drop_zero]; exact e0)
  have d1 := drop_of (l := (bs (callR x)).data.toList) (a := 0) (x := vPutL x.c.toNat) (by rw [List.drop_zero]; exact e0)
  have t2 := numA_put (n := x.n.toNat) (by omega) d1
  have t3 := txtA_put (lim := 65536) (s := bs (opB x.op)) (by rw [bs_size]; omega) (by rw [bs_size]; omega) (drop_of d1)
  unfold callG cText
  rw [t1]
  dsimp only
  rw [t2]
  dsimp only
  rw [t3]
  dsimp only
  rw [getO_put ho]
  have e1 : IntKind.wrap .i64 ((x.c.toNat : Nat) : Int) = x.c := by rw [wrap_id (by omega) (by omega)]; omega
  have e2 : IntKind.wrap .i64 ((x.n.toNat : Nat) : Int) = x.n := by rw [wrap_id (by omega) (by omega)]; omega
  rw [e1, e2]; rfl
theorem OCall_ok {s : ByteArray} (hs : s.size ≤ 1000000) (w : World) :
    Calls Tryz.prog 89 #[.string s] w fun e w' => ∃ v, e = .returned v ∧ ∃ rs ts : Sl, v = (⟨callG s, rs, ts⟩ : CV).v ∧ OpOwn w' w.heap.size (callG s).op rs ts ∧ Mod [] w w' := by
  refine oplog_call_go ?_
  intro b1 f1 w2 A2
  have l1 := A2.lt b1 (by simp)
  have s2 := A2.mod.size
  have bad : ∀ {w3}, callG s = call0 → Mod [] w w3 → ∃ rs ts : Sl, (⟨call0, nilS, nilS⟩ : CV).v = (⟨callG s, rs, ts⟩ : CV).v ∧ OpOwn w3 w.heap.size (callG s).op rs ts ∧ Mod [] w w3 := fun {w3} e M => by
    rw [e]
    exact ⟨nilS, nilS, rfl, op0_own .., M⟩
  refine (GetN_ok s 0 (by omega) (by omega) w2).mono ?_
  rintro _ w3 ⟨v, rfl, hv, rfl⟩
  rw [List.drop_zero] at hv
  cases hg : vg 0 s.data.toList with
  | none =>
    rw [hg] at hv
    obtain ⟨e, he, rfl⟩ := hv
    refine ⟨_, _, _, rfl, Keep.of0 (Mod.refl _), ?_⟩
    rw [show (e != 0) = true by simpa using he]
    intro w4 A4
    exact bad (by simp [callG, numA, hg]) (A2.mod.go0 A4.mod (by simpa using f1))
  | some p =>
    rw [hg] at hv
    have hv : v = .tuple #[.int .u64 (p.1 : Nat), .int .i64 ((0 + p.2 : Nat) : Int), .int .i64 0] := hv
    subst hv
    have n1 : numA s.data.toList 0 = some (p.1, 0 + p.2) := by simp [numA, hg]
    have h8 := numA_le n1
    have el : s.data.toList.length = s.size := by simp
    refine ⟨_, _, _, rfl, Keep.of0 (Mod.refl _), ?_⟩
    rw [show ((0 : Int) != 0) = false from rfl, brB_false]
    refine (GetN_ok s (0 + p.2) (by omega) (by omega) w3).mono ?_
    rintro _ w4 ⟨v, rfl, hv, rfl⟩
    cases hg2 : vg 0 (s.data.toList.drop (0 + p.2)) with
    | none =>
      rw [hg2] at hv
      obtain ⟨e, he, rfl⟩ := hv
      have n2 : numA s.data.toList (0 + p.2) = none := by unfold numA; rw [hg2]; rfl
      refine ⟨_, _, _, rfl, Keep.of0 (Mod.refl _), ?_⟩
      rw [show (e != 0) = true by simpa using he]
      intro w5 A5
      exact bad (by unfold callG; rw [n1]; dsimp only; rw [n2]) (A2.mod.go0 A5.mod (by simpa using f1))
    | some q =>
      rw [hg2] at hv
      have hv : v = .tuple #[.int .u64 (q.1 : Nat), .int .i64 ((0 + p.2 + q.2 : Nat) : Int), .int .i64 0] := hv
      subst hv
      have n2 : numA s.data.toList (0 + p.2) = some (q.1, 0 + p.2 + q.2) := by unfold numA; rw [hg2]; rfl
      have h9 := numA_le n2
      have eG : callG s = ⟨IntKind.wrap .i64 (p.1 : Nat), IntKind.wrap .i64 (q.1 : Nat), (getO (cText s.data.toList (0 + p.2 + q.2))).getD op0⟩ := by
        unfold callG; rw [n1]; dsimp only; rw [n2]
      refine ⟨_, _, _, rfl, Keep.of0 (Mod.refl _), ?_⟩
      rw [show ((0 : Int) != 0) = false from rfl, brB_false]
      refine (GetText_ok s (0 + p.2 + q.2) 65536 (by omega) (by omega) (by omega) w4).mono ?_
      rintro _ w5 ⟨v, rfl, hv, rfl⟩
      have ht : ∃ (x y : Int), v = .tuple #[.string (cText s.data.toList (0 + p.2 + q.2)), .int .i64 x, .int .i64 y] ∧ (cText s.data.toList (0 + p.2 + q.2)).size ≤ 65536 := by
        unfold cText txtA
        cases hg3 : tg 65536 (s.data.toList.drop (0 + p.2 + q.2)) with
        | none =>
          rw [hg3] at hv
          obtain ⟨e, he, rfl⟩ := hv
          exact ⟨_, _, rfl, by show (⟨#[]⟩ : ByteArray).size ≤ 65536; decide⟩
        | some t =>
          rw [hg3] at hv
          have := tg_len (t := t.1) (m := t.2) hg3
          exact ⟨_, _, hv, this.2.2.1⟩
      obtain ⟨x, y, rfl, hts⟩ := ht
      refine ⟨_, _, _, rfl, Keep.of0 (Mod.refl _), ?_⟩
      refine (RGet_ok (s := cText s.data.toList (0 + p.2 + q.2)) (by omega) w5).mono ?_
      rintro _ w6 ⟨v, rfl, hv, M6⟩
      have s6 := M6.size
      have hv2 : ∃ (rs ts : Sl) (e : Int), v = .tuple #[((getO (cText s.data.toList (0 + p.2 + q.2))).getD op0).v rs ts, .int .i64 e] ∧ OpOwn w6 w5.heap.size ((getO (cText s.data.toList (0 + p.2 + q.2))).getD op0) rs ts := by
        cases hO : getO (cText s.data.toList (0 + p.2 + q.2)) with
        | none =>
          rw [hO] at hv
          exact ⟨nilS, nilS, 40, hv, op0_own ..⟩
        | some o =>
          rw [hO] at hv
          obtain ⟨rs, ts, rfl, hO⟩ := hv
          exact ⟨rs, ts, 0, rfl, hO⟩
      obtain ⟨rs, ts, e, rfl, hO⟩ := hv2
      refine ⟨_, _, _, _, _, _, _, _, _, _, _, _, _, _, _, _, _, _, _, rfl, Keep.of0 M6, ?_⟩
      intro b7 f7 w7 A7
      rw [eG]
      exact ⟨rs, ts, rfl, (hO.keepB A7.mod (by simp; omega)).rebase s2, (A2.mod.go0 M6 (by simp)).go0 A7.mod (by simpa using f1)⟩
end Go.Proofs.YtohgihgddknmmaaGreat

/- Calls of bytes. -/
namespace Go.Proofs.YtohgihgddknmmaaGreat
open Go Go.RowKit
set_option linter.unusedVariables false
set_option linter.unusedSimpArgs false

def cutA (lim : Nat) (l : List UInt8) (a : Nat) : Option (ByteArray × Nat) := (cg lim (l.drop a)).map fun p => (p.1, a + p.2)
theorem cutA_le {l : List UInt8} {a b lim : Nat} {t : ByteArray} (h : cutA lim l a = some (t, b)) : a < b ∧ b ≤ l.length ∧ t.size ≤ lim := by
  unfold cutA at h
  cases hv : cg lim (l.drop a) with
  | none => rw [hv] at h; cases h
  | some p =>
    have h1 := cg_len (t := p.1) (m := p.2) hv
    rw [hv] at h
    rw [List.length_drop] at h1
    simp at h
    obtain ⟨rfl, rfl⟩ := h
    omega
theorem cutA_put {l r : List UInt8} {a lim : Nat} {s : ByteArray} (hn : s.size ≤ lim) (hs : s.size < 18446744073709551616) (h : l.drop a = frameB s ++ r) : cutA lim l a = some (s, a + (frameB s).length) := by
  unfold cutA; rw [h, cg_put s r hn hs]; rfl
def rdC (l : List UInt8) : Nat → Option Nat → List PCall → Option Nat × List PCall
  | 0, st, xs => (st, xs)
  | _ + 1, none, xs => (none, xs)
  | k + 1, some a, xs => match cutA 65536 l a with
    | some p => rdC l k (some p.2) (xs ++ [callG p.1])
    | none => (none, xs ++ [callG ⟨#[]⟩])
theorem rdC_none (l : List UInt8) (k : Nat) (xs : List PCall) : rdC l k none xs = (none, xs) := by cases k <;> rfl
def parse0 (l : List UInt8) : Option Nat × List PCall := match numA l 0 with
  | some p => rdC l p.1 (some p.2) []
  | none => (none, [])
/-- The calls of bytes. -/
def parseO (s : ByteArray) : Option (List PCall) :=
  if (parse0 s.data.toList).1.isSome ∧ textE (parse0 s.data.toList).2 = 0 ∧ bs (textB (parse0 s.data.toList).2) = s then some (parse0 s.data.toList).2 else none
theorem textE_out {xs : List PCall} (h : textE xs = 0) : xs.length ≤ 4096 ∧ ∀ x ∈ xs, oddC x = false ∧ opE x.op = 0 := by
  unfold textE at h
  split at h
  · omega
  · exact ⟨by omega, checkE_ok.1 h⟩
theorem rdC_put {l : List UInt8} : ∀ (xs : List PCall) (hx : ∀ x ∈ xs, oddC x = false ∧ opE x.op = 0) (a : Nat) (r : List UInt8) (acc : List PCall), l.drop a = xs.flatMap callB ++ r → rdC l xs.length (some a) acc = (some (a + (xs.flatMap callB).length), acc ++ xs)
  | [], _, a, r, acc, h => by simp [rdC]
  | x :: xs, hx, a, r, acc, h => by
    rw [List.flatMap_cons, List.append_assoc] at h
    obtain ⟨h1, h2⟩ := hx x (by simp)
    have hl := callR_len h1 h2
    have t1 : cutA 65536 l a = some (bs (callR x), a + (callB x).length) := cutA_put (lim := 65536) (s := bs (callR x)) (by rw [bs_size]; omega) (by rw [bs_size]; omega) h
    simp only [List.length_cons, rdC, t1]
    rw [callG_put h1 h2, rdC_put xs (fun y hy => hx y (by simp [hy])) _ r _ (drop_of h)]
    simp [List.flatMap_cons, Nat.add_assoc]
theorem parseO_put {xs : List PCall} (h : textE xs = 0) : parseO (bs (textB xs)) = some xs := by
  obtain ⟨hl, hx⟩ := textE_out h
  have e0 : (bs (textB xs)).data.toList = vPutL xs.length ++ (xs.flatMap callB ++ []) := by rw [bs_data]; simp [textB]
  have t1 := numA_put (l := (bs (textB xs)).data.toList) (a := 0) (n := xs.length) (by omega) (by rw [List.drop_zero]; exact e0)
  have d1 := drop_of (l := (bs (textB xs)).data.toList) (a := 0) (x := vPutL xs.length) (by rw [List.drop_zero]; exact e0)
  have t2 := rdC_put xs hx _ _ [] d1
  have e : parse0 (bs (textB xs)).data.toList = (some (0 + (vPutL xs.length).length + (xs.flatMap callB).length), xs) := by
    unfold parse0; rw [t1]; dsimp only; rw [t2]; rfl
  unfold parseO
  rw [e]
  dsimp only
  rw [if_pos ⟨rfl, h, rfl⟩]
theorem parseO_iff {s : ByteArray} {xs : List PCall} : parseO s = some xs ↔ textE xs = 0 ∧ s = bs (textB xs) := by
  constructor
  · intro h
    unfold parseO at h
    split at h
    · rename_i hc
      simp only [Option.some.injEq] at h
      rw [h] at hc
      exact ⟨hc.2.1, hc.2.2.symm⟩
    · cases h
  · rintro ⟨h, rfl⟩
    exact parseO_put h
def ParseCV (w0 w : World) : Option (List PCall) → Value → Prop
  | some xs, v => ∃ s : Sl, v = .tuple #[.slice s.a s.n s.c, .int .i64 0] ∧ CallsOwn w w0.heap.size s xs
  | none, v => v = .tuple #[.slice none 0 0, .int .i64 162]
set_option maxHeartbeats 1000000 in
set_option maxRecDepth 20000 in
theorem OParse_ok {s : ByteArray} (hs : s.size ≤ 900000) (w : World) :
    Calls Tryz.prog 33 #[.string s] w fun e w' => ∃ v, e = .returned v ∧ ParseCV w w' (parseO s) v ∧ Mod [] w w' := by
  have el : s.data.toList.length = s.size := by simp
  refine oplog_Parse_go ?_
  refine (GetN_ok s 0 (by omega) (by omega) w).mono ?_
  rintro _ w1 ⟨v, rfl, hv, rfl⟩
  rw [List.drop_zero] at hv
  have hst : ∃ (n a0 : Nat) (e : Int), v = .tuple #[.int .u64 (n : Nat), .int .i64 (a0 : Nat), .int .i64 e] ∧ n < 18446744073709551616 ∧ a0 ≤ s.size ∧ parse0 s.data.toList = rdC s.data.toList n (if e = 0 then some a0 else none) [] := by
    cases hg : vg 0 s.data.toList with
    | none =>
      rw [hg] at hv
      obtain ⟨e, he, rfl⟩ := hv
      refine ⟨0, 0, e, rfl, by omega, by omega, ?_⟩
      rw [if_neg he]
      unfold parse0 numA; rw [List.drop_zero, hg]; rfl
    | some p =>
      rw [hg] at hv
      have hv : v = .tuple #[.int .u64 (p.1 : Nat), .int .i64 ((0 + p.2 : Nat) : Int), .int .i64 0] := hv
      have n1 : numA s.data.toList 0 = some (p.1, 0 + p.2) := by simp [numA, hg]
      have h8 := numA_le n1
      refine ⟨p.1, 0 + p.2, 0, hv, h8.2.2, by omega, ?_⟩
      rw [if_pos rfl]
      unfold parse0; rw [n1]
  obtain ⟨n, a0, e0, rfl, hn, ha0, hp⟩ := hst
  refine ⟨_, _, _, rfl, ?_⟩
  refine oplog_Parse_rule1 (fun mm x5 x6 aa nn cc x8 w' => ∃ (k a : Nat) (st : Option Nat) (l : List CV), x8 = k ∧ k ≤ n ∧ x5 = a ∧ a ≤ s.size ∧ (st = if x6 = 0 then some a else none) ∧ (st.isSome → l.length ≤ a) ∧ l.length ≤ s.size + 1 ∧ Row w' w1.heap.size 57 16 CV.cs aa nn cc l ∧ (∀ q ∈ l, OpOwn w' w1.heap.size q.x.op q.rs q.ts) ∧ Mod [] w1 w' ∧
    parse0 s.data.toList = rdC s.data.toList (n - k) st (l.map (·.x)) ∧ mm = n - k) n
    ⟨0, a0, _, [], rfl, by omega, rfl, ha0, rfl, by simp, by simp, Row.nil .., by simp, Mod.refl _, by simpa using hp, rfl⟩ ?_
  clear hp
  rintro mm x5 x6 aa nn cc x8 w2 ⟨k, a, st, l, rfl, hk, rfl, ha, hst, hla, hls, hRow, hOw, M2, hp, rfl⟩
  have s2 := M2.size
  have fin : (n - k = 0 ∨ st = none) → Calls Tryz.prog 31 #[(.slice aa nn cc)] w2 fun e w39 => ∃ s40 : ByteArray, ∃ x41 : Int, e = .returned (.tuple #[(.string s40), (.int .i64 x41)]) ∧
    brB (x6 != 0) (
      ParseCV w1 w39 (parseO s) (.tuple #[(.slice none 0 0), (.int .i64 162)]) ∧ Mod [] w1 w39)
    (
      brB (x41 != 0) (
        ParseCV w1 w39 (parseO s) (.tuple #[(.slice none 0 0), (.int .i64 162)]) ∧ Mod [] w1 w39)
      (
        brB (!(s40.toList == s.toList)) (
          ParseCV w1 w39 (parseO s) (.tuple #[(.slice none 0 0), (.int .i64 162)]) ∧ Mod [] w1 w39)
        (
          ParseCV w1 w39 (parseO s) (.tuple #[(.slice aa nn cc), (.int .i64 0)]) ∧ Mod [] w1 w39))) := fun hh => by
    have hpe : parse0 s.data.toList = (st, l.map (·.x)) := by
      rw [hp]
      rcases hh with hh | hh
      · rw [hh]; rfl
      · rw [hh, rdC_none]
    have hC : CsAt w2 ⟨aa, nn, cc⟩ l := ⟨hRow.sl CV.cs_len, fun q hq => (hOw q hq).at⟩
    refine (Text_ok hC (by omega)).mono ?_
    rintro _ w3 ⟨rfl, M3⟩
    have N3 := M2.go0 M3 (by simp)
    have no : parseO s = none → ParseCV w1 w3 (parseO s) (.tuple #[(.slice none 0 0), (.int .i64 162)]) ∧ Mod [] w1 w3 := fun h => by rw [h]; exact ⟨rfl, N3⟩
    have eO : parseO s = if st.isSome ∧ textE (l.map (·.x)) = 0 ∧ bs (textB (l.map (·.x))) = s then some (l.map (·.x)) else none := by unfold parseO; rw [hpe]
    refine ⟨_, _, rfl, ?_⟩
    refine brB_of (fun g => ?_) fun g => ?_
    · have g : x6 ≠ 0 := by simpa using g
      rw [if_neg g] at hst
      exact no (by rw [eO, hst]; rfl)
    have g : x6 = 0 := by simpa using g
    rw [if_pos g] at hst
    refine brB_of (fun g2 => ?_) fun g2 => ?_
    · have g2 : textE (l.map (·.x)) ≠ 0 := by simpa using g2
      exact no (by rw [eO, if_neg (fun h => g2 h.2.1)])
    have g2 : textE (l.map (·.x)) = 0 := by simpa using g2
    rw [if_pos g2, strEq]
    refine brB_of (fun g3 => ?_) fun g3 => ?_
    · have g3 : ¬ bs (textB (l.map (·.x))) = s := by simpa using g3
      exact no (by rw [eO, if_neg (fun h => g3 h.2.2)])
    · have g3 : bs (textB (l.map (·.x))) = s := by simpa using g3
      rw [eO, if_pos ⟨by rw [hst]; rfl, g2, g3⟩]
      exact ⟨⟨⟨aa, nn, cc⟩, rfl, l, hRow.keep0 M3, fun q hq => (hOw q hq).keep0 M3, rfl⟩, N3⟩
  refine brB_dec (fun hlt => ?_) fun hge => fin (.inl (by omega))
  refine brB_of (fun g => ?_) fun g => fin (.inr (by have g : x6 ≠ 0 := by simpa using g
                                                     rw [hst, if_neg g]))
  have g : x6 = 0 := by simpa using g
  subst g
  rw [if_pos rfl] at hst
  subst hst
  have hla : l.length ≤ a := hla rfl
  refine (CrcCut_ok s a 65536 (by omega) ha (by omega) w2).mono ?_
  rintro _ w3 ⟨v, rfl, hv, M3⟩
  have s3 := M3.size
  have hcut : ∃ (t : ByteArray) (b : Nat) (e : Int), v = .tuple #[.string t, .int .i64 (b : Nat), .int .i64 e] ∧ t.size ≤ 65536 ∧ b ≤ s.size ∧ (e = 0 → a < b) ∧
      rdC s.data.toList (n - k) (some a) (l.map (·.x)) = rdC s.data.toList (n - (k + 1)) (if e = 0 then some b else none) (l.map (·.x) ++ [callG t]) := by
    have ek : n - k = (n - (k + 1)) + 1 := by omega
    cases hg : cg 65536 (s.data.toList.drop a) with
    | none =>
      rw [hg] at hv
      obtain ⟨e, he, rfl⟩ := hv
      refine ⟨_, 0, e, rfl, by show (⟨#[]⟩ : ByteArray).size ≤ 65536; decide, by omega, fun h => absurd h he, ?_⟩
      have e1 : cutA 65536 s.data.toList a = none := by unfold cutA; rw [hg]; rfl
      rw [if_neg he, rdC_none, ek]
      simp only [rdC, e1]
    | some p =>
      rw [hg] at hv
      have hv : v = .tuple #[.string p.1, .int .i64 ((a + p.2 : Nat) : Int), .int .i64 0] := hv
      have e1 : cutA 65536 s.data.toList a = some (p.1, a + p.2) := by unfold cutA; rw [hg]; rfl
      have h8 := cutA_le e1
      refine ⟨p.1, a + p.2, 0, hv, h8.2.2, by omega, fun _ => h8.1, ?_⟩
      rw [if_pos rfl, ek]
      simp only [rdC, e1]
  obtain ⟨t, b, e, rfl, hts, hb, hab, hr⟩ := hcut
  refine ⟨_, _, _, rfl, ?_⟩
  refine (OCall_ok (s := t) (by omega) w3).mono ?_
  rintro _ w4 ⟨_, rfl, rs, ts, rfl, hO, M4⟩
  have s4 := M4.size
  refine ⟨_, _, _, _, _, _, _, _, _, _, _, _, _, _, _, _, _, _, _, _, rfl, ?_⟩
  refine al_of fun b5 w5 c5 M5 f5 => ?_
  have s5 := M5.size
  have K5 : Mod [] w2 w5 := (M3.go0 M4 (by simp)).go0 M5 (by simp)
  obtain ⟨i0, hi, hz0, hz1, hz2⟩ := info_parts infoCall
  refine append_of (x := (⟨callG t, rs, ts⟩ : CV)) (hRow.keep0 K5) Tryz.underlying39 hi hz0 hz1 hz2 rfl (by decide) c5 rfl (CV.cs_one _) (by omega) (by unfold maxLen; omega) (by omega) fun a' c' w6 hR6 hM6 => ?_
  have M6 := hM6 _ (rowS_ok aa)
  have hrow := rowS_block hRow
  have kp : ∀ {o rs ts}, OpOwn w5 w1.heap.size o rs ts → OpOwn w6 w1.heap.size o rs ts := fun hh => hh.keep M6 fun k hk cs T hc => by
    obtain ⟨_, _, cur, hcur⟩ := hrow k hk
    rw [K5.keep0 hcur] at hc; cases hc; decide
  refine oplog_Parse_leaf1 (n - (k + 1)) (by omega) ⟨k + 1, b, if e = 0 then some b else none, l ++ [⟨callG t, rs, ts⟩], ?_, by omega, rfl, hb, rfl, ?_, by simp; omega, hR6, fun y hy => ?_, (M2.go0 K5 (by simp)).go0 M6 fun i hi => (hrow i hi).1, ?_, rfl⟩
  · have e1 : ((k : Int) + 1) = ((k + 1 : Nat) : Int) := by omega
    rw [e1, wrapU (by omega)]
  · intro h
    have he : e = 0 := by
      by_cases he : e = 0
      · exact he
      · rw [if_neg he] at h; cases h
    have := hab he
    simp; omega
  · rcases List.mem_append.1 hy with hy | hy
    · exact kp ((hOw y hy).keep0 K5)
    · simp at hy; subst hy; exact kp ((hO.keep0 M5).rebase (by omega))
  · rw [hp, hr, List.map_append]; rfl

/-! ### whether calls are alike -/
theorem OSame1_ok {w : World} {p q : CV} (hp : OpAt w p.x.op p.rs p.ts) (hq : OpAt w q.x.op q.rs q.ts) :
    Calls Tryz.prog 94 #[p.v, q.v] w fun e w' => e = .returned (.bool (decide (p.x = q.x))) ∧ Mod [] w w' := by
  obtain ⟨⟨c1, n1, o1⟩, rs1, ts1⟩ := p
  obtain ⟨⟨c2, n2, o2⟩, rs2, ts2⟩ := q
  refine go_of (oplog_Same_1_go ?_)
  intro b1 f1 b2 f2
  refine brB_of (fun g1 => ?_) fun g1 => ?_
  · have g1 : c1 = c2 := by simpa using g1
    refine brB_of (fun g2 => ?_) fun g2 => ?_
    · have g2 : n1 = n2 := by simpa using g2
      intro w3 A3
      refine (OpSame_ok (hp.keep0 A3.mod) (hq.keep0 A3.mod)).mono ?_
      rintro _ w4 ⟨rfl, M4⟩
      refine ⟨_, rfl, Keep.of0 M4, by simp [g1, g2], A3.mod.go0 M4 (by simp)⟩
    · have g2 : ¬ n1 = n2 := by simpa using g2
      intro w3 A3
      exact ⟨by simp [g2], A3.mod⟩
  · have g1 : ¬ c1 = c2 := by simpa using g1
    intro w3 A3
    exact ⟨by simp [g1], A3.mod⟩
theorem OSame_ok {w : World} {s t : Sl} {la lb : List CV} (hA : CsAt w s la) (hB : CsAt w t lb) (hl : la.length ≤ 1000000) :
    Calls Tryz.prog 35 #[.slice s.a s.n s.c, .slice t.a t.n t.c] w fun e w' => e = .returned (.bool (decide (la.map (·.x) = lb.map (·.x)))) ∧ Mod [] w w' := by
  have e1 := hA.sl.1
  have e2 := hB.sl.1
  have main : Calls Tryz.prog 93 #[.slice s.a s.n s.c, .slice t.a t.n t.c, .func (.func 94) #[] #[]] w fun e w' => e = .returned (.bool (decide (la.map (·.x) = lb.map (·.x)))) ∧ Mod [] w w' := by
    refine go_of (slices_EqualFunc_api_Call_api_Call_api_Call_api_Call_go ?_)
    refine brB_of (fun g => ⟨congrArg Value.bool (decide_eq_false fun e => ?_).symm, Mod.refl _⟩) fun g => ?_
    · have := congrArg List.length e
      simp at this g
      omega
    have g : la.length = lb.length := by simp at g; omega
    refine slices_EqualFunc_api_Call_api_Call_api_Call_api_Call_rule1 (fun mm x w' => ∃ k : Nat, x = k ∧ k ≤ la.length ∧ (la.take k).map (·.x) = (lb.take k).map (·.x) ∧ Mod [] w w' ∧ mm = la.length - k) la.length ⟨0, rfl, by omega, by simp, Mod.refl _, rfl⟩ ?_
    rintro mm x w1 ⟨k, rfl, hk, ht, M1, rfl⟩
    refine brB_dec (fun hlt => ?_) fun hge => ?_
    · have g1 : k < la.length := by omega
      have g2 : k < lb.length := by omega
      obtain ⟨x, hx⟩ : ∃ x, la[k]? = some x := ⟨_, List.getElem?_eq_getElem g1⟩
      obtain ⟨y, hy⟩ : ∃ y, lb[k]? = some y := ⟨_, List.getElem?_eq_getElem g2⟩
      refine (hA.sl.keep0 M1).ix hx fun ad had => ldCV_of had ?_
      intro b2 f2
      refine (hB.sl.keep0 M1).ixW hy fun ad had => ?_
      intro w3 A3
      have l2 := A3.lt b2 (by simp)
      refine ldCV_of (had w3 A3.mod) ?_
      intro b4 f4 w5 A5
      have N5 := (M1.go0 A3.mod (by simp)).go0 A5.mod (by simp)
      refine (OSame1_ok (p := x) (q := y) ((hA.op x (List.mem_of_getElem? hx)).keep0 N5) ((hB.op y (List.mem_of_getElem? hy)).keep0 N5)).mono ?_
      rintro _ w6 ⟨rfl, M6⟩
      have N6 := N5.go0 M6 (by simp)
      refine ⟨_, rfl, Keep.of0 M6, brB_of (fun g3 => ?_) fun g3 => ?_⟩
      · have g3 : x.x ≠ y.x := by simpa using g3
        refine ⟨congrArg Value.bool (decide_eq_false fun e => g3 ?_).symm, N6⟩
        have := congrArg (fun l : List PCall => l[k]?) e
        simpa [hx, hy] using this
      · have g3 : x.x = y.x := by simpa using g3
        refine slices_EqualFunc_api_Call_api_Call_api_Call_api_Call_leaf1 (la.length - (k + 1)) (by omega) ⟨k + 1, by rw [wrap_id (by omega) (by omega)]; omega, by omega, ?_, N6, rfl⟩
        rw [List.take_add_one, List.take_add_one, hx, hy, List.map_append, List.map_append, ht]
        simp [g3]
    · have hk' : k = la.length := by omega
      subst hk'
      refine ⟨congrArg Value.bool (decide_eq_true ?_).symm, M1⟩
      rw [List.take_length, List.take_of_length_le (by omega)] at ht
      exact ht
  refine go_of (oplog_Same_go ?_)
  refine main.mono ?_
  rintro _ w1 ⟨rfl, M⟩
  exact ⟨_, rfl, rfl, M⟩
end Go.Proofs.YtohgihgddknmmaaGreat

/- The conditions of Go functions' bodies, printed by gen2.py. -/
namespace Go.Proofs.YtohgihgddknmmaaGreat
open Go Go.RowKit
set_option linter.unusedVariables false
set_option maxRecDepth 100000

def ref01_Put_la1 : LA := ⟨[0, 1, 1], [], [], 0, []⟩
def ref01_Put_an : List LA := [ref01_Put_la1]
def ref01_Put_v1 : List Value := []
def ref01_Put_m1 : List TB := []
def ref01_Put_T (a0 : Int) (R : Value → World → Prop) (w : World) : Prop :=
 brB (decide (a0 < 128)) (
 al w (.cells #[(.int .u8 (IntKind.wrap .u8 a0))] 5) fun b1 w2 =>
 ∃ s3 w4, Sem.run Tryz.prog (Go.convert 122 9 (.slice (some ⟨b1, 0, none⟩) 1 1)) w2 = .ok (.string s3) w4 ∧
 R (.string s3) w4)
 (
 wpV Tryz.prog (subR (code Tryz.f83) [0, 1, 1]) ref01_Put_la1 (kont3 Tryz.prog ref01_Put_an (code Tryz.f83) [1, 1, 0] [] (post3 Tryz.prog Tryz.f83 [] R)) (ref01_Put_v1) (ref01_Put_m1) w)
theorem ref01_Put_eq (a0 : Int) (R : Value → World → Prop) (w : World) :
 dnF Tryz.prog ref01_Put_an (code Tryz.f83) 400 [] (post3 Tryz.prog Tryz.f83 [] R) ⟨args0 0 [(.int .u64 a0)], fun _ => undef⟩ ⟨[], w, [], [], true⟩ = ref01_Put_T a0 R w := by kernel_rfl
theorem ref01_Put_go {a0 : Int} {R : Value → World → Prop} {w : World} (h : ref01_Put_T a0 R w) :
 Calls Tryz.prog 83 #[(.int .u64 a0)] w fun e w' => ∃ v, e = .returned v ∧ R v w' :=
 calls_none Tryz.wide_mixed (f := 83) (args := [(.int .u64 a0)]) Tryz.func83 rfl rfl (by kernel_rfl) rfl (Eq.mpr (ref01_Put_eq a0 R w) h)
def ref01_Text_an : List LA := []
def ref01_Text_T (a0 : ByteArray) (R : Value → World → Prop) (w : World) : Prop :=
 Calls Tryz.prog 83 #[(.int .u64 (IntKind.wrap .u64 (a0.size : Int)))] w fun e w1 => ∃ s2 : ByteArray, e = .returned (.string s2) ∧
 catS s2 a0 fun s3 =>
 R (.string s3) w1
theorem ref01_Text_eq (a0 : ByteArray) (R : Value → World → Prop) (w : World) :
 dnF Tryz.prog ref01_Text_an (code Tryz.f86) 400 [] (post3 Tryz.prog Tryz.f86 [] R) ⟨args0 0 [(.string a0)], fun _ => undef⟩ ⟨[], w, [], [], true⟩ = ref01_Text_T a0 R w := by kernel_rfl
theorem ref01_Text_go {a0 : ByteArray} {R : Value → World → Prop} {w : World} (h : ref01_Text_T a0 R w) :
 Calls Tryz.prog 86 #[(.string a0)] w fun e w' => ∃ v, e = .returned v ∧ R v w' :=
 calls_none Tryz.wide_mixed (f := 86) (args := [(.string a0)]) Tryz.func86 rfl rfl (by kernel_rfl) rfl (Eq.mpr (ref01_Text_eq a0 R w) h)
def ref01_Get_la1 : LA := ⟨[0, 0, 1, 0, 1, 1, 1], [0, 1, 7, 8, 9], [], 0, []⟩
def ref01_Get_an : List LA := [ref01_Get_la1]
def ref01_Get_v1 (a0 : ByteArray) (a1 : Int) (a2 : Int) (a3 : Int) (a4 : Int) : List Value := [(.string a0), (.int .i64 a1), (.int .u64 a2), (.int .u64 a3), (.int .i64 a4)]
def ref01_Get_m1 : List TB := []
def ref01_Get_L1 (a4 : ByteArray) (a2 : Int) (a3 : Int) (a1 : Int) (a0 : Int) (K1 : Kh) (R : Value → World → Prop) (w : World) : Prop :=
 brB (decide (a0 < 10)) (
 brB (decide ((IntKind.wrap .i64 (a2 + a0)) ≥ (a4.size : Int))) (
 R (.tuple #[(.int .u64 0), (.int .i64 0), (.int .i64 10)]) w)
 (
 ixS a4 (IntKind.wrap .i64 (a2 + a0)) fun x1 =>
 brB (a0 == 9) (
 brB (decide ((IntKind.wrap .u64 x1) > 1)) (
 R (.tuple #[(.int .u64 0), (.int .i64 0), (.int .i64 11)]) w)
 (
 brB ((IntKind.wrap .u64 x1) == 0) (
 brB (decide (a0 > 0)) (
 R (.tuple #[(.int .u64 0), (.int .i64 0), (.int .i64 11)]) w)
 (nz 128 (
 brB (decide ((IntKind.wrap .u64 x1) < 128)) (
 R (.tuple #[(.int .u64 (IntKind.wrap .u64 (a3 + (IntKind.wrap .u64 ((Int.tmod (IntKind.wrap .u64 x1) 128) * a1))))), (.int .i64 (IntKind.wrap .i64 ((IntKind.wrap .i64 (a2 + a0)) + 1))), (.int .i64 0)]) w)
 (
 K1 (ref01_Get_v1 a4 a2 (IntKind.wrap .u64 (a3 + (IntKind.wrap .u64 ((Int.tmod (IntKind.wrap .u64 x1) 128) * a1)))) (IntKind.wrap .u64 (a1 * 128)) (IntKind.wrap .i64 (a0 + 1))) (ref01_Get_m1) w))))
 (nz 128 (
 brB (decide ((IntKind.wrap .u64 x1) < 128)) (
 R (.tuple #[(.int .u64 (IntKind.wrap .u64 (a3 + (IntKind.wrap .u64 ((Int.tmod (IntKind.wrap .u64 x1) 128) * a1))))), (.int .i64 (IntKind.wrap .i64 ((IntKind.wrap .i64 (a2 + a0)) + 1))), (.int .i64 0)]) w)
 (
 K1 (ref01_Get_v1 a4 a2 (IntKind.wrap .u64 (a3 + (IntKind.wrap .u64 ((Int.tmod (IntKind.wrap .u64 x1) 128) * a1)))) (IntKind.wrap .u64 (a1 * 128)) (IntKind.wrap .i64 (a0 + 1))) (ref01_Get_m1) w)))))
 (
 brB ((IntKind.wrap .u64 x1) == 0) (
 brB (decide (a0 > 0)) (
 R (.tuple #[(.int .u64 0), (.int .i64 0), (.int .i64 11)]) w)
 (nz 128 (
 brB (decide ((IntKind.wrap .u64 x1) < 128)) (
 R (.tuple #[(.int .u64 (IntKind.wrap .u64 (a3 + (IntKind.wrap .u64 ((Int.tmod (IntKind.wrap .u64 x1) 128) * a1))))), (.int .i64 (IntKind.wrap .i64 ((IntKind.wrap .i64 (a2 + a0)) + 1))), (.int .i64 0)]) w)
 (
 K1 (ref01_Get_v1 a4 a2 (IntKind.wrap .u64 (a3 + (IntKind.wrap .u64 ((Int.tmod (IntKind.wrap .u64 x1) 128) * a1)))) (IntKind.wrap .u64 (a1 * 128)) (IntKind.wrap .i64 (a0 + 1))) (ref01_Get_m1) w))))
 (nz 128 (
 brB (decide ((IntKind.wrap .u64 x1) < 128)) (
 R (.tuple #[(.int .u64 (IntKind.wrap .u64 (a3 + (IntKind.wrap .u64 ((Int.tmod (IntKind.wrap .u64 x1) 128) * a1))))), (.int .i64 (IntKind.wrap .i64 ((IntKind.wrap .i64 (a2 + a0)) + 1))), (.int .i64 0)]) w)
 (
 K1 (ref01_Get_v1 a4 a2 (IntKind.wrap .u64 (a3 + (IntKind.wrap .u64 ((Int.tmod (IntKind.wrap .u64 x1) 128) * a1)))) (IntKind.wrap .u64 (a1 * 128)) (IntKind.wrap .i64 (a0 + 1))) (ref01_Get_m1) w))))))
 (
 R (.tuple #[(.int .u64 0), (.int .i64 0), (.int .i64 11)]) w)
theorem ref01_Get_L1_eq (a0 : ByteArray) (a1 : Int) (a2 : Int) (a3 : Int) (a4 : Int) (K1 : Kh) (js : Nat → Value) (R : Value → World → Prop) (w : World) :
 headA ref01_Get_la1 ((dnF Tryz.prog ref01_Get_an (code Tryz.f90) 395 [0, 0, 1, 0, 1, 1, 1]) (kthen3 (atA ref01_Get_la1 K1) (kont3 Tryz.prog ref01_Get_an (code Tryz.f90) [1, 1, 1, 0, 1, 0] [] (post3 Tryz.prog Tryz.f90 [] R)))) (ref01_Get_v1 a0 a1 a2 a3 a4) js (ref01_Get_m1) w = ref01_Get_L1 a0 a1 a2 a3 a4 K1 R w := by kernel_rfl
def ref01_Get_K1 (a3 : ByteArray) (a4 : Int) (I : Nat → Int → Int → Int → World → Prop) (m : Nat) (vals : List Value) (mem : List TB) (w : World) : Prop := ∃ m', m' < m ∧ ∃ a0 a1 a2, vals = (ref01_Get_v1 a3 a4 a0 a1 a2) ∧ mem = (ref01_Get_m1) ∧ I m' a0 a1 a2 w
theorem ref01_Get_leaf1 {a0 : ByteArray} {a1 : Int} {I : Nat → Int → Int → Int → World → Prop} {m : Nat} {a2 : Int} {a3 : Int} {a4 : Int} {w : World} (m' : Nat) (h1 : m' < m) (h2 : I m' a2 a3 a4 w) : ref01_Get_K1 a0 a1 I m (ref01_Get_v1 a0 a1 a2 a3 a4) (ref01_Get_m1) w := ⟨m', h1, _, _, _, rfl, rfl, h2⟩
theorem ref01_Get_rule1 {a3 : ByteArray} {a4 : Int} {a5 : Int} {a6 : Int} {a7 : Int} {R : Value → World → Prop} {w0 : World} (I : Nat → Int → Int → Int → World → Prop) (m0 : Nat) (h0 : I m0 a5 a6 a7 w0)
 (hr : ∀ (m : Nat) (a0 : Int) (a1 : Int) (a2 : Int) (w : World), I m a0 a1 a2 w → ref01_Get_L1 a3 a4 a0 a1 a2 (ref01_Get_K1 a3 a4 I m) R w) :
 loopD3 ref01_Get_la1 (dnF Tryz.prog ref01_Get_an (code Tryz.f90) 395 [0, 0, 1, 0, 1, 1, 1]) (kont3 Tryz.prog ref01_Get_an (code Tryz.f90) [1, 1, 1, 0, 1, 0] [] (post3 Tryz.prog Tryz.f90 [] R)) (ref01_Get_v1 a3 a4 a5 a6 a7) (ref01_Get_m1) w0 := by
 refine ⟨fun m vals mem w => ∃ a0 a1 a2, vals = (ref01_Get_v1 a3 a4 a0 a1 a2) ∧ mem = (ref01_Get_m1) ∧ I m a0 a1 a2 w, m0, ⟨_, _, _, rfl, rfl, h0⟩, ?_⟩
 rintro m vals mem w ⟨a0, a1, a2, rfl, rfl, hI⟩
 refine ⟨rfl, rfl, fun js => ?_⟩
 have h := hr m a0 a1 a2 w hI
 rw [← ref01_Get_L1_eq _ _ _ _ _ _ js] at h
 exact h
def ref01_Get_T (a1 : ByteArray) (a0 : Int) (R : Value → World → Prop) (w : World) : Prop :=
 brB (decide (a0 < 0)) (
 R (.tuple #[(.int .u64 0), (.int .i64 0), (.int .i64 1)]) w)
 (
 brB (decide (a0 > (a1.size : Int))) (
 R (.tuple #[(.int .u64 0), (.int .i64 0), (.int .i64 1)]) w)
 (
 loopD3 ref01_Get_la1 (dnF Tryz.prog ref01_Get_an (code Tryz.f90) 395 [0, 0, 1, 0, 1, 1, 1]) (kont3 Tryz.prog ref01_Get_an (code Tryz.f90) [1, 1, 1, 0, 1, 0] [] (post3 Tryz.prog Tryz.f90 [] R)) (ref01_Get_v1 a1 a0 0 1 0) (ref01_Get_m1) w))
theorem ref01_Get_eq (a1 : ByteArray) (a0 : Int) (R : Value → World → Prop) (w : World) :
 dnF Tryz.prog ref01_Get_an (code Tryz.f90) 400 [] (post3 Tryz.prog Tryz.f90 [] R) ⟨args0 0 [(.string a1), (.int .i64 a0)], fun _ => undef⟩ ⟨[], w, [], [], true⟩ = ref01_Get_T a1 a0 R w := by kernel_rfl
theorem ref01_Get_go {a1 : ByteArray} {a0 : Int} {R : Value → World → Prop} {w : World} (h : ref01_Get_T a1 a0 R w) :
 Calls Tryz.prog 90 #[(.string a1), (.int .i64 a0)] w fun e w' => ∃ v, e = .returned v ∧ R v w' :=
 calls_none Tryz.wide_mixed (f := 90) (args := [(.string a1), (.int .i64 a0)]) Tryz.func90 rfl rfl (by kernel_rfl) rfl (Eq.mpr (ref01_Get_eq a1 a0 R w) h)
def ref01_GetText_an : List LA := []
def ref01_GetText_T (a1 : ByteArray) (a2 : Int) (a0 : Int) (R : Value → World → Prop) (w : World) : Prop :=
 Calls Tryz.prog 90 #[(.string a1), (.int .i64 a2)] w fun e w1 => ∃ x2 : Int, ∃ x3 : Int, ∃ x4 : Int, e = .returned (.tuple #[(.int .u64 x2), (.int .i64 x3), (.int .i64 x4)]) ∧
 brB (x4 != 0) (
 R (.tuple #[(.string (⟨#[]⟩ : ByteArray)), (.int .i64 0), (.int .i64 x4)]) w1)
 (
 brB (decide (a0 < 0)) (
 R (.tuple #[(.string (⟨#[]⟩ : ByteArray)), (.int .i64 0), (.int .i64 2)]) w1)
 (
 brB (decide (x2 > (IntKind.wrap .u64 a0))) (
 R (.tuple #[(.string (⟨#[]⟩ : ByteArray)), (.int .i64 0), (.int .i64 2)]) w1)
 (
 brB (decide (x2 > (IntKind.wrap .u64 (IntKind.wrap .i64 ((a1.size : Int) - x3))))) (
 R (.tuple #[(.string (⟨#[]⟩ : ByteArray)), (.int .i64 0), (.int .i64 10)]) w1)
 (
 slS a1 x3 (IntKind.wrap .i64 (x3 + (IntKind.wrap .i64 x2))) fun s5 =>
 R (.tuple #[(.string s5), (.int .i64 (IntKind.wrap .i64 (x3 + (IntKind.wrap .i64 x2)))), (.int .i64 0)]) w1))))
theorem ref01_GetText_eq (a2 : ByteArray) (a1 : Int) (a0 : Int) (R : Value → World → Prop) (w : World) :
 dnF Tryz.prog ref01_GetText_an (code Tryz.f138) 400 [] (post3 Tryz.prog Tryz.f138 [] R) ⟨args0 0 [(.string a2), (.int .i64 a1), (.int .i64 a0)], fun _ => undef⟩ ⟨[], w, [], [], true⟩ = ref01_GetText_T a2 a1 a0 R w := by kernel_rfl
theorem ref01_GetText_go {a2 : ByteArray} {a1 : Int} {a0 : Int} {R : Value → World → Prop} {w : World} (h : ref01_GetText_T a2 a1 a0 R w) :
 Calls Tryz.prog 138 #[(.string a2), (.int .i64 a1), (.int .i64 a0)] w fun e w' => ∃ v, e = .returned v ∧ R v w' :=
 calls_none Tryz.wide_mixed (f := 138) (args := [(.string a2), (.int .i64 a1), (.int .i64 a0)]) Tryz.func138 rfl rfl (by kernel_rfl) rfl (Eq.mpr (ref01_GetText_eq a2 a1 a0 R w) h)
def ref02_Turn_la1 : LA := ⟨[0, 0, 1, 0, 1, 1], [0, 1, 5, 6, 7], [], 0, []⟩
def ref02_Turn_an : List LA := [ref02_Turn_la1]
def ref02_Turn_v1 (a0 : Int) (a1 : Int) (a2 : Int) (a3 : Int) (a4 : Int) : List Value := [(.int .u32 a0), (.int .u32 a1), (.int .u32 a2), (.int .u32 a3), (.int .i64 a4)]
def ref02_Turn_m1 : List TB := []
def ref02_Turn_L1 (a0 : Int) (a1 : Int) (a2 : Int) (a3 : Int) (a4 : Int) (K1 : Kh) (R : Value → World → Prop) (w : World) : Prop :=
 brB (decide (a4 < 32)) (nz 2 (nz 2 (
 brB ((Int.tmod a0 2) != (Int.tmod a1 2)) (nz 2 (nz 2 (
 K1 (ref02_Turn_v1 (IntKind.wrap .u32 (Int.tdiv a0 2)) (IntKind.wrap .u32 (Int.tdiv a1 2)) (IntKind.wrap .u32 (a2 + a3)) (IntKind.wrap .u32 (a3 * 2)) (IntKind.wrap .i64 (a4 + 1))) (ref02_Turn_m1) w)))
 (nz 2 (nz 2 (
 K1 (ref02_Turn_v1 (IntKind.wrap .u32 (Int.tdiv a0 2)) (IntKind.wrap .u32 (Int.tdiv a1 2)) a2 (IntKind.wrap .u32 (a3 * 2)) (IntKind.wrap .i64 (a4 + 1))) (ref02_Turn_m1) w))))))
 (
 R (.int .u32 a2) w)
theorem ref02_Turn_L1_eq (a0 : Int) (a1 : Int) (a2 : Int) (a3 : Int) (a4 : Int) (K1 : Kh) (js : Nat → Value) (R : Value → World → Prop) (w : World) :
 headA ref02_Turn_la1 ((dnF Tryz.prog ref02_Turn_an (code Tryz.f166) 396 [0, 0, 1, 0, 1, 1]) (kthen3 (atA ref02_Turn_la1 K1) (kont3 Tryz.prog ref02_Turn_an (code Tryz.f166) [1, 1, 0, 1, 0] [] (post3 Tryz.prog Tryz.f166 [] R)))) (ref02_Turn_v1 a0 a1 a2 a3 a4) js (ref02_Turn_m1) w = ref02_Turn_L1 a0 a1 a2 a3 a4 K1 R w := by kernel_rfl
def ref02_Turn_K1 (I : Nat → Int → Int → Int → Int → Int → World → Prop) (m : Nat) (vals : List Value) (mem : List TB) (w : World) : Prop := ∃ m', m' < m ∧ ∃ a0 a1 a2 a3 a4, vals = (ref02_Turn_v1 a0 a1 a2 a3 a4) ∧ mem = (ref02_Turn_m1) ∧ I m' a0 a1 a2 a3 a4 w
theorem ref02_Turn_leaf1 {I : Nat → Int → Int → Int → Int → Int → World → Prop} {m : Nat} {a0 : Int} {a1 : Int} {a2 : Int} {a3 : Int} {a4 : Int} {w : World} (m' : Nat) (h1 : m' < m) (h2 : I m' a0 a1 a2 a3 a4 w) : ref02_Turn_K1 I m (ref02_Turn_v1 a0 a1 a2 a3 a4) (ref02_Turn_m1) w := ⟨m', h1, _, _, _, _, _, rfl, rfl, h2⟩
theorem ref02_Turn_rule1 {a5 : Int} {a6 : Int} {a7 : Int} {a8 : Int} {a9 : Int} {R : Value → World → Prop} {w0 : World} (I : Nat → Int → Int → Int → Int → Int → World → Prop) (m0 : Nat) (h0 : I m0 a5 a6 a7 a8 a9 w0)
 (hr : ∀ (m : Nat) (a0 : Int) (a1 : Int) (a2 : Int) (a3 : Int) (a4 : Int) (w : World), I m a0 a1 a2 a3 a4 w → ref02_Turn_L1 a0 a1 a2 a3 a4 (ref02_Turn_K1 I m) R w) :
 loopD3 ref02_Turn_la1 (dnF Tryz.prog ref02_Turn_an (code Tryz.f166) 396 [0, 0, 1, 0, 1, 1]) (kont3 Tryz.prog ref02_Turn_an (code Tryz.f166) [1, 1, 0, 1, 0] [] (post3 Tryz.prog Tryz.f166 [] R)) (ref02_Turn_v1 a5 a6 a7 a8 a9) (ref02_Turn_m1) w0 := by
 refine ⟨fun m vals mem w => ∃ a0 a1 a2 a3 a4, vals = (ref02_Turn_v1 a0 a1 a2 a3 a4) ∧ mem = (ref02_Turn_m1) ∧ I m a0 a1 a2 a3 a4 w, m0, ⟨_, _, _, _, _, rfl, rfl, h0⟩, ?_⟩
 rintro m vals mem w ⟨a0, a1, a2, a3, a4, rfl, rfl, hI⟩
 refine ⟨rfl, rfl, fun js => ?_⟩
 have h := hr m a0 a1 a2 a3 a4 w hI
 rw [← ref02_Turn_L1_eq _ _ _ _ _ _ js] at h
 exact h
def ref02_Turn_T (a0 : Int) (a1 : Int) (R : Value → World → Prop) (w : World) : Prop :=
 loopD3 ref02_Turn_la1 (dnF Tryz.prog ref02_Turn_an (code Tryz.f166) 396 [0, 0, 1, 0, 1, 1]) (kont3 Tryz.prog ref02_Turn_an (code Tryz.f166) [1, 1, 0, 1, 0] [] (post3 Tryz.prog Tryz.f166 [] R)) (ref02_Turn_v1 a0 a1 0 1 0) (ref02_Turn_m1) w
theorem ref02_Turn_eq (a0 : Int) (a1 : Int) (R : Value → World → Prop) (w : World) :
 dnF Tryz.prog ref02_Turn_an (code Tryz.f166) 400 [] (post3 Tryz.prog Tryz.f166 [] R) ⟨args0 0 [(.int .u32 a0), (.int .u32 a1)], fun _ => undef⟩ ⟨[], w, [], [], true⟩ = ref02_Turn_T a0 a1 R w := by kernel_rfl
theorem ref02_Turn_go {a0 : Int} {a1 : Int} {R : Value → World → Prop} {w : World} (h : ref02_Turn_T a0 a1 R w) :
 Calls Tryz.prog 166 #[(.int .u32 a0), (.int .u32 a1)] w fun e w' => ∃ v, e = .returned v ∧ R v w' :=
 calls_none Tryz.wide_mixed (f := 166) (args := [(.int .u32 a0), (.int .u32 a1)]) Tryz.func166 rfl rfl (by kernel_rfl) rfl (Eq.mpr (ref02_Turn_eq a0 a1 R w) h)
def ref02_More_la1 : LA := ⟨[0, 0, 1, 0, 1, 1], [1, 5, 6], [], 0, []⟩
def ref02_More_la2 : LA := ⟨[0, 0, 1, 1, 0, 0, 1, 0, 0, 1, 0, 1, 1], [1, 5, 6, 7], [], 0, []⟩
def ref02_More_an : List LA := [ref02_More_la1, ref02_More_la2]
def ref02_More_v1 (a0 : ByteArray) (a1 : Int) (a2 : Int) : List Value := [(.string a0), (.int .u32 a1), (.int .i64 a2)]
def ref02_More_m1 : List TB := []
def ref02_More_v2 (a0 : ByteArray) (a2 : Int) (a1 : Int) (a3 : Int) : List Value := [(.string a0), (.int .u32 a1), (.int .i64 a2), (.int .i64 a3)]
def ref02_More_m2 : List TB := []
def ref02_More_L1 (a0 : ByteArray) (a2 : Int) (a1 : Int) (K1 : Kh) (R : Value → World → Prop) (w : World) : Prop :=
 brB (decide (a1 < (a0.size : Int))) (
 ixS a0 a1 fun x1 =>
 Calls Tryz.prog 166 #[(.int .u32 a2), (.int .u32 (IntKind.wrap .u32 x1))] w fun e w2 => ∃ x3 : Int, e = .returned (.int .u32 x3) ∧
 loopD3 ref02_More_la2 (dnF Tryz.prog ref02_More_an (code Tryz.f156) 392 [0, 0, 1, 1, 0, 0, 1, 0, 0, 1, 0, 1, 1]) (kont3 Tryz.prog ref02_More_an (code Tryz.f156) [1, 1, 0, 1, 0, 0, 1, 0, 0, 1, 1, 0] [K1] (post3 Tryz.prog Tryz.f156 [] R)) (ref02_More_v2 a0 a1 x3 0) (ref02_More_m2) w2)
 (
 R (.int .u32 (IntKind.wrap .u32 (4294967295 - a2))) w)
theorem ref02_More_L1_eq (a0 : ByteArray) (a1 : Int) (a2 : Int) (K1 : Kh) (js : Nat → Value) (R : Value → World → Prop) (w : World) :
 headA ref02_More_la1 ((dnF Tryz.prog ref02_More_an (code Tryz.f156) 396 [0, 0, 1, 0, 1, 1]) (kthen3 (atA ref02_More_la1 K1) (kont3 Tryz.prog ref02_More_an (code Tryz.f156) [1, 1, 0, 1, 0] [] (post3 Tryz.prog Tryz.f156 [] R)))) (ref02_More_v1 a0 a1 a2) js (ref02_More_m1) w = ref02_More_L1 a0 a1 a2 K1 R w := by kernel_rfl
def ref02_More_K1 (a2 : ByteArray) (I : Nat → Int → Int → World → Prop) (m : Nat) (vals : List Value) (mem : List TB) (w : World) : Prop := ∃ m', m' < m ∧ ∃ a0 a1, vals = (ref02_More_v1 a2 a0 a1) ∧ mem = (ref02_More_m1) ∧ I m' a0 a1 w
theorem ref02_More_leaf1 {a0 : ByteArray} {I : Nat → Int → Int → World → Prop} {m : Nat} {a1 : Int} {a2 : Int} {w : World} (m' : Nat) (h1 : m' < m) (h2 : I m' a1 a2 w) : ref02_More_K1 a0 I m (ref02_More_v1 a0 a1 a2) (ref02_More_m1) w := ⟨m', h1, _, _, rfl, rfl, h2⟩
theorem ref02_More_rule1 {a2 : ByteArray} {a3 : Int} {a4 : Int} {R : Value → World → Prop} {w0 : World} (I : Nat → Int → Int → World → Prop) (m0 : Nat) (h0 : I m0 a3 a4 w0)
 (hr : ∀ (m : Nat) (a0 : Int) (a1 : Int) (w : World), I m a0 a1 w → ref02_More_L1 a2 a0 a1 (ref02_More_K1 a2 I m) R w) :
 loopD3 ref02_More_la1 (dnF Tryz.prog ref02_More_an (code Tryz.f156) 396 [0, 0, 1, 0, 1, 1]) (kont3 Tryz.prog ref02_More_an (code Tryz.f156) [1, 1, 0, 1, 0] [] (post3 Tryz.prog Tryz.f156 [] R)) (ref02_More_v1 a2 a3 a4) (ref02_More_m1) w0 := by
 refine ⟨fun m vals mem w => ∃ a0 a1, vals = (ref02_More_v1 a2 a0 a1) ∧ mem = (ref02_More_m1) ∧ I m a0 a1 w, m0, ⟨_, _, rfl, rfl, h0⟩, ?_⟩
 rintro m vals mem w ⟨a0, a1, rfl, rfl, hI⟩
 refine ⟨rfl, rfl, fun js => ?_⟩
 have h := hr m a0 a1 w hI
 rw [← ref02_More_L1_eq _ _ _ _ js] at h
 exact h
def ref02_More_L2 (a1 : ByteArray) (a2 : Int) (a0 : Int) (a3 : Int) (K1 : Kh) (K2 : Kh) (R : Value → World → Prop) (w : World) : Prop :=
 brB (decide (a3 < 8)) (nz 2 (nz 2 (
 brB ((Int.tmod a0 2) == 1) (
 Calls Tryz.prog 166 #[(.int .u32 (IntKind.wrap .u32 (Int.tdiv a0 2))), (.int .u32 3988292384)] w fun e w4 => ∃ x5 : Int, e = .returned (.int .u32 x5) ∧
 K2 (ref02_More_v2 a1 a2 x5 (IntKind.wrap .i64 (a3 + 1))) (ref02_More_m2) w4)
 (
 K2 (ref02_More_v2 a1 a2 (IntKind.wrap .u32 (Int.tdiv a0 2)) (IntKind.wrap .i64 (a3 + 1))) (ref02_More_m2) w))))
 (
 K1 (ref02_More_v1 a1 a0 (IntKind.wrap .i64 (a2 + 1))) (ref02_More_m1) w)
theorem ref02_More_L2_eq (a0 : ByteArray) (a2 : Int) (a1 : Int) (a3 : Int) (K1 : Kh) (K2 : Kh) (js : Nat → Value) (R : Value → World → Prop) (w : World) :
 headA ref02_More_la2 ((dnF Tryz.prog ref02_More_an (code Tryz.f156) 392 [0, 0, 1, 1, 0, 0, 1, 0, 0, 1, 0, 1, 1]) (kthen3 (atA ref02_More_la2 K2) (kont3 Tryz.prog ref02_More_an (code Tryz.f156) [1, 1, 0, 1, 0, 0, 1, 0, 0, 1, 1, 0] [K1] (post3 Tryz.prog Tryz.f156 [] R)))) (ref02_More_v2 a0 a2 a1 a3) js (ref02_More_m2) w = ref02_More_L2 a0 a2 a1 a3 K1 K2 R w := by kernel_rfl
def ref02_More_K2 (a2 : ByteArray) (a3 : Int) (I : Nat → Int → Int → World → Prop) (m : Nat) (vals : List Value) (mem : List TB) (w : World) : Prop := ∃ m', m' < m ∧ ∃ a0 a1, vals = (ref02_More_v2 a2 a3 a0 a1) ∧ mem = (ref02_More_m2) ∧ I m' a0 a1 w
theorem ref02_More_leaf2 {a0 : ByteArray} {a2 : Int} {I : Nat → Int → Int → World → Prop} {m : Nat} {a1 : Int} {a3 : Int} {w : World} (m' : Nat) (h1 : m' < m) (h2 : I m' a1 a3 w) : ref02_More_K2 a0 a2 I m (ref02_More_v2 a0 a2 a1 a3) (ref02_More_m2) w := ⟨m', h1, _, _, rfl, rfl, h2⟩
theorem ref02_More_rule2 {a2 : ByteArray} {a3 : Int} {a4 : Int} {a5 : Int} {R : Value → World → Prop} {w0 : World} {K1 : Kh} (I : Nat → Int → Int → World → Prop) (m0 : Nat) (h0 : I m0 a4 a5 w0)
 (hr : ∀ (m : Nat) (a0 : Int) (a1 : Int) (w : World), I m a0 a1 w → ref02_More_L2 a2 a3 a0 a1 K1 (ref02_More_K2 a2 a3 I m) R w) :
 loopD3 ref02_More_la2 (dnF Tryz.prog ref02_More_an (code Tryz.f156) 392 [0, 0, 1, 1, 0, 0, 1, 0, 0, 1, 0, 1, 1]) (kont3 Tryz.prog ref02_More_an (code Tryz.f156) [1, 1, 0, 1, 0, 0, 1, 0, 0, 1, 1, 0] [K1] (post3 Tryz.prog Tryz.f156 [] R)) (ref02_More_v2 a2 a3 a4 a5) (ref02_More_m2) w0 := by
 refine ⟨fun m vals mem w => ∃ a0 a1, vals = (ref02_More_v2 a2 a3 a0 a1) ∧ mem = (ref02_More_m2) ∧ I m a0 a1 w, m0, ⟨_, _, rfl, rfl, h0⟩, ?_⟩
 rintro m vals mem w ⟨a0, a1, rfl, rfl, hI⟩
 refine ⟨rfl, rfl, fun js => ?_⟩
 have h := hr m a0 a1 w hI
 rw [← ref02_More_L2_eq _ _ _ _ _ _ js] at h
 exact h
def ref02_More_T (a0 : Int) (a1 : ByteArray) (R : Value → World → Prop) (w : World) : Prop :=
 loopD3 ref02_More_la1 (dnF Tryz.prog ref02_More_an (code Tryz.f156) 396 [0, 0, 1, 0, 1, 1]) (kont3 Tryz.prog ref02_More_an (code Tryz.f156) [1, 1, 0, 1, 0] [] (post3 Tryz.prog Tryz.f156 [] R)) (ref02_More_v1 a1 (IntKind.wrap .u32 (4294967295 - a0)) 0) (ref02_More_m1) w
theorem ref02_More_eq (a0 : Int) (a1 : ByteArray) (R : Value → World → Prop) (w : World) :
 dnF Tryz.prog ref02_More_an (code Tryz.f156) 400 [] (post3 Tryz.prog Tryz.f156 [] R) ⟨args0 0 [(.int .u32 a0), (.string a1)], fun _ => undef⟩ ⟨[], w, [], [], true⟩ = ref02_More_T a0 a1 R w := by kernel_rfl
theorem ref02_More_go {a0 : Int} {a1 : ByteArray} {R : Value → World → Prop} {w : World} (h : ref02_More_T a0 a1 R w) :
 Calls Tryz.prog 156 #[(.int .u32 a0), (.string a1)] w fun e w' => ∃ v, e = .returned v ∧ R v w' :=
 calls_none Tryz.wide_mixed (f := 156) (args := [(.int .u32 a0), (.string a1)]) Tryz.func156 rfl rfl (by kernel_rfl) rfl (Eq.mpr (ref02_More_eq a0 a1 R w) h)
def ref02_Sum_an : List LA := []
def ref02_Sum_T (a0 : ByteArray) (R : Value → World → Prop) (w : World) : Prop :=
 Calls Tryz.prog 156 #[(.int .u32 0), (.string a0)] w fun e w1 => ∃ x2 : Int, e = .returned (.int .u32 x2) ∧
 R (.int .u32 x2) w1
theorem ref02_Sum_eq (a0 : ByteArray) (R : Value → World → Prop) (w : World) :
 dnF Tryz.prog ref02_Sum_an (code Tryz.f134) 400 [] (post3 Tryz.prog Tryz.f134 [] R) ⟨args0 0 [(.string a0)], fun _ => undef⟩ ⟨[], w, [], [], true⟩ = ref02_Sum_T a0 R w := by kernel_rfl
theorem ref02_Sum_go {a0 : ByteArray} {R : Value → World → Prop} {w : World} (h : ref02_Sum_T a0 R w) :
 Calls Tryz.prog 134 #[(.string a0)] w fun e w' => ∃ v, e = .returned v ∧ R v w' :=
 calls_none Tryz.wide_mixed (f := 134) (args := [(.string a0)]) Tryz.func134 rfl rfl (by kernel_rfl) rfl (Eq.mpr (ref02_Sum_eq a0 R w) h)
def ref02_Four_an : List LA := []
def ref02_Four_T (a0 : Int) (R : Value → World → Prop) (w : World) : Prop :=
 nz 256 (nz 256 (nz 256 (nz 65536 (nz 256 (nz 16777216 (
 al w (.cells #[(.int .u8 (IntKind.wrap .u8 (Int.tmod a0 256))), (.int .u8 (IntKind.wrap .u8 (Int.tmod (IntKind.wrap .u32 (Int.tdiv a0 256)) 256))), (.int .u8 (IntKind.wrap .u8 (Int.tmod (IntKind.wrap .u32 (Int.tdiv a0 65536)) 256))), (.int .u8 (IntKind.wrap .u8 (IntKind.wrap .u32 (Int.tdiv a0 16777216))))] 5) fun b1 w2 =>
 ∃ s3 w4, Sem.run Tryz.prog (Go.convert 122 9 (.slice (some ⟨b1, 0, none⟩) 4 4)) w2 = .ok (.string s3) w4 ∧
 R (.string s3) w4))))))
theorem ref02_Four_eq (a0 : Int) (R : Value → World → Prop) (w : World) :
 dnF Tryz.prog ref02_Four_an (code Tryz.f133) 400 [] (post3 Tryz.prog Tryz.f133 [] R) ⟨args0 0 [(.int .u32 a0)], fun _ => undef⟩ ⟨[], w, [], [], true⟩ = ref02_Four_T a0 R w := by kernel_rfl
theorem ref02_Four_go {a0 : Int} {R : Value → World → Prop} {w : World} (h : ref02_Four_T a0 R w) :
 Calls Tryz.prog 133 #[(.int .u32 a0)] w fun e w' => ∃ v, e = .returned v ∧ R v w' :=
 calls_none Tryz.wide_mixed (f := 133) (args := [(.int .u32 a0)]) Tryz.func133 rfl rfl (by kernel_rfl) rfl (Eq.mpr (ref02_Four_eq a0 R w) h)
def ref02_Frame_an : List LA := []
def ref02_Frame_T (a0 : ByteArray) (R : Value → World → Prop) (w : World) : Prop :=
 Calls Tryz.prog 86 #[(.string a0)] w fun e w1 => ∃ s2 : ByteArray, e = .returned (.string s2) ∧
 Calls Tryz.prog 134 #[(.string a0)] w1 fun e w3 => ∃ x4 : Int, e = .returned (.int .u32 x4) ∧
 Calls Tryz.prog 133 #[(.int .u32 x4)] w3 fun e w5 => ∃ s6 : ByteArray, e = .returned (.string s6) ∧
 catS s2 s6 fun s7 =>
 R (.string s7) w5
theorem ref02_Frame_eq (a0 : ByteArray) (R : Value → World → Prop) (w : World) :
 dnF Tryz.prog ref02_Frame_an (code Tryz.f85) 400 [] (post3 Tryz.prog Tryz.f85 [] R) ⟨args0 0 [(.string a0)], fun _ => undef⟩ ⟨[], w, [], [], true⟩ = ref02_Frame_T a0 R w := by kernel_rfl
theorem ref02_Frame_go {a0 : ByteArray} {R : Value → World → Prop} {w : World} (h : ref02_Frame_T a0 R w) :
 Calls Tryz.prog 85 #[(.string a0)] w fun e w' => ∃ v, e = .returned v ∧ R v w' :=
 calls_none Tryz.wide_mixed (f := 85) (args := [(.string a0)]) Tryz.func85 rfl rfl (by kernel_rfl) rfl (Eq.mpr (ref02_Frame_eq a0 R w) h)
def ref02_Cut_an : List LA := []
def ref02_Cut_T (a0 : ByteArray) (a2 : Int) (a1 : Int) (R : Value → World → Prop) (w : World) : Prop :=
 Calls Tryz.prog 138 #[(.string a0), (.int .i64 a2), (.int .i64 a1)] w fun e w1 => ∃ s2 : ByteArray, ∃ x3 : Int, ∃ x4 : Int, e = .returned (.tuple #[(.string s2), (.int .i64 x3), (.int .i64 x4)]) ∧
 brB (x4 != 0) (
 R (.tuple #[(.string (⟨#[]⟩ : ByteArray)), (.int .i64 0), (.int .i64 x4)]) w1)
 (
 brB (decide ((IntKind.wrap .i64 ((a0.size : Int) - x3)) < 4)) (
 R (.tuple #[(.string (⟨#[]⟩ : ByteArray)), (.int .i64 0), (.int .i64 20)]) w1)
 (
 slS a0 x3 (IntKind.wrap .i64 (x3 + 4)) fun s5 =>
 ∀ w6, Adv [] [] w1 w6 →
 Calls Tryz.prog 134 #[(.string s2)] w6 fun e w7 => ∃ x8 : Int, e = .returned (.int .u32 x8) ∧
 Calls Tryz.prog 133 #[(.int .u32 x8)] w7 fun e w9 => ∃ s10 : ByteArray, e = .returned (.string s10) ∧
 brB (!(s5.toList == s10.toList)) (
 R (.tuple #[(.string (⟨#[]⟩ : ByteArray)), (.int .i64 0), (.int .i64 21)]) w9)
 (
 R (.tuple #[(.string s2), (.int .i64 (IntKind.wrap .i64 (x3 + 4))), (.int .i64 0)]) w9)))
theorem ref02_Cut_eq (a2 : ByteArray) (a1 : Int) (a0 : Int) (R : Value → World → Prop) (w : World) :
 dnF Tryz.prog ref02_Cut_an (code Tryz.f91) 400 [] (post3 Tryz.prog Tryz.f91 [] R) ⟨args0 0 [(.string a2), (.int .i64 a1), (.int .i64 a0)], fun _ => undef⟩ ⟨[], w, [], [], true⟩ = ref02_Cut_T a2 a1 a0 R w := by kernel_rfl
theorem ref02_Cut_go {a2 : ByteArray} {a1 : Int} {a0 : Int} {R : Value → World → Prop} {w : World} (h : ref02_Cut_T a2 a1 a0 R w) :
 Calls Tryz.prog 91 #[(.string a2), (.int .i64 a1), (.int .i64 a0)] w fun e w' => ∃ v, e = .returned v ∧ R v w' :=
 calls_none Tryz.wide_mixed (f := 91) (args := [(.string a2), (.int .i64 a1), (.int .i64 a0)]) Tryz.func91 rfl rfl (by kernel_rfl) rfl (Eq.mpr (ref02_Cut_eq a2 a1 a0 R w) h)
def ref03_Text_an : List LA := []
def ref03_Text_T (a2 : Bool) (a1 : ByteArray) (a3 : Bool) (a0 : ByteArray) (R : Value → World → Prop) (w : World) : Prop :=
 ∀ b1, w.heap.size ≤ b1 →
 brB a3 (
 ∀ w2, Adv [] [b1] w w2 →
 Calls Tryz.prog 86 #[(.string a1)] w2 fun e w3 => ∃ s4 : ByteArray, e = .returned (.string s4) ∧ Keep [b1] w2 w3 ∧
 catS (⟨#[3]⟩ : ByteArray) s4 fun s5 =>
 R (.string s5) w3)
 (
 brB a2 (
 ∀ w6, Adv [] [b1] w w6 →
 Calls Tryz.prog 86 #[(.string a1)] w6 fun e w7 => ∃ s8 : ByteArray, e = .returned (.string s8) ∧ Keep [b1] w6 w7 ∧ (((.string a0) : Value) = (.string a0)) ∧
 catS (⟨#[1]⟩ : ByteArray) s8 fun s9 =>
 Calls Tryz.prog 86 #[(.string a0)] w7 fun e w10 => ∃ s11 : ByteArray, e = .returned (.string s11) ∧ Keep [b1] w7 w10 ∧
 catS s9 s11 fun s12 =>
 R (.string s12) w10)
 (
 ∀ w13, Adv [] [b1] w w13 →
 Calls Tryz.prog 86 #[(.string a0)] w13 fun e w14 => ∃ s15 : ByteArray, e = .returned (.string s15) ∧ Keep [b1] w13 w14 ∧
 catS (⟨#[0]⟩ : ByteArray) s15 fun s16 =>
 R (.string s16) w14))
theorem ref03_Text_eq (a0 : Bool) (a1 : ByteArray) (a2 : Bool) (a3 : ByteArray) (R : Value → World → Prop) (w : World) :
 dnF Tryz.prog ref03_Text_an (code Tryz.f149) 400 [] (post3 Tryz.prog Tryz.f149 [] R) ⟨args0 0 [(.agg #[(.bool a0), (.string a1), (.bool a2), (.string a3)])], fun _ => undef⟩ ⟨[], w, [], [], true⟩ = ref03_Text_T a0 a1 a2 a3 R w := by kernel_rfl
theorem ref03_Text_go {a0 : Bool} {a1 : ByteArray} {a2 : Bool} {a3 : ByteArray} {R : Value → World → Prop} {w : World} (h : ref03_Text_T a0 a1 a2 a3 R w) :
 Calls Tryz.prog 149 #[(.agg #[(.bool a0), (.string a1), (.bool a2), (.string a3)])] w fun e w' => ∃ v, e = .returned v ∧ R v w' :=
 calls_none Tryz.wide_mixed (f := 149) (args := [(.agg #[(.bool a0), (.string a1), (.bool a2), (.string a3)])]) Tryz.func149 rfl rfl (by kernel_rfl) rfl (Eq.mpr (ref03_Text_eq a0 a1 a2 a3 R w) h)
def ref03_Batch_la1 : LA := ⟨[0, 0, 1, 0, 1, 1, 1, 1], [1, 5, 6], [(1, 0, 0)], 1, []⟩
def ref03_Batch_an : List LA := [ref03_Batch_la1]
def ref03_Batch_v1 (bm0 : Nat) (a0 : ByteArray) (a1 : Int) : List Value := [(.pointer (some ⟨bm0, 0, none⟩)), (.string a0), (.int .i64 a1)]
def ref03_Batch_m1 (bm0 : Nat) (a3 : Int) (a4 : Int) (a5 : Int) (a0 : Option Addr) (a2 : Nat) (a1 : Nat) : List TB := [⟨bm0, 35, [(.int .i64 a3), (.int .i64 a4), (.int .i64 a5), (.slice a0 a2 a1)], false⟩]
def ref03_Batch_L1 (bm0 : Nat) (a4 : Int) (a5 : Int) (a6 : Int) (a1 : Option Addr) (a0 : Nat) (a2 : Nat) (a7 : ByteArray) (a3 : Int) (K1 : Kh) (R : Value → World → Prop) (w : World) : Prop :=
 brB (decide (a3 < (a0 : Int))) (
 ixA a1 a0 a3 4 fun q17 =>
 ldBool w q17 fun t18 => ldStr w (Addr.add q17 1) fun s19 => ldBool w (Addr.add q17 2) fun t20 => ldStr w (Addr.add q17 3) fun s21 =>
 Calls Tryz.prog 149 #[(.agg #[(.bool t18), (.string s19), (.bool t20), (.string s21)])] w fun e w22 => ∃ s23 : ByteArray, e = .returned (.string s23) ∧ Keep [bm0] w w22 ∧
 catS a7 s23 fun s24 =>
 K1 (ref03_Batch_v1 bm0 s24 (IntKind.wrap .i64 (a3 + 1))) (ref03_Batch_m1 bm0 a4 a5 a6 a1 a0 a2) w22)
 (
 R (.tuple #[(.string a7), (.int .i64 0)]) w)
theorem ref03_Batch_L1_eq (bm0 : Nat) (a3 : Int) (a4 : Int) (a5 : Int) (a0 : Option Addr) (a2 : Nat) (a1 : Nat) (a6 : ByteArray) (a7 : Int) (K1 : Kh) (js : Nat → Value) (R : Value → World → Prop) (w : World) :
 headA ref03_Batch_la1 ((dnF Tryz.prog ref03_Batch_an (code Tryz.f155) 394 [0, 0, 1, 0, 1, 1, 1, 1]) (kthen3 (atA ref03_Batch_la1 K1) (kont3 Tryz.prog ref03_Batch_an (code Tryz.f155) [1, 1, 1, 1, 0, 1, 0] [] (post3 Tryz.prog Tryz.f155 [] R)))) (ref03_Batch_v1 bm0 a6 a7) js (ref03_Batch_m1 bm0 a3 a4 a5 a0 a2 a1) w = ref03_Batch_L1 bm0 a3 a4 a5 a0 a2 a1 a6 a7 K1 R w := by kernel_rfl
def ref03_Batch_K1 (bm0 : Nat) (a3 : Int) (a4 : Int) (a5 : Int) (a0 : Option Addr) (a2 : Nat) (a1 : Nat) (I : Nat → ByteArray → Int → World → Prop) (m : Nat) (vals : List Value) (mem : List TB) (w : World) : Prop := ∃ m', m' < m ∧ ∃ a6 a7, vals = (ref03_Batch_v1 bm0 a6 a7) ∧ mem = (ref03_Batch_m1 bm0 a3 a4 a5 a0 a2 a1) ∧ I m' a6 a7 w
theorem ref03_Batch_leaf1 {bm0 : Nat} {a3 : Int} {a4 : Int} {a5 : Int} {a0 : Option Addr} {a2 : Nat} {a1 : Nat} {I : Nat → ByteArray → Int → World → Prop} {m : Nat} {a6 : ByteArray} {a7 : Int} {w : World} (m' : Nat) (h1 : m' < m) (h2 : I m' a6 a7 w) : ref03_Batch_K1 bm0 a3 a4 a5 a0 a2 a1 I m (ref03_Batch_v1 bm0 a6 a7) (ref03_Batch_m1 bm0 a3 a4 a5 a0 a2 a1) w := ⟨m', h1, _, _, rfl, rfl, h2⟩
theorem ref03_Batch_rule1 {bm0 : Nat} {a3 : Int} {a4 : Int} {a5 : Int} {a0 : Option Addr} {a2 : Nat} {a1 : Nat} {a8 : ByteArray} {a9 : Int} {R : Value → World → Prop} {w0 : World} (I : Nat → ByteArray → Int → World → Prop) (m0 : Nat) (h0 : I m0 a8 a9 w0)
 (hr : ∀ (m : Nat) (a6 : ByteArray) (a7 : Int) (w : World), I m a6 a7 w → ref03_Batch_L1 bm0 a3 a4 a5 a0 a2 a1 a6 a7 (ref03_Batch_K1 bm0 a3 a4 a5 a0 a2 a1 I m) R w) :
 loopD3 ref03_Batch_la1 (dnF Tryz.prog ref03_Batch_an (code Tryz.f155) 394 [0, 0, 1, 0, 1, 1, 1, 1]) (kont3 Tryz.prog ref03_Batch_an (code Tryz.f155) [1, 1, 1, 1, 0, 1, 0] [] (post3 Tryz.prog Tryz.f155 [] R)) (ref03_Batch_v1 bm0 a8 a9) (ref03_Batch_m1 bm0 a3 a4 a5 a0 a2 a1) w0 := by
 refine ⟨fun m vals mem w => ∃ a6 a7, vals = (ref03_Batch_v1 bm0 a6 a7) ∧ mem = (ref03_Batch_m1 bm0 a3 a4 a5 a0 a2 a1) ∧ I m a6 a7 w, m0, ⟨_, _, rfl, rfl, h0⟩, ?_⟩
 rintro m vals mem w ⟨a6, a7, rfl, rfl, hI⟩
 refine ⟨rfl, rfl, fun js => ?_⟩
 have h := hr m a6 a7 w hI
 rw [← ref03_Batch_L1_eq _ _ _ _ _ _ _ _ _ _ js] at h
 exact h
def ref03_Batch_T (a5 : Int) (a4 : Int) (a3 : Int) (a1 : Option Addr) (a0 : Nat) (a2 : Nat) (R : Value → World → Prop) (w : World) : Prop :=
 ∀ b1, w.heap.size ≤ b1 →
 ∀ w2, Adv [] [b1] w w2 →
 Calls Tryz.prog 111 #[(.agg #[(.int .i64 a5), (.int .i64 a4), (.int .i64 a3), (.slice a1 a0 a2)])] w2 fun e w3 => ∃ x4 : Int, e = .returned (.int .i64 x4) ∧ Keep [b1] w2 w3 ∧
 brB (x4 != 0) (
 R (.tuple #[(.string (⟨#[]⟩ : ByteArray)), (.int .i64 x4)]) w3)
 (
 ∀ w5, Adv [] [] w3 w5 →
 Calls Tryz.prog 83 #[(.int .u64 (IntKind.wrap .u64 a5))] w5 fun e w6 => ∃ s7 : ByteArray, e = .returned (.string s7) ∧ Keep [b1] w5 w6 ∧ (((.slice a1 a0 a2) : Value) = (.slice a1 a0 a2)) ∧ (((.int .i64 a3) : Value) = (.int .i64 a3)) ∧ (((.int .i64 a4) : Value) = (.int .i64 a4)) ∧
 Calls Tryz.prog 83 #[(.int .u64 (IntKind.wrap .u64 a4))] w6 fun e w8 => ∃ s9 : ByteArray, e = .returned (.string s9) ∧ Keep [b1] w6 w8 ∧ (((.slice a1 a0 a2) : Value) = (.slice a1 a0 a2)) ∧ (((.int .i64 a3) : Value) = (.int .i64 a3)) ∧
 catS s7 s9 fun s10 =>
 Calls Tryz.prog 83 #[(.int .u64 (IntKind.wrap .u64 a3))] w8 fun e w11 => ∃ s12 : ByteArray, e = .returned (.string s12) ∧ Keep [b1] w8 w11 ∧ (((.slice a1 a0 a2) : Value) = (.slice a1 a0 a2)) ∧
 catS s10 s12 fun s13 =>
 Calls Tryz.prog 83 #[(.int .u64 (IntKind.wrap .u64 (a0 : Int)))] w11 fun e w14 => ∃ s15 : ByteArray, e = .returned (.string s15) ∧ Keep [b1] w11 w14 ∧
 catS s13 s15 fun s16 =>
 loopD3 ref03_Batch_la1 (dnF Tryz.prog ref03_Batch_an (code Tryz.f155) 394 [0, 0, 1, 0, 1, 1, 1, 1]) (kont3 Tryz.prog ref03_Batch_an (code Tryz.f155) [1, 1, 1, 1, 0, 1, 0] [] (post3 Tryz.prog Tryz.f155 [] R)) (ref03_Batch_v1 b1 s16 0) (ref03_Batch_m1 b1 a5 a4 a3 a1 a0 a2) w14)
theorem ref03_Batch_eq (a3 : Int) (a4 : Int) (a5 : Int) (a0 : Option Addr) (a2 : Nat) (a1 : Nat) (R : Value → World → Prop) (w : World) :
 dnF Tryz.prog ref03_Batch_an (code Tryz.f155) 400 [] (post3 Tryz.prog Tryz.f155 [] R) ⟨args0 0 [(.agg #[(.int .i64 a3), (.int .i64 a4), (.int .i64 a5), (.slice a0 a2 a1)])], fun _ => undef⟩ ⟨[], w, [], [], true⟩ = ref03_Batch_T a3 a4 a5 a0 a2 a1 R w := by kernel_rfl
theorem ref03_Batch_go {a3 : Int} {a4 : Int} {a5 : Int} {a0 : Option Addr} {a2 : Nat} {a1 : Nat} {R : Value → World → Prop} {w : World} (h : ref03_Batch_T a3 a4 a5 a0 a2 a1 R w) :
 Calls Tryz.prog 155 #[(.agg #[(.int .i64 a3), (.int .i64 a4), (.int .i64 a5), (.slice a0 a2 a1)])] w fun e w' => ∃ v, e = .returned v ∧ R v w' :=
 calls_none Tryz.wide_mixed (f := 155) (args := [(.agg #[(.int .i64 a3), (.int .i64 a4), (.int .i64 a5), (.slice a0 a2 a1)])]) Tryz.func155 rfl rfl (by kernel_rfl) rfl (Eq.mpr (ref03_Batch_eq a3 a4 a5 a0 a2 a1 R w) h)
def ref03_Get_an : List LA := []
def ref03_Get_T (a1 : ByteArray) (a0 : Int) (R : Value → World → Prop) (w : World) : Prop :=
 ∀ b1, w.heap.size ≤ b1 →
 brB (decide (a0 < 0)) (
 ∀ w2, Adv [] [b1] w w2 →
 R (.tuple #[(.agg #[(.bool false), (.string ByteArray.empty), (.bool false), (.string ByteArray.empty)]), (.int .i64 0), (.int .i64 1)]) w2)
 (
 brB (decide (a0 > (a1.size : Int))) (
 ∀ w3, Adv [] [b1] w w3 →
 R (.tuple #[(.agg #[(.bool false), (.string ByteArray.empty), (.bool false), (.string ByteArray.empty)]), (.int .i64 0), (.int .i64 1)]) w3)
 (
 brB (a0 == (a1.size : Int)) (
 ∀ w4, Adv [] [b1] w w4 →
 R (.tuple #[(.agg #[(.bool false), (.string ByteArray.empty), (.bool false), (.string ByteArray.empty)]), (.int .i64 0), (.int .i64 10)]) w4)
 (
 ixS a1 a0 fun x5 =>
 ∀ b6, w.heap.size ≤ b6 →
 brB (x5 == 2) (
 ∀ w7, Adv [] [b6, b1] w w7 →
 R (.tuple #[(.agg #[(.bool false), (.string ByteArray.empty), (.bool false), (.string ByteArray.empty)]), (.int .i64 0), (.int .i64 30)]) w7)
 (
 brB (decide (x5 > 3)) (
 ∀ w8, Adv [] [b6, b1] w w8 →
 R (.tuple #[(.agg #[(.bool false), (.string ByteArray.empty), (.bool false), (.string ByteArray.empty)]), (.int .i64 0), (.int .i64 30)]) w8)
 (
 brB (decide (x5 > 0)) (
 ∀ w9, Adv [] [b6, b1] w w9 →
 Calls Tryz.prog 138 #[(.string a1), (.int .i64 (IntKind.wrap .i64 (a0 + 1))), (.int .i64 64)] w9 fun e w10 => ∃ s11 : ByteArray, ∃ x12 : Int, ∃ x13 : Int, e = .returned (.tuple #[(.string s11), (.int .i64 x12), (.int .i64 x13)]) ∧ Keep [b1, b6] w9 w10 ∧
 brB (x13 != 0) (
 ∀ w14, Adv [b1] [] w10 w14 →
 R (.tuple #[(.agg #[(.bool false), (.string ByteArray.empty), (.bool false), (.string ByteArray.empty)]), (.int .i64 0), (.int .i64 x13)]) w14)
 (
 brB (x5 == 3) (
 ∀ w15, Adv [b1, b6] [] w10 w15 →
 R (.tuple #[(.agg #[(.bool true), (.string s11), (.bool true), (.string ByteArray.empty)]), (.int .i64 x12), (.int .i64 0)]) w15)
 (
 ∀ w16, Adv [b6] [] w10 w16 →
 Calls Tryz.prog 138 #[(.string a1), (.int .i64 x12), (.int .i64 512)] w16 fun e w17 => ∃ s18 : ByteArray, ∃ x19 : Int, ∃ x20 : Int, e = .returned (.tuple #[(.string s18), (.int .i64 x19), (.int .i64 x20)]) ∧ Keep [b1, b6] w16 w17 ∧
 brB (x20 != 0) (
 ∀ w21, Adv [b1] [] w17 w21 →
 R (.tuple #[(.agg #[(.bool false), (.string ByteArray.empty), (.bool false), (.string ByteArray.empty)]), (.int .i64 0), (.int .i64 x20)]) w21)
 (
 ∀ w22, Adv [b1, b6] [] w17 w22 →
 R (.tuple #[(.agg #[(.bool true), (.string s11), (.bool false), (.string s18)]), (.int .i64 x19), (.int .i64 0)]) w22))))
 (
 brB (x5 == 3) (
 ∀ w23, Adv [] [b6, b1] w w23 →
 R (.tuple #[(.agg #[(.bool false), (.string ByteArray.empty), (.bool true), (.string ByteArray.empty)]), (.int .i64 (IntKind.wrap .i64 (a0 + 1))), (.int .i64 0)]) w23)
 (
 ∀ w24, Adv [] [b6, b1] w w24 →
 Calls Tryz.prog 138 #[(.string a1), (.int .i64 (IntKind.wrap .i64 (a0 + 1))), (.int .i64 512)] w24 fun e w25 => ∃ s26 : ByteArray, ∃ x27 : Int, ∃ x28 : Int, e = .returned (.tuple #[(.string s26), (.int .i64 x27), (.int .i64 x28)]) ∧ Keep [b1, b6] w24 w25 ∧
 brB (x28 != 0) (
 ∀ w29, Adv [b1] [] w25 w29 →
 R (.tuple #[(.agg #[(.bool false), (.string ByteArray.empty), (.bool false), (.string ByteArray.empty)]), (.int .i64 0), (.int .i64 x28)]) w29)
 (
 ∀ w30, Adv [b1, b6] [] w25 w30 →
 R (.tuple #[(.agg #[(.bool false), (.string ByteArray.empty), (.bool false), (.string s26)]), (.int .i64 x27), (.int .i64 0)]) w30))))))))
theorem ref03_Get_eq (a1 : ByteArray) (a0 : Int) (R : Value → World → Prop) (w : World) :
 dnF Tryz.prog ref03_Get_an (code Tryz.f174) 400 [] (post3 Tryz.prog Tryz.f174 [] R) ⟨args0 0 [(.string a1), (.int .i64 a0)], fun _ => undef⟩ ⟨[], w, [], [], true⟩ = ref03_Get_T a1 a0 R w := by kernel_rfl
theorem ref03_Get_go {a1 : ByteArray} {a0 : Int} {R : Value → World → Prop} {w : World} (h : ref03_Get_T a1 a0 R w) :
 Calls Tryz.prog 174 #[(.string a1), (.int .i64 a0)] w fun e w' => ∃ v, e = .returned v ∧ R v w' :=
 calls_none Tryz.wide_mixed (f := 174) (args := [(.string a1), (.int .i64 a0)]) Tryz.func174 rfl rfl (by kernel_rfl) rfl (Eq.mpr (ref03_Get_eq a1 a0 R w) h)
def ref03_Parse_la1 : LA := ⟨[0, 0, 1, 0, 1, 1], [0, 4, 7, 8, 9], [(4, 0, 0)], 1, []⟩
def ref03_Parse_la2 : LA := ⟨[0, 0, 1, 0, 1, 1, 1, 1, 1, 1, 1], [0, 4, 7, 8, 13, 14], [(4, 0, 0), (13, 1, 0)], 2, []⟩
def ref03_Parse_an : List LA := [ref03_Parse_la1, ref03_Parse_la2]
def ref03_Parse_v1 (a3 : ByteArray) (bm0 : Nat) (a0 : Option Addr) (a2 : Nat) (a1 : Nat) (a4 : Int) (a5 : Int) : List Value := [(.string a3), (.pointer (some ⟨bm0, 0, none⟩)), (.slice a0 a2 a1), (.int .i64 a4), (.int .i64 a5)]
def ref03_Parse_m1 (bm0 : Nat) : List TB := [⟨bm0, 35, [(.int .i64 0), (.int .i64 0), (.int .i64 0), (.slice none 0 0)], false⟩]
def ref03_Parse_v2 (a4 : ByteArray) (a1 : Option Addr) (a3 : Nat) (a2 : Nat) (bm0 : Nat) (bm1 : Nat) (a5 : Int) (a0 : Int) : List Value := [(.string a4), (.pointer (some ⟨bm0, 0, none⟩)), (.slice a1 a3 a2), (.int .i64 a5), (.pointer (some ⟨bm1, 0, none⟩)), (.int .i64 a0)]
def ref03_Parse_m2 (bm0 : Nat) (bm1 : Nat) (a3 : Int) (a4 : Int) (a5 : Int) (a0 : Option Addr) (a2 : Nat) (a1 : Nat) : List TB := [⟨bm0, 35, [(.int .i64 0), (.int .i64 0), (.int .i64 0), (.slice none 0 0)], false⟩, ⟨bm1, 35, [(.int .i64 a3), (.int .i64 a4), (.int .i64 a5), (.slice a0 a2 a1)], false⟩]
def ref03_Parse_L1 (a2 : ByteArray) (bm0 : Nat) (a0 : Option Addr) (a1 : Nat) (a3 : Nat) (a4 : Int) (a5 : Int) (K1 : Kh) (R : Value → World → Prop) (w : World) : Prop :=
 brB (decide (a5 < 4)) (
 Calls Tryz.prog 90 #[(.string a2), (.int .i64 a4)] w fun e w5 => ∃ x6 : Int, ∃ x7 : Int, ∃ x8 : Int, e = .returned (.tuple #[(.int .u64 x6), (.int .i64 x7), (.int .i64 x8)]) ∧ Keep [bm0] w w5 ∧
 brB (x8 != 0) (
 ∀ w9, Adv [bm0] [] w5 w9 →
 R (.tuple #[(.agg #[(.int .i64 0), (.int .i64 0), (.int .i64 0), (.slice none 0 0)]), (.int .i64 0), (.int .i64 x8)]) w9)
 (
 al w5 (.cells #[(.int .u64 x6)] 130) fun b10 w11 =>
 effSl Tryz.prog (Builtin.append_ #[236, 236] 236 #[(.slice a0 a1 a3), (.slice (some ⟨b10, 0, none⟩) 1 1)]) w11 fun a13 n14 c15 w12 => Keep [bm0] w11 w12 ∧
 K1 (ref03_Parse_v1 a2 bm0 a13 n14 c15 x7 (IntKind.wrap .i64 (a5 + 1))) (ref03_Parse_m1 bm0) w12))
 (
 ixA a0 a1 0 1 fun q16 =>
 ldInt .u64 w q16 fun x17 =>
 brB (decide (x17 > 1099511627776)) (
 ∀ w18, Adv [bm0] [] w w18 →
 R (.tuple #[(.agg #[(.int .i64 0), (.int .i64 0), (.int .i64 0), (.slice none 0 0)]), (.int .i64 0), (.int .i64 1)]) w18)
 (
 ixA a0 a1 1 1 fun q19 =>
 ldInt .u64 w q19 fun x20 =>
 brB (decide (x20 > 1099511627776)) (
 ∀ w21, Adv [bm0] [] w w21 →
 R (.tuple #[(.agg #[(.int .i64 0), (.int .i64 0), (.int .i64 0), (.slice none 0 0)]), (.int .i64 0), (.int .i64 1)]) w21)
 (
 ixA a0 a1 2 1 fun q22 =>
 ldInt .u64 w q22 fun x23 =>
 brB (decide (x23 > 1099511627776)) (
 ∀ w24, Adv [bm0] [] w w24 →
 R (.tuple #[(.agg #[(.int .i64 0), (.int .i64 0), (.int .i64 0), (.slice none 0 0)]), (.int .i64 0), (.int .i64 1)]) w24)
 (
 ixA a0 a1 3 1 fun q25 =>
 ldInt .u64 w q25 fun x26 =>
 brB (x26 == 0) (
 ∀ w27, Adv [bm0] [] w w27 →
 R (.tuple #[(.agg #[(.int .i64 0), (.int .i64 0), (.int .i64 0), (.slice none 0 0)]), (.int .i64 0), (.int .i64 30)]) w27)
 (
 ixA a0 a1 3 1 fun q28 =>
 ldInt .u64 w q28 fun x29 =>
 brB (decide (x29 > 16)) (
 ∀ w30, Adv [bm0] [] w w30 →
 R (.tuple #[(.agg #[(.int .i64 0), (.int .i64 0), (.int .i64 0), (.slice none 0 0)]), (.int .i64 0), (.int .i64 2)]) w30)
 (
 ixA a0 a1 0 1 fun q31 =>
 ∀ w32, Adv [] [] w w32 →
 ldInt .u64 w32 q31 fun x33 =>
 ixA a0 a1 1 1 fun q34 =>
 ldInt .u64 w32 q34 fun x35 =>
 ixA a0 a1 2 1 fun q36 =>
 ldInt .u64 w32 q36 fun x37 =>
 ∀ b38, w32.heap.size ≤ b38 →
 ∀ w59, Adv [] [b38] w32 w59 →
 loopD3 ref03_Parse_la2 (dnF Tryz.prog ref03_Parse_an (code Tryz.f169) 391 [0, 0, 1, 0, 1, 1, 1, 1, 1, 1, 1]) (kont3 Tryz.prog ref03_Parse_an (code Tryz.f169) [1, 1, 1, 1, 1, 1, 1, 0, 1, 0] [] (post3 Tryz.prog Tryz.f169 [] R)) (ref03_Parse_v2 a2 a0 a1 a3 bm0 b38 a4 0) (ref03_Parse_m2 bm0 b38 (IntKind.wrap .i64 x33) (IntKind.wrap .i64 x35) (IntKind.wrap .i64 x37) none 0 0) w59))))))
theorem ref03_Parse_L1_eq (a3 : ByteArray) (bm0 : Nat) (a0 : Option Addr) (a2 : Nat) (a1 : Nat) (a4 : Int) (a5 : Int) (K1 : Kh) (js : Nat → Value) (R : Value → World → Prop) (w : World) :
 headA ref03_Parse_la1 ((dnF Tryz.prog ref03_Parse_an (code Tryz.f169) 396 [0, 0, 1, 0, 1, 1]) (kthen3 (atA ref03_Parse_la1 K1) (kont3 Tryz.prog ref03_Parse_an (code Tryz.f169) [1, 1, 0, 1, 0] [] (post3 Tryz.prog Tryz.f169 [] R)))) (ref03_Parse_v1 a3 bm0 a0 a2 a1 a4 a5) js (ref03_Parse_m1 bm0) w = ref03_Parse_L1 a3 bm0 a0 a2 a1 a4 a5 K1 R w := by kernel_rfl
def ref03_Parse_K1 (a5 : ByteArray) (bm0 : Nat) (I : Nat → Option Addr → Nat → Nat → Int → Int → World → Prop) (m : Nat) (vals : List Value) (mem : List TB) (w : World) : Prop := ∃ m', m' < m ∧ ∃ a0 a2 a1 a3 a4, vals = (ref03_Parse_v1 a5 bm0 a0 a2 a1 a3 a4) ∧ mem = (ref03_Parse_m1 bm0) ∧ I m' a0 a2 a1 a3 a4 w
theorem ref03_Parse_leaf1 {a3 : ByteArray} {bm0 : Nat} {I : Nat → Option Addr → Nat → Nat → Int → Int → World → Prop} {m : Nat} {a0 : Option Addr} {a2 : Nat} {a1 : Nat} {a4 : Int} {a5 : Int} {w : World} (m' : Nat) (h1 : m' < m) (h2 : I m' a0 a2 a1 a4 a5 w) : ref03_Parse_K1 a3 bm0 I m (ref03_Parse_v1 a3 bm0 a0 a2 a1 a4 a5) (ref03_Parse_m1 bm0) w := ⟨m', h1, _, _, _, _, _, rfl, rfl, h2⟩
theorem ref03_Parse_rule1 {a5 : ByteArray} {bm0 : Nat} {a6 : Option Addr} {a8 : Nat} {a7 : Nat} {a9 : Int} {b0 : Int} {R : Value → World → Prop} {w0 : World} (I : Nat → Option Addr → Nat → Nat → Int → Int → World → Prop) (m0 : Nat) (h0 : I m0 a6 a8 a7 a9 b0 w0)
 (hr : ∀ (m : Nat) (a0 : Option Addr) (a2 : Nat) (a1 : Nat) (a3 : Int) (a4 : Int) (w : World), I m a0 a2 a1 a3 a4 w → ref03_Parse_L1 a5 bm0 a0 a2 a1 a3 a4 (ref03_Parse_K1 a5 bm0 I m) R w) :
 loopD3 ref03_Parse_la1 (dnF Tryz.prog ref03_Parse_an (code Tryz.f169) 396 [0, 0, 1, 0, 1, 1]) (kont3 Tryz.prog ref03_Parse_an (code Tryz.f169) [1, 1, 0, 1, 0] [] (post3 Tryz.prog Tryz.f169 [] R)) (ref03_Parse_v1 a5 bm0 a6 a8 a7 a9 b0) (ref03_Parse_m1 bm0) w0 := by
 refine ⟨fun m vals mem w => ∃ a0 a2 a1 a3 a4, vals = (ref03_Parse_v1 a5 bm0 a0 a2 a1 a3 a4) ∧ mem = (ref03_Parse_m1 bm0) ∧ I m a0 a2 a1 a3 a4 w, m0, ⟨_, _, _, _, _, rfl, rfl, h0⟩, ?_⟩
 rintro m vals mem w ⟨a0, a2, a1, a3, a4, rfl, rfl, hI⟩
 refine ⟨rfl, rfl, fun js => ?_⟩
 have h := hr m a0 a2 a1 a3 a4 w hI
 rw [← ref03_Parse_L1_eq _ _ _ _ _ _ _ _ js] at h
 exact h
def ref03_Parse_L2 (a9 : ByteArray) (a7 : Option Addr) (a8 : Nat) (b1 : Nat) (bm0 : Nat) (bm1 : Nat) (a3 : Int) (a4 : Int) (a5 : Int) (b0 : Int) (a6 : Int) (a0 : Option Addr) (a2 : Nat) (a1 : Nat) (K2 : Kh) (R : Value → World → Prop) (w : World) : Prop :=
 ixA a7 a8 3 1 fun q39 =>
 ldInt .u64 w q39 fun x40 =>
 brB (decide (a6 < (IntKind.wrap .i64 x40))) (
 Calls Tryz.prog 174 #[(.string a9), (.int .i64 b0)] w fun e w41 => ∃ t42 : Bool, ∃ s43 : ByteArray, ∃ t44 : Bool, ∃ s45 : ByteArray, ∃ x46 : Int, ∃ x47 : Int, e = .returned (.tuple #[(.agg #[(.bool t42), (.string s43), (.bool t44), (.string s45)]), (.int .i64 x46), (.int .i64 x47)]) ∧ Keep [bm0, bm1] w w41 ∧
 ∀ b48, w41.heap.size ≤ b48 →
 brB (x47 != 0) (
 ∀ w49, Adv [bm0] [b48] w41 w49 →
 R (.tuple #[(.agg #[(.int .i64 0), (.int .i64 0), (.int .i64 0), (.slice none 0 0)]), (.int .i64 0), (.int .i64 x47)]) w49)
 (
 ∀ w50, Adv [] [b48] w41 w50 →
 al w50 (.cells #[(.bool t42), (.string s43), (.bool t44), (.string s45)] 149) fun b51 w52 =>
 effSl Tryz.prog (Builtin.append_ #[33, 33] 33 #[(.slice a0 a2 a1), (.slice (some ⟨b51, 0, none⟩) 1 1)]) w52 fun a54 n55 c56 w53 => Keep [bm0, bm1, b48] w52 w53 ∧
 ∀ w57, Adv [bm1] [] w53 w57 →
 K2 (ref03_Parse_v2 a9 a7 a8 b1 bm0 bm1 x46 (IntKind.wrap .i64 (a6 + 1))) (ref03_Parse_m2 bm0 bm1 a3 a4 a5 a54 n55 c56) w57))
 (
 ∀ w58, Adv [bm0] [] w w58 →
 R (.tuple #[(.agg #[(.int .i64 a3), (.int .i64 a4), (.int .i64 a5), (.slice a0 a2 a1)]), (.int .i64 b0), (.int .i64 0)]) w58)
theorem ref03_Parse_L2_eq (b0 : ByteArray) (a7 : Option Addr) (a9 : Nat) (a8 : Nat) (bm0 : Nat) (bm1 : Nat) (a3 : Int) (a4 : Int) (a5 : Int) (b1 : Int) (a6 : Int) (a0 : Option Addr) (a2 : Nat) (a1 : Nat) (K2 : Kh) (js : Nat → Value) (R : Value → World → Prop) (w : World) :
 headA ref03_Parse_la2 ((dnF Tryz.prog ref03_Parse_an (code Tryz.f169) 391 [0, 0, 1, 0, 1, 1, 1, 1, 1, 1, 1]) (kthen3 (atA ref03_Parse_la2 K2) (kont3 Tryz.prog ref03_Parse_an (code Tryz.f169) [1, 1, 1, 1, 1, 1, 1, 0, 1, 0] [] (post3 Tryz.prog Tryz.f169 [] R)))) (ref03_Parse_v2 b0 a7 a9 a8 bm0 bm1 b1 a6) js (ref03_Parse_m2 bm0 bm1 a3 a4 a5 a0 a2 a1) w = ref03_Parse_L2 b0 a7 a9 a8 bm0 bm1 a3 a4 a5 b1 a6 a0 a2 a1 K2 R w := by kernel_rfl
def ref03_Parse_K2 (b1 : ByteArray) (a8 : Option Addr) (b0 : Nat) (a9 : Nat) (bm0 : Nat) (bm1 : Nat) (a4 : Int) (a5 : Int) (a6 : Int) (I : Nat → Int → Int → Option Addr → Nat → Nat → World → Prop) (m : Nat) (vals : List Value) (mem : List TB) (w : World) : Prop := ∃ m', m' < m ∧ ∃ a7 a3 a0 a2 a1, vals = (ref03_Parse_v2 b1 a8 b0 a9 bm0 bm1 a7 a3) ∧ mem = (ref03_Parse_m2 bm0 bm1 a4 a5 a6 a0 a2 a1) ∧ I m' a7 a3 a0 a2 a1 w
theorem ref03_Parse_leaf2 {b0 : ByteArray} {a7 : Option Addr} {a9 : Nat} {a8 : Nat} {bm0 : Nat} {bm1 : Nat} {a3 : Int} {a4 : Int} {a5 : Int} {I : Nat → Int → Int → Option Addr → Nat → Nat → World → Prop} {m : Nat} {b1 : Int} {a6 : Int} {a0 : Option Addr} {a2 : Nat} {a1 : Nat} {w : World} (m' : Nat) (h1 : m' < m) (h2 : I m' b1 a6 a0 a2 a1 w) : ref03_Parse_K2 b0 a7 a9 a8 bm0 bm1 a3 a4 a5 I m (ref03_Parse_v2 b0 a7 a9 a8 bm0 bm1 b1 a6) (ref03_Parse_m2 bm0 bm1 a3 a4 a5 a0 a2 a1) w := ⟨m', h1, _, _, _, _, _, rfl, rfl, h2⟩
theorem ref03_Parse_rule2 {b4 : ByteArray} {b1 : Option Addr} {b3 : Nat} {b2 : Nat} {bm0 : Nat} {bm1 : Nat} {a4 : Int} {a5 : Int} {a6 : Int} {b6 : Int} {b5 : Int} {a8 : Option Addr} {b0 : Nat} {a9 : Nat} {R : Value → World → Prop} {w0 : World} (I : Nat → Int → Int → Option Addr → Nat → Nat → World → Prop) (m0 : Nat) (h0 : I m0 b6 b5 a8 b0 a9 w0)
 (hr : ∀ (m : Nat) (a7 : Int) (a3 : Int) (a0 : Option Addr) (a2 : Nat) (a1 : Nat) (w : World), I m a7 a3 a0 a2 a1 w → ref03_Parse_L2 b4 b1 b3 b2 bm0 bm1 a4 a5 a6 a7 a3 a0 a2 a1 (ref03_Parse_K2 b4 b1 b3 b2 bm0 bm1 a4 a5 a6 I m) R w) :
 loopD3 ref03_Parse_la2 (dnF Tryz.prog ref03_Parse_an (code Tryz.f169) 391 [0, 0, 1, 0, 1, 1, 1, 1, 1, 1, 1]) (kont3 Tryz.prog ref03_Parse_an (code Tryz.f169) [1, 1, 1, 1, 1, 1, 1, 0, 1, 0] [] (post3 Tryz.prog Tryz.f169 [] R)) (ref03_Parse_v2 b4 b1 b3 b2 bm0 bm1 b6 b5) (ref03_Parse_m2 bm0 bm1 a4 a5 a6 a8 b0 a9) w0 := by
 refine ⟨fun m vals mem w => ∃ a7 a3 a0 a2 a1, vals = (ref03_Parse_v2 b4 b1 b3 b2 bm0 bm1 a7 a3) ∧ mem = (ref03_Parse_m2 bm0 bm1 a4 a5 a6 a0 a2 a1) ∧ I m a7 a3 a0 a2 a1 w, m0, ⟨_, _, _, _, _, rfl, rfl, h0⟩, ?_⟩
 rintro m vals mem w ⟨a7, a3, a0, a2, a1, rfl, rfl, hI⟩
 refine ⟨rfl, rfl, fun js => ?_⟩
 have h := hr m a7 a3 a0 a2 a1 w hI
 rw [← ref03_Parse_L2_eq _ _ _ _ _ _ _ _ _ _ _ _ _ _ _ js] at h
 exact h
def ref03_Parse_T (a1 : ByteArray) (a0 : Int) (R : Value → World → Prop) (w : World) : Prop :=
 ∀ b1, w.heap.size ≤ b1 →
 ∀ w2, Adv [] [b1] w w2 →
 al w2 (.cells #[] 130) fun b3 w4 =>
 loopD3 ref03_Parse_la1 (dnF Tryz.prog ref03_Parse_an (code Tryz.f169) 396 [0, 0, 1, 0, 1, 1]) (kont3 Tryz.prog ref03_Parse_an (code Tryz.f169) [1, 1, 0, 1, 0] [] (post3 Tryz.prog Tryz.f169 [] R)) (ref03_Parse_v1 a1 b1 (some ⟨b3, 0, none⟩) 0 0 a0 0) (ref03_Parse_m1 b1) w4
theorem ref03_Parse_eq (a1 : ByteArray) (a0 : Int) (R : Value → World → Prop) (w : World) :
 dnF Tryz.prog ref03_Parse_an (code Tryz.f169) 400 [] (post3 Tryz.prog Tryz.f169 [] R) ⟨args0 0 [(.string a1), (.int .i64 a0)], fun _ => undef⟩ ⟨[], w, [], [], true⟩ = ref03_Parse_T a1 a0 R w := by kernel_rfl
theorem ref03_Parse_go {a1 : ByteArray} {a0 : Int} {R : Value → World → Prop} {w : World} (h : ref03_Parse_T a1 a0 R w) :
 Calls Tryz.prog 169 #[(.string a1), (.int .i64 a0)] w fun e w' => ∃ v, e = .returned v ∧ R v w' :=
 calls_none Tryz.wide_mixed (f := 169) (args := [(.string a1), (.int .i64 a0)]) Tryz.func169 rfl rfl (by kernel_rfl) rfl (Eq.mpr (ref03_Parse_eq a1 a0 R w) h)
def ref04_num_an : List LA := []
def ref04_num_T (a0 : Int) (R : Value → World → Prop) (w : World) : Prop :=
 Calls Tryz.prog 83 #[(.int .u64 (IntKind.wrap .u64 a0))] w fun e w1 => ∃ s2 : ByteArray, e = .returned (.string s2) ∧
 R (.string s2) w1
theorem ref04_num_eq (a0 : Int) (R : Value → World → Prop) (w : World) :
 dnF Tryz.prog ref04_num_an (code Tryz.f131) 400 [] (post3 Tryz.prog Tryz.f131 [] R) ⟨args0 0 [(.int .i64 a0)], fun _ => undef⟩ ⟨[], w, [], [], true⟩ = ref04_num_T a0 R w := by kernel_rfl
theorem ref04_num_go {a0 : Int} {R : Value → World → Prop} {w : World} (h : ref04_num_T a0 R w) :
 Calls Tryz.prog 131 #[(.int .i64 a0)] w fun e w' => ∃ v, e = .returned v ∧ R v w' :=
 calls_none Tryz.wide_mixed (f := 131) (args := [(.int .i64 a0)]) Tryz.func131 rfl rfl (by kernel_rfl) rfl (Eq.mpr (ref04_num_eq a0 R w) h)
def ref04_one_la1 : LA := ⟨[0, 0, 1, 0, 1, 1, 1], [2, 7, 8], [(2, 0, 0)], 1, []⟩
def ref04_one_an : List LA := [ref04_one_la1]
def ref04_one_v1 (bm0 : Nat) (a0 : ByteArray) (a1 : Int) : List Value := [(.pointer (some ⟨bm0, 0, none⟩)), (.string a0), (.int .i64 a1)]
def ref04_one_m1 (bm0 : Nat) (b1 : Int) (a9 : ByteArray) (b2 : Int) (b3 : Int) (b4 : Int) (b5 : Int) (b6 : Int) (b7 : Int) (a6 : Option Addr) (a8 : Nat) (a7 : Nat) (b0 : ByteArray) (a3 : ByteArray) (a5 : Int) (a4 : Bool) (a0 : Option Addr) (a2 : Nat) (a1 : Nat) : List TB := [⟨bm0, 38, [(.int .i64 b1), (.string a9), (.int .i64 b2), (.int .i64 b3), (.int .i64 b4), (.int .i64 b5), (.int .i64 b6), (.int .i64 b7), (.slice a6 a8 a7), (.string b0), (.string a3), (.int .i64 a5), (.bool a4), (.slice a0 a2 a1)], false⟩]
def ref04_one_L1 (bm0 : Nat) (b2 : Int) (a9 : ByteArray) (b3 : Int) (b4 : Int) (b5 : Int) (b6 : Int) (b7 : Int) (b8 : Int) (a6 : Option Addr) (a8 : Nat) (a7 : Nat) (b0 : ByteArray) (a3 : ByteArray) (a5 : Int) (a4 : Bool) (a1 : Option Addr) (a0 : Nat) (a2 : Nat) (b9 : ByteArray) (b1 : Int) (K1 : Kh) (R : Value → World → Prop) (w : World) : Prop :=
 brB (decide (b1 < (a0 : Int))) (
 ixA a1 a0 b1 1 fun q35 =>
 ldStr w q35 fun s36 =>
 Calls Tryz.prog 86 #[(.string s36)] w fun e w37 => ∃ s38 : ByteArray, e = .returned (.string s38) ∧ Keep [bm0] w w37 ∧
 catS b9 s38 fun s39 =>
 K1 (ref04_one_v1 bm0 s39 (IntKind.wrap .i64 (b1 + 1))) (ref04_one_m1 bm0 b2 a9 b3 b4 b5 b6 b7 b8 a6 a8 a7 b0 a3 a5 a4 a1 a0 a2) w37)
 (
 R (.string b9) w)
theorem ref04_one_L1_eq (bm0 : Nat) (b1 : Int) (a9 : ByteArray) (b2 : Int) (b3 : Int) (b4 : Int) (b5 : Int) (b6 : Int) (b7 : Int) (a6 : Option Addr) (a8 : Nat) (a7 : Nat) (b0 : ByteArray) (a3 : ByteArray) (a5 : Int) (a4 : Bool) (a0 : Option Addr) (a2 : Nat) (a1 : Nat) (b8 : ByteArray) (b9 : Int) (K1 : Kh) (js : Nat → Value) (R : Value → World → Prop) (w : World) :
 headA ref04_one_la1 ((dnF Tryz.prog ref04_one_an (code Tryz.f132) 395 [0, 0, 1, 0, 1, 1, 1]) (kthen3 (atA ref04_one_la1 K1) (kont3 Tryz.prog ref04_one_an (code Tryz.f132) [1, 1, 1, 0, 1, 0] [] (post3 Tryz.prog Tryz.f132 [] R)))) (ref04_one_v1 bm0 b8 b9) js (ref04_one_m1 bm0 b1 a9 b2 b3 b4 b5 b6 b7 a6 a8 a7 b0 a3 a5 a4 a0 a2 a1) w = ref04_one_L1 bm0 b1 a9 b2 b3 b4 b5 b6 b7 a6 a8 a7 b0 a3 a5 a4 a0 a2 a1 b8 b9 K1 R w := by kernel_rfl
def ref04_one_K1 (bm0 : Nat) (b1 : Int) (a9 : ByteArray) (b2 : Int) (b3 : Int) (b4 : Int) (b5 : Int) (b6 : Int) (b7 : Int) (a6 : Option Addr) (a8 : Nat) (a7 : Nat) (b0 : ByteArray) (a3 : ByteArray) (a5 : Int) (a4 : Bool) (a0 : Option Addr) (a2 : Nat) (a1 : Nat) (I : Nat → ByteArray → Int → World → Prop) (m : Nat) (vals : List Value) (mem : List TB) (w : World) : Prop := ∃ m', m' < m ∧ ∃ b8 b9, vals = (ref04_one_v1 bm0 b8 b9) ∧ mem = (ref04_one_m1 bm0 b1 a9 b2 b3 b4 b5 b6 b7 a6 a8 a7 b0 a3 a5 a4 a0 a2 a1) ∧ I m' b8 b9 w
theorem ref04_one_leaf1 {bm0 : Nat} {b1 : Int} {a9 : ByteArray} {b2 : Int} {b3 : Int} {b4 : Int} {b5 : Int} {b6 : Int} {b7 : Int} {a6 : Option Addr} {a8 : Nat} {a7 : Nat} {b0 : ByteArray} {a3 : ByteArray} {a5 : Int} {a4 : Bool} {a0 : Option Addr} {a2 : Nat} {a1 : Nat} {I : Nat → ByteArray → Int → World → Prop} {m : Nat} {b8 : ByteArray} {b9 : Int} {w : World} (m' : Nat) (h1 : m' < m) (h2 : I m' b8 b9 w) : ref04_one_K1 bm0 b1 a9 b2 b3 b4 b5 b6 b7 a6 a8 a7 b0 a3 a5 a4 a0 a2 a1 I m (ref04_one_v1 bm0 b8 b9) (ref04_one_m1 bm0 b1 a9 b2 b3 b4 b5 b6 b7 a6 a8 a7 b0 a3 a5 a4 a0 a2 a1) w := ⟨m', h1, _, _, rfl, rfl, h2⟩
theorem ref04_one_rule1 {bm0 : Nat} {b1 : Int} {a9 : ByteArray} {b2 : Int} {b3 : Int} {b4 : Int} {b5 : Int} {b6 : Int} {b7 : Int} {a6 : Option Addr} {a8 : Nat} {a7 : Nat} {b0 : ByteArray} {a3 : ByteArray} {a5 : Int} {a4 : Bool} {a0 : Option Addr} {a2 : Nat} {a1 : Nat} {c0 : ByteArray} {c1 : Int} {R : Value → World → Prop} {w0 : World} (I : Nat → ByteArray → Int → World → Prop) (m0 : Nat) (h0 : I m0 c0 c1 w0)
 (hr : ∀ (m : Nat) (b8 : ByteArray) (b9 : Int) (w : World), I m b8 b9 w → ref04_one_L1 bm0 b1 a9 b2 b3 b4 b5 b6 b7 a6 a8 a7 b0 a3 a5 a4 a0 a2 a1 b8 b9 (ref04_one_K1 bm0 b1 a9 b2 b3 b4 b5 b6 b7 a6 a8 a7 b0 a3 a5 a4 a0 a2 a1 I m) R w) :
 loopD3 ref04_one_la1 (dnF Tryz.prog ref04_one_an (code Tryz.f132) 395 [0, 0, 1, 0, 1, 1, 1]) (kont3 Tryz.prog ref04_one_an (code Tryz.f132) [1, 1, 1, 0, 1, 0] [] (post3 Tryz.prog Tryz.f132 [] R)) (ref04_one_v1 bm0 c0 c1) (ref04_one_m1 bm0 b1 a9 b2 b3 b4 b5 b6 b7 a6 a8 a7 b0 a3 a5 a4 a0 a2 a1) w0 := by
 refine ⟨fun m vals mem w => ∃ b8 b9, vals = (ref04_one_v1 bm0 b8 b9) ∧ mem = (ref04_one_m1 bm0 b1 a9 b2 b3 b4 b5 b6 b7 a6 a8 a7 b0 a3 a5 a4 a0 a2 a1) ∧ I m b8 b9 w, m0, ⟨_, _, rfl, rfl, h0⟩, ?_⟩
 rintro m vals mem w ⟨b8, b9, rfl, rfl, hI⟩
 refine ⟨rfl, rfl, fun js => ?_⟩
 have h := hr m b8 b9 w hI
 rw [← ref04_one_L1_eq _ _ _ _ _ _ _ _ _ _ _ _ _ _ _ _ _ _ _ _ _ _ js] at h
 exact h
def ref04_one_T (b9 : Int) (a3 : ByteArray) (a1 : Int) (b3 : Int) (b4 : Int) (b5 : Int) (b6 : Int) (b7 : Int) (a4 : Option Addr) (a6 : Nat) (a5 : Nat) (b8 : ByteArray) (a7 : ByteArray) (a8 : Int) (a9 : Bool) (b0 : Option Addr) (a2 : Nat) (b2 : Nat) (a0 : Int) (R : Value → World → Prop) (w : World) : Prop :=
 ∀ b1, w.heap.size ≤ b1 →
 brB (a0 == 116) (
 ∀ w2, Adv [] [b1] w w2 →
 Calls Tryz.prog 86 #[(.string a3)] w2 fun e w3 => ∃ s4 : ByteArray, e = .returned (.string s4) ∧ Keep [b1] w2 w3 ∧
 R (.string s4) w3)
 (
 brB (a0 == 112) (
 ∀ w5, Adv [] [b1] w w5 →
 Calls Tryz.prog 86 #[(.string a3)] w5 fun e w6 => ∃ s7 : ByteArray, e = .returned (.string s7) ∧ Keep [b1] w5 w6 ∧ (((.int .i64 a1) : Value) = (.int .i64 a1)) ∧
 Calls Tryz.prog 131 #[(.int .i64 a1)] w6 fun e w8 => ∃ s9 : ByteArray, e = .returned (.string s9) ∧ Keep [b1] w6 w8 ∧
 catS s7 s9 fun s10 =>
 R (.string s10) w8)
 (
 brB (a0 == 110) (
 ∀ w11, Adv [] [b1] w w11 →
 Calls Tryz.prog 131 #[(.int .i64 b3)] w11 fun e w12 => ∃ s13 : ByteArray, e = .returned (.string s13) ∧ Keep [b1] w11 w12 ∧
 R (.string s13) w12)
 (
 brB (a0 == 111) (
 ∀ w14, Adv [] [b1] w w14 →
 Calls Tryz.prog 131 #[(.int .i64 b4)] w14 fun e w15 => ∃ s16 : ByteArray, e = .returned (.string s16) ∧ Keep [b1] w14 w15 ∧
 R (.string s16) w15)
 (
 brB (a0 == 98) (
 ∀ w17, Adv [] [b1] w w17 →
 Calls Tryz.prog 155 #[(.agg #[(.int .i64 b5), (.int .i64 b6), (.int .i64 b7), (.slice a4 a6 a5)])] w17 fun e w18 => ∃ s19 : ByteArray, ∃ x20 : Int, e = .returned (.tuple #[(.string s19), (.int .i64 x20)]) ∧ Keep [b1] w17 w18 ∧
 R (.string s19) w18)
 (
 brB (a0 == 103) (
 ∀ w21, Adv [] [b1] w w21 →
 Calls Tryz.prog 86 #[(.string b8)] w21 fun e w22 => ∃ s23 : ByteArray, e = .returned (.string s23) ∧ Keep [b1] w21 w22 ∧
 R (.string s23) w22)
 (
 brB (a0 == 109) (
 ∀ w24, Adv [] [b1] w w24 →
 Calls Tryz.prog 86 #[(.string a7)] w24 fun e w25 => ∃ s26 : ByteArray, e = .returned (.string s26) ∧ Keep [b1] w24 w25 ∧
 R (.string s26) w25)
 (
 brB (a0 == 101) (
 ∀ w27, Adv [] [b1] w w27 →
 Calls Tryz.prog 131 #[(.int .i64 a8)] w27 fun e w28 => ∃ s29 : ByteArray, e = .returned (.string s29) ∧ Keep [b1] w27 w28 ∧
 R (.string s29) w28)
 (
 brB (a0 == 114) (
 brB a9 (
 ∀ w30, Adv [] [b1] w w30 →
 R (.string (⟨#[1]⟩ : ByteArray)) w30)
 (
 ∀ w31, Adv [] [b1] w w31 →
 R (.string (⟨#[0]⟩ : ByteArray)) w31))
 (
 ∀ w32, Adv [] [b1] w w32 →
 Calls Tryz.prog 131 #[(.int .i64 (a2 : Int))] w32 fun e w33 => ∃ s34 : ByteArray, e = .returned (.string s34) ∧ Keep [b1] w32 w33 ∧
 loopD3 ref04_one_la1 (dnF Tryz.prog ref04_one_an (code Tryz.f132) 395 [0, 0, 1, 0, 1, 1, 1]) (kont3 Tryz.prog ref04_one_an (code Tryz.f132) [1, 1, 1, 0, 1, 0] [] (post3 Tryz.prog Tryz.f132 [] R)) (ref04_one_v1 b1 s34 0) (ref04_one_m1 b1 b9 a3 a1 b3 b4 b5 b6 b7 a4 a6 a5 b8 a7 a8 a9 b0 a2 b2) w33)))))))))
theorem ref04_one_eq (a9 : Int) (b0 : ByteArray) (b1 : Int) (b2 : Int) (b3 : Int) (b4 : Int) (b5 : Int) (b6 : Int) (a3 : Option Addr) (a5 : Nat) (a4 : Nat) (b7 : ByteArray) (a6 : ByteArray) (a7 : Int) (a8 : Bool) (a0 : Option Addr) (a2 : Nat) (a1 : Nat) (b8 : Int) (R : Value → World → Prop) (w : World) :
 dnF Tryz.prog ref04_one_an (code Tryz.f132) 400 [] (post3 Tryz.prog Tryz.f132 [] R) ⟨args0 0 [(.agg #[(.int .i64 a9), (.string b0), (.int .i64 b1), (.int .i64 b2), (.int .i64 b3), (.int .i64 b4), (.int .i64 b5), (.int .i64 b6), (.slice a3 a5 a4), (.string b7), (.string a6), (.int .i64 a7), (.bool a8), (.slice a0 a2 a1)]), (.int .u8 b8)], fun _ => undef⟩ ⟨[], w, [], [], true⟩ = ref04_one_T a9 b0 b1 b2 b3 b4 b5 b6 a3 a5 a4 b7 a6 a7 a8 a0 a2 a1 b8 R w := by kernel_rfl
theorem ref04_one_go {a9 : Int} {b0 : ByteArray} {b1 : Int} {b2 : Int} {b3 : Int} {b4 : Int} {b5 : Int} {b6 : Int} {a3 : Option Addr} {a5 : Nat} {a4 : Nat} {b7 : ByteArray} {a6 : ByteArray} {a7 : Int} {a8 : Bool} {a0 : Option Addr} {a2 : Nat} {a1 : Nat} {b8 : Int} {R : Value → World → Prop} {w : World} (h : ref04_one_T a9 b0 b1 b2 b3 b4 b5 b6 a3 a5 a4 b7 a6 a7 a8 a0 a2 a1 b8 R w) :
 Calls Tryz.prog 132 #[(.agg #[(.int .i64 a9), (.string b0), (.int .i64 b1), (.int .i64 b2), (.int .i64 b3), (.int .i64 b4), (.int .i64 b5), (.int .i64 b6), (.slice a3 a5 a4), (.string b7), (.string a6), (.int .i64 a7), (.bool a8), (.slice a0 a2 a1)]), (.int .u8 b8)] w fun e w' => ∃ v, e = .returned v ∧ R v w' :=
 calls_none Tryz.wide_mixed (f := 132) (args := [(.agg #[(.int .i64 a9), (.string b0), (.int .i64 b1), (.int .i64 b2), (.int .i64 b3), (.int .i64 b4), (.int .i64 b5), (.int .i64 b6), (.slice a3 a5 a4), (.string b7), (.string a6), (.int .i64 a7), (.bool a8), (.slice a0 a2 a1)]), (.int .u8 b8)]) Tryz.func132 rfl rfl (by kernel_rfl) rfl (Eq.mpr (ref04_one_eq a9 b0 b1 b2 b3 b4 b5 b6 a3 a5 a4 b7 a6 a7 a8 a0 a2 a1 b8 R w) h)
def ref04_Put_la1 : LA := ⟨[0, 0, 1, 0, 1, 1, 1, 1], [1, 5, 6, 7], [(1, 0, 0)], 1, []⟩
def ref04_Put_an : List LA := [ref04_Put_la1]
def ref04_Put_v1 (a1 : ByteArray) (bm0 : Nat) (a0 : ByteArray) (a2 : Int) : List Value := [(.pointer (some ⟨bm0, 0, none⟩)), (.string a0), (.string a1), (.int .i64 a2)]
def ref04_Put_m1 (bm0 : Nat) (b1 : Int) (a9 : ByteArray) (b2 : Int) (b3 : Int) (b4 : Int) (b5 : Int) (b6 : Int) (b7 : Int) (a6 : Option Addr) (a8 : Nat) (a7 : Nat) (b0 : ByteArray) (a3 : ByteArray) (a5 : Int) (a4 : Bool) (a0 : Option Addr) (a2 : Nat) (a1 : Nat) : List TB := [⟨bm0, 38, [(.int .i64 b1), (.string a9), (.int .i64 b2), (.int .i64 b3), (.int .i64 b4), (.int .i64 b5), (.int .i64 b6), (.int .i64 b7), (.slice a6 a8 a7), (.string b0), (.string a3), (.int .i64 a5), (.bool a4), (.slice a0 a2 a1)], false⟩]
def ref04_Put_L1 (b8 : ByteArray) (bm0 : Nat) (b1 : Int) (a9 : ByteArray) (b2 : Int) (b3 : Int) (b4 : Int) (b5 : Int) (b6 : Int) (b7 : Int) (a6 : Option Addr) (a8 : Nat) (a7 : Nat) (b0 : ByteArray) (a3 : ByteArray) (a5 : Int) (a4 : Bool) (a0 : Option Addr) (a2 : Nat) (a1 : Nat) (c0 : ByteArray) (b9 : Int) (K1 : Kh) (R : Value → World → Prop) (w : World) : Prop :=
 brB (decide (b9 < (b8.size : Int))) (
 ixS b8 b9 fun x10 =>
 ∀ w11, Adv [] [] w w11 →
 Calls Tryz.prog 132 #[(.agg #[(.int .i64 b1), (.string a9), (.int .i64 b2), (.int .i64 b3), (.int .i64 b4), (.int .i64 b5), (.int .i64 b6), (.int .i64 b7), (.slice a6 a8 a7), (.string b0), (.string a3), (.int .i64 a5), (.bool a4), (.slice a0 a2 a1)]), (.int .u8 x10)] w11 fun e w12 => ∃ s13 : ByteArray, e = .returned (.string s13) ∧ Keep [bm0] w11 w12 ∧
 catS c0 s13 fun s14 =>
 K1 (ref04_Put_v1 b8 bm0 s14 (IntKind.wrap .i64 (b9 + 1))) (ref04_Put_m1 bm0 b1 a9 b2 b3 b4 b5 b6 b7 a6 a8 a7 b0 a3 a5 a4 a0 a2 a1) w12)
 (
 R (.tuple #[(.string c0), (.int .i64 0)]) w)
theorem ref04_Put_L1_eq (b9 : ByteArray) (bm0 : Nat) (b1 : Int) (a9 : ByteArray) (b2 : Int) (b3 : Int) (b4 : Int) (b5 : Int) (b6 : Int) (b7 : Int) (a6 : Option Addr) (a8 : Nat) (a7 : Nat) (b0 : ByteArray) (a3 : ByteArray) (a5 : Int) (a4 : Bool) (a0 : Option Addr) (a2 : Nat) (a1 : Nat) (b8 : ByteArray) (c0 : Int) (K1 : Kh) (js : Nat → Value) (R : Value → World → Prop) (w : World) :
 headA ref04_Put_la1 ((dnF Tryz.prog ref04_Put_an (code Tryz.f84) 394 [0, 0, 1, 0, 1, 1, 1, 1]) (kthen3 (atA ref04_Put_la1 K1) (kont3 Tryz.prog ref04_Put_an (code Tryz.f84) [1, 1, 1, 1, 0, 1, 0] [] (post3 Tryz.prog Tryz.f84 [] R)))) (ref04_Put_v1 b9 bm0 b8 c0) js (ref04_Put_m1 bm0 b1 a9 b2 b3 b4 b5 b6 b7 a6 a8 a7 b0 a3 a5 a4 a0 a2 a1) w = ref04_Put_L1 b9 bm0 b1 a9 b2 b3 b4 b5 b6 b7 a6 a8 a7 b0 a3 a5 a4 a0 a2 a1 b8 c0 K1 R w := by kernel_rfl
def ref04_Put_K1 (c0 : ByteArray) (bm0 : Nat) (b1 : Int) (a9 : ByteArray) (b2 : Int) (b3 : Int) (b4 : Int) (b5 : Int) (b6 : Int) (b7 : Int) (a6 : Option Addr) (a8 : Nat) (a7 : Nat) (b0 : ByteArray) (a3 : ByteArray) (a5 : Int) (a4 : Bool) (a0 : Option Addr) (a2 : Nat) (a1 : Nat) (I : Nat → ByteArray → Int → World → Prop) (m : Nat) (vals : List Value) (mem : List TB) (w : World) : Prop := ∃ m', m' < m ∧ ∃ b8 b9, vals = (ref04_Put_v1 c0 bm0 b8 b9) ∧ mem = (ref04_Put_m1 bm0 b1 a9 b2 b3 b4 b5 b6 b7 a6 a8 a7 b0 a3 a5 a4 a0 a2 a1) ∧ I m' b8 b9 w
theorem ref04_Put_leaf1 {b9 : ByteArray} {bm0 : Nat} {b1 : Int} {a9 : ByteArray} {b2 : Int} {b3 : Int} {b4 : Int} {b5 : Int} {b6 : Int} {b7 : Int} {a6 : Option Addr} {a8 : Nat} {a7 : Nat} {b0 : ByteArray} {a3 : ByteArray} {a5 : Int} {a4 : Bool} {a0 : Option Addr} {a2 : Nat} {a1 : Nat} {I : Nat → ByteArray → Int → World → Prop} {m : Nat} {b8 : ByteArray} {c0 : Int} {w : World} (m' : Nat) (h1 : m' < m) (h2 : I m' b8 c0 w) : ref04_Put_K1 b9 bm0 b1 a9 b2 b3 b4 b5 b6 b7 a6 a8 a7 b0 a3 a5 a4 a0 a2 a1 I m (ref04_Put_v1 b9 bm0 b8 c0) (ref04_Put_m1 bm0 b1 a9 b2 b3 b4 b5 b6 b7 a6 a8 a7 b0 a3 a5 a4 a0 a2 a1) w := ⟨m', h1, _, _, rfl, rfl, h2⟩
theorem ref04_Put_rule1 {c0 : ByteArray} {bm0 : Nat} {b1 : Int} {a9 : ByteArray} {b2 : Int} {b3 : Int} {b4 : Int} {b5 : Int} {b6 : Int} {b7 : Int} {a6 : Option Addr} {a8 : Nat} {a7 : Nat} {b0 : ByteArray} {a3 : ByteArray} {a5 : Int} {a4 : Bool} {a0 : Option Addr} {a2 : Nat} {a1 : Nat} {c1 : ByteArray} {c2 : Int} {R : Value → World → Prop} {w0 : World} (I : Nat → ByteArray → Int → World → Prop) (m0 : Nat) (h0 : I m0 c1 c2 w0)
 (hr : ∀ (m : Nat) (b8 : ByteArray) (b9 : Int) (w : World), I m b8 b9 w → ref04_Put_L1 c0 bm0 b1 a9 b2 b3 b4 b5 b6 b7 a6 a8 a7 b0 a3 a5 a4 a0 a2 a1 b8 b9 (ref04_Put_K1 c0 bm0 b1 a9 b2 b3 b4 b5 b6 b7 a6 a8 a7 b0 a3 a5 a4 a0 a2 a1 I m) R w) :
 loopD3 ref04_Put_la1 (dnF Tryz.prog ref04_Put_an (code Tryz.f84) 394 [0, 0, 1, 0, 1, 1, 1, 1]) (kont3 Tryz.prog ref04_Put_an (code Tryz.f84) [1, 1, 1, 1, 0, 1, 0] [] (post3 Tryz.prog Tryz.f84 [] R)) (ref04_Put_v1 c0 bm0 c1 c2) (ref04_Put_m1 bm0 b1 a9 b2 b3 b4 b5 b6 b7 a6 a8 a7 b0 a3 a5 a4 a0 a2 a1) w0 := by
 refine ⟨fun m vals mem w => ∃ b8 b9, vals = (ref04_Put_v1 c0 bm0 b8 b9) ∧ mem = (ref04_Put_m1 bm0 b1 a9 b2 b3 b4 b5 b6 b7 a6 a8 a7 b0 a3 a5 a4 a0 a2 a1) ∧ I m b8 b9 w, m0, ⟨_, _, rfl, rfl, h0⟩, ?_⟩
 rintro m vals mem w ⟨b8, b9, rfl, rfl, hI⟩
 refine ⟨rfl, rfl, fun js => ?_⟩
 have h := hr m b8 b9 w hI
 rw [← ref04_Put_L1_eq _ _ _ _ _ _ _ _ _ _ _ _ _ _ _ _ _ _ _ _ _ _ _ js] at h
 exact h
def ref04_Put_T (a0 : Int) (b0 : ByteArray) (b2 : Int) (b3 : Int) (b4 : Int) (b5 : Int) (b6 : Int) (b7 : Int) (a4 : Option Addr) (a6 : Nat) (a5 : Nat) (b8 : ByteArray) (a7 : ByteArray) (a8 : Int) (a9 : Bool) (a1 : Option Addr) (a3 : Nat) (a2 : Nat) (R : Value → World → Prop) (w : World) : Prop :=
 ∀ b1, w.heap.size ≤ b1 →
 ∀ w2, Adv [] [b1] w w2 →
 Calls Tryz.prog 63 #[(.agg #[(.int .i64 a0), (.string b0), (.int .i64 b2), (.int .i64 b3), (.int .i64 b4), (.int .i64 b5), (.int .i64 b6), (.int .i64 b7), (.slice a4 a6 a5), (.string b8), (.string a7), (.int .i64 a8), (.bool a9), (.slice a1 a3 a2)])] w2 fun e w3 => ∃ x4 : Int, e = .returned (.int .i64 x4) ∧ Keep [b1] w2 w3 ∧
 brB (x4 != 0) (
 R (.tuple #[(.string (⟨#[]⟩ : ByteArray)), (.int .i64 x4)]) w3)
 (
 ∀ w5, Adv [] [] w3 w5 →
 Calls Tryz.prog 131 #[(.int .i64 a0)] w5 fun e w6 => ∃ s7 : ByteArray, e = .returned (.string s7) ∧ Keep [b1] w5 w6 ∧ (((.int .i64 a0) : Value) = (.int .i64 a0)) ∧
 Calls Tryz.prog 105 #[(.int .i64 a0)] w6 fun e w8 => ∃ s9 : ByteArray, e = .returned (.string s9) ∧ Keep [b1] w6 w8 ∧
 loopD3 ref04_Put_la1 (dnF Tryz.prog ref04_Put_an (code Tryz.f84) 394 [0, 0, 1, 0, 1, 1, 1, 1]) (kont3 Tryz.prog ref04_Put_an (code Tryz.f84) [1, 1, 1, 1, 0, 1, 0] [] (post3 Tryz.prog Tryz.f84 [] R)) (ref04_Put_v1 s9 b1 s7 0) (ref04_Put_m1 b1 a0 b0 b2 b3 b4 b5 b6 b7 a4 a6 a5 b8 a7 a8 a9 a1 a3 a2) w8)
theorem ref04_Put_eq (a9 : Int) (b0 : ByteArray) (b1 : Int) (b2 : Int) (b3 : Int) (b4 : Int) (b5 : Int) (b6 : Int) (a3 : Option Addr) (a5 : Nat) (a4 : Nat) (b7 : ByteArray) (a6 : ByteArray) (a7 : Int) (a8 : Bool) (a0 : Option Addr) (a2 : Nat) (a1 : Nat) (R : Value → World → Prop) (w : World) :
 dnF Tryz.prog ref04_Put_an (code Tryz.f84) 400 [] (post3 Tryz.prog Tryz.f84 [] R) ⟨args0 0 [(.agg #[(.int .i64 a9), (.string b0), (.int .i64 b1), (.int .i64 b2), (.int .i64 b3), (.int .i64 b4), (.int .i64 b5), (.int .i64 b6), (.slice a3 a5 a4), (.string b7), (.string a6), (.int .i64 a7), (.bool a8), (.slice a0 a2 a1)])], fun _ => undef⟩ ⟨[], w, [], [], true⟩ = ref04_Put_T a9 b0 b1 b2 b3 b4 b5 b6 a3 a5 a4 b7 a6 a7 a8 a0 a2 a1 R w := by kernel_rfl
theorem ref04_Put_go {a9 : Int} {b0 : ByteArray} {b1 : Int} {b2 : Int} {b3 : Int} {b4 : Int} {b5 : Int} {b6 : Int} {a3 : Option Addr} {a5 : Nat} {a4 : Nat} {b7 : ByteArray} {a6 : ByteArray} {a7 : Int} {a8 : Bool} {a0 : Option Addr} {a2 : Nat} {a1 : Nat} {R : Value → World → Prop} {w : World} (h : ref04_Put_T a9 b0 b1 b2 b3 b4 b5 b6 a3 a5 a4 b7 a6 a7 a8 a0 a2 a1 R w) :
 Calls Tryz.prog 84 #[(.agg #[(.int .i64 a9), (.string b0), (.int .i64 b1), (.int .i64 b2), (.int .i64 b3), (.int .i64 b4), (.int .i64 b5), (.int .i64 b6), (.slice a3 a5 a4), (.string b7), (.string a6), (.int .i64 a7), (.bool a8), (.slice a0 a2 a1)])] w fun e w' => ∃ v, e = .returned v ∧ R v w' :=
 calls_none Tryz.wide_mixed (f := 84) (args := [(.agg #[(.int .i64 a9), (.string b0), (.int .i64 b1), (.int .i64 b2), (.int .i64 b3), (.int .i64 b4), (.int .i64 b5), (.int .i64 b6), (.slice a3 a5 a4), (.string b7), (.string a6), (.int .i64 a7), (.bool a8), (.slice a0 a2 a1)])]) Tryz.func84 rfl rfl (by kernel_rfl) rfl (Eq.mpr (ref04_Put_eq a9 b0 b1 b2 b3 b4 b5 b6 a3 a5 a4 b7 a6 a7 a8 a0 a2 a1 R w) h)

end Go.Proofs.YtohgihgddknmmaaGreat

/- The reference's bytes: numbers, texts, sums, frames. -/
namespace Go.Proofs.YtohgihgddknmmaaGreat
open Go Go.RowKit Go.Shelf
set_option linter.unusedVariables false
set_option linter.unusedSimpArgs false

theorem oneB_conv (k : UInt8) (W : World) (a : Nat) (h : W.heap[a]? = some (.cells #[.int .u8 (k.toNat : Nat)] 5)) :
    Sem.run Tryz.prog (Go.convert 122 9 (.slice (some ⟨a, 0, none⟩) 1 1)) W = .ok (.string (bs [k])) W := by
  refine run_convert_bytes_back W _ _ 5 ⟨a, 0, none⟩ 1 [k] Tryz.underlying122 Tryz.underlying5 Tryz.underlying9 fun j hj => ?_
  rw [addr_add, Nat.zero_add, cell_at h]
  have hj : j = 0 := by simpa using hj
  subst hj
  rfl
def hb7 (n : Nat) : UInt8 := UInt8.ofNat (n % 128 + 128)
theorem r1byte (n : Nat) : IntKind.wrap .u8 (IntKind.wrap .u64 (Int.tmod (n : Int) 128 + 128)) = (((hb7 n).toNat : Nat) : Int) := by
  rw [Int.tmod_eq_emod_of_nonneg (by omega), IntKind.wrap_u64, IntKind.wrap_u8]; simp [hb7]
theorem r1cell (n : Nat) (W : World) : (W.alloc (.cells #[.int .u8 (IntKind.wrap .u8 (IntKind.wrap .u64 (Int.tmod (n : Int) 128 + 128)))] 5)).heap[W.heap.size]? = some (.cells #[.int .u8 (((hb7 n).toNat : Nat) : Int)] 5) := by
  rw [r1byte]; exact World.alloc_heap_new W _
theorem r1cell0 (n : Nat) (W : World) : (W.alloc (.cells #[.int .u8 (IntKind.wrap .u8 (IntKind.wrap .u64 (Int.tmod (n : Int) 128 + 128)))] 5)).drew.heap[W.heap.size]? = some (.cells #[.int .u8 (((hb7 n).toNat : Nat) : Int)] 5) := r1cell n W
theorem r1mod (n : Nat) (W : World) : Mod [] W (W.alloc (.cells #[.int .u8 (IntKind.wrap .u8 (IntKind.wrap .u64 (Int.tmod (n : Int) 128 + 128)))] 5)) := Mod.of_below ((Below.refl _ _).alloc (Nat.le_refl _) _)
theorem r1div (n : Nat) (hn : n < 18446744073709551616) : IntKind.wrap .u64 ((n : Int) / 128) = ((n / 128 : Nat) : Int) := by rw [IntKind.wrap_u64]; omega
set_option maxRecDepth 100000 in
set_option maxHeartbeats 4000000 in
theorem R1Put_big (n : Nat) (hn : n < 18446744073709551616) (hb : 128 ≤ n) (ih : ∀ w, Calls Tryz.prog 83 #[.int .u64 (n / 128 : Nat)] w fun e w' => e = .returned (.string (bs (vPutL (n / 128)))) ∧ Mod [] w w') (w : World) :
    Calls Tryz.prog 83 #[.int .u64 (n : Nat)] w fun e w' => e = .returned (.string (bs ([hb7 n] ++ vPutL (n / 128)))) ∧ Mod [] w w' := by
  have mixed := Tryz.wide_mixed
  have hd : decide ((n : Int) < 128) = false := by simp; omega
  go_enter Tryz.func83, Tryz.ntmps83
  go_wp2
  have hcat : ¬ (bs [hb7 n]).size + (bs (vPutL (n / 128))).size > 9223372036854775807 := by
    rw [bs_size, bs_size]; have := (vPutL_len (n / 128) (by omega)).2; simp; omega
  go_region_with (first
    | (go_at_call 83; rw [r1div n hn]; refine (ih _).mono ?_; rintro e w' ⟨rfl, M⟩)
    | (rw [oneB_conv _ _ _ (r1cell0 n _)]; simp only [Result.andThen]; rw [Oper.upon_value])
    | (rw [oneB_conv _ _ _ (r1cell n _)]; simp only [Result.andThen]; rw [Oper.upon_value])
    | (rw [oneB_conv _ _ _ (M.keep0 (r1cell0 n _))]; simp only [Result.andThen]; rw [Oper.upon_value])
    | (rw [oneB_conv _ _ _ (M.keep0 (r1cell n _))]; simp only [Result.andThen]; rw [Oper.upon_value]))
  all_goals go_wp2
  all_goals go_ret
  · exact ⟨by rw [bs_app]; rfl, (r1mod n w).trans ((Mod.drewN _ 1).trans M)⟩
  · exact ⟨by rw [bs_app]; rfl, (r1mod n w).trans ((Mod.drewN _ 1).trans M)⟩
  · exact ⟨by rw [bs_app]; rfl, (Mod.drewN _ 1).trans (M.trans (r1mod n _))⟩
theorem R1Put_ok : ∀ (k n : Nat), n < 128 ^ (k + 1) → n < 18446744073709551616 → ∀ w, Calls Tryz.prog 83 #[.int .u64 (n : Nat)] w fun e w' => e = .returned (.string (bs (vPutL n))) ∧ Mod [] w w'
  | k, n, hk, hn, w => by
    by_cases hb : n < 128
    · refine go_of (ref01_Put_go ?_)
      rw [ref01_Put_T, decide_eq_true (by omega), brB_true]
      refine al_of fun b1 w1 c1 M1 f1 => ?_
      have e8 : IntKind.wrap .u8 (n : Int) = ((UInt8.ofNat n).toNat : Nat) := by rw [IntKind.wrap_u8]; simp
      rw [e8] at c1
      refine ⟨_, _, oneB_conv _ _ _ c1, ?_, M1⟩
      unfold vPutL
      rw [sevL_small hb]; rfl
    · cases k with
      | zero => omega
      | succ k =>
        have e : vPutL n = [hb7 n] ++ vPutL (n / 128) := by
          unfold vPutL; rw [sevL_big hb]; rfl
        rw [e]
        exact R1Put_big n hn (by omega) (R1Put_ok k (n / 128) (by rw [Nat.pow_succ] at hk; omega) (by omega)) w
theorem R1PutN_ok {n : Nat} (hn : n < 18446744073709551616) (w : World) : Calls Tryz.prog 83 #[.int .u64 (n : Nat)] w fun e w' => e = .returned (.string (bs (vPutL n))) ∧ Mod [] w w' :=
  R1Put_ok 9 n (by omega) hn w
theorem R1Text_ok (s : ByteArray) (hs : s.size ≤ 1000000000000) (w : World) : Calls Tryz.prog 86 #[.string s] w fun e w' => e = .returned (.string (bs (putT s))) ∧ Mod [] w w' := by
  refine go_of (ref01_Text_go ?_)
  unfold ref01_Text_T
  rw [wrapU (by omega)]
  refine (R1PutN_ok (by omega) w).mono ?_
  rintro e w1 ⟨rfl, M1⟩
  refine ⟨_, rfl, by have := (vPutL_len s.size (by omega)).2; rw [bs_size]; omega, by rw [bs_append]; rfl, M1⟩

end Go.Proofs.YtohgihgddknmmaaGreat
