/- Part 3 of the proof of PSDoes. -/
import Derived.WalkKit
import Derived.WalkSpells
import Derived.WalkLawsBesides
import Derived.Deep.Quiet
import Derived.Test.YtohgihgddknmmaaGreatRows
import Derived.KernelRfl
import Derived.Maps.Keyed
import Derived.Maps.RangeRun
import Derived.DeepKeys4
import Derived.Lib.Strings
import Derived.Shelf.RegionOpenPlain
import Derived.Lib.Slices
import Derived.Lib.Walk
import Derived.Lib.Builder
import Derived.Lib.FrozenHead
import Derived.Lib.OthersKept
import Derived.Lib.AppendStr
import Derived.Lib.UnsafeStr
import Derived.Lib.MakeNoZero
import Derived.Laws.Externs
import Derived.Laws.IdiomCopy
import Derived.Laws.BitsLemmas
import Derived.RangeFuncBox
import Derived.RangeFuncLeaves
import Derived.RangeFuncNested
import Derived.Shelf.Abstract
import Derived.OwnWalkIn
import Derived.TacticsInMore
import Derived.LoopNIn
import Derived.LoopIn
import Derived.Maps.AppendAt
import Derived.Sort.LoopGhostIn
import Derived.Laws.Bits64b
import Derived.Laws.IdiomStrings
import Derived.Test.YtohgihgddknmmaaGreatProg
import Derived.Shelf.Lay
import Derived.Shelf.Strings.FuncGrows
import Derived.Laws.RangeAny
import Derived.Ground.GgwProg
import Derived.Ground.NamesProg
import Derived.Test.YtohgihgddknmmaaGreatPSDoesK2
/- The conditions of Go functions' bodies, printed by gen2.py. -/
namespace Go.Proofs.YtohgihgddknmmaaGreat
open Go Go.RowKit
set_option linter.unusedVariables false
set_option maxRecDepth 100000

def record_number_an : List LA := []
def record_number_T (a0 : Int) (R : Value → World → Prop) (w : World) : Prop :=
 brB (decide (a0 ≥ 0)) (
 R (.bool (decide (a0 ≤ 1099511627776))) w)
 (
 R (.bool false) w)
theorem record_number_eq (a0 : Int) (R : Value → World → Prop) (w : World) :
 dnF Tryz.prog record_number_an (code Tryz.f202) 400 [] (post3 Tryz.prog Tryz.f202 [] R) ⟨args0 0 [.int .i64 a0], fun _ => undef⟩ ⟨[], w, [], [], true⟩ = record_number_T a0 R w := by kernel_rfl
theorem record_number_go {a0 : Int} {R : Value → World → Prop} {w : World} (h : record_number_T a0 R w) :
 Calls Tryz.prog 202 #[.int .i64 a0] w fun e w' => ∃ v, e = .returned v ∧ R v w' :=
 calls_none Tryz.wide_mixed (f := 202) (args := [.int .i64 a0]) Tryz.func202 rfl rfl (by kernel_rfl) rfl (Eq.mpr (record_number_eq a0 R w) h)
def record_All_la1 : LA := ⟨[0, 0, 1, 0, 1, 1], [34, 35, 36], [], 1, []⟩
def record_All_an : List LA := [record_All_la1]
def record_All_v1 (a0 : Option Addr) (a2 a1 : Nat) (a3 a4 : Int) : List Value := [.slice a0 a2 a1, .int .i64 a3, .int .i64 a4]
def record_All_m1 (bm0 : Nat) (a3 a4 a5 : Int) (a0 : Option Addr) (a2 a1 : Nat) : List TB := [⟨bm0, 35, [.int .i64 a3, .int .i64 a4, .int .i64 a5, .slice a0 a2 a1], false⟩]
def record_All_L1 (a1 : Option Addr) (a4 b0 : Nat) (a6 : Int) (bm0 : Nat) (a7 a8 a9 : Int) (a2 : Option Addr) (a5 a3 : Nat) (a0 : Int) (K1 : Kh) (R : Value → World → Prop) (w : World) : Prop :=
 brB (decide (a0 < a6)) (
 ixA a1 a4 a0 4 fun q9 =>
 ldBool w q9 fun t10 => ldStr w (Addr.add q9 1) fun s11 => ldBool w (Addr.add q9 2) fun t12 => ldStr w (Addr.add q9 3) fun s13 =>
 ∀ b14, w.heap.size ≤ b14 →
 ∀ w15, Adv [] [b14] w w15 →
 Calls Tryz.prog 162 #[(.agg #[.bool t10, .string s11, .bool t12, .string s13])] w15 fun e w16 => ∃ x17 : Int, e = .returned (.int .i64 x17) ∧ Keep [bm0, b14] w15 w16 ∧
 brB (x17 != 0) (
 R (.int .i64 x17) w16)
 (
 K1 (record_All_v1 a1 a4 b0 a6 (IntKind.wrap .i64 (a0 + 1))) (record_All_m1 bm0 a7 a8 a9 a2 a5 a3) w16))
 (
 R (.int .i64 0) w)
theorem record_All_L1_eq (a6 : Option Addr) (a8 a7 : Nat) (a9 : Int) (bm0 : Nat) (a3 a4 a5 : Int) (a0 : Option Addr) (a2 a1 : Nat) (b0 : Int) (K1 : Kh) (js : Nat → Value) (R : Value → World → Prop) (w : World) :
 headA record_All_la1 ((dnF Tryz.prog record_All_an (code Tryz.f199) 396 [0, 0, 1, 0, 1, 1]) (kthen3 (atA record_All_la1 K1) (kont3 Tryz.prog record_All_an (code Tryz.f199) [1, 1, 0, 1, 0] [] (post3 Tryz.prog Tryz.f199 [] R)))) (record_All_v1 a6 a8 a7 a9 b0) js (record_All_m1 bm0 a3 a4 a5 a0 a2 a1) w = record_All_L1 a6 a8 a7 a9 bm0 a3 a4 a5 a0 a2 a1 b0 K1 R w := by kernel_rfl
def record_All_K1 (a7 : Option Addr) (a9 a8 : Nat) (b0 : Int) (bm0 : Nat) (a4 a5 a6 : Int) (a0 : Option Addr) (a2 a1 : Nat) (I : Nat → Int → World → Prop) (m : Nat) (vals : List Value) (mem : List TB) (w : World) : Prop := ∃ m', m' < m ∧ ∃ a3, vals = (record_All_v1 a7 a9 a8 b0 a3) ∧ mem = (record_All_m1 bm0 a4 a5 a6 a0 a2 a1) ∧ I m' a3 w
theorem record_All_leaf1 {a6 : Option Addr} {a8 a7 : Nat} {a9 : Int} {bm0 : Nat} {a3 a4 a5 : Int} {a0 : Option Addr} {a2 a1 : Nat} {I : Nat → Int → World → Prop} {m : Nat} {b0 : Int} {w : World} (m' : Nat) (h1 : m' < m) (h2 : I m' b0 w) : record_All_K1 a6 a8 a7 a9 bm0 a3 a4 a5 a0 a2 a1 I m (record_All_v1 a6 a8 a7 a9 b0) (record_All_m1 bm0 a3 a4 a5 a0 a2 a1) w := ⟨m', h1, _, rfl, rfl, h2⟩
theorem record_All_rule1 {a7 : Option Addr} {a9 a8 : Nat} {b0 : Int} {bm0 : Nat} {a4 a5 a6 : Int} {a1 : Option Addr} {a3 a2 : Nat} {b1 : Int} {R : Value → World → Prop} {w0 : World} (I : Nat → Int → World → Prop) (m0 : Nat) (h0 : I m0 b1 w0)
 (hr : ∀ (m : Nat) (a0 : Int) (w : World), I m a0 w → record_All_L1 a7 a9 a8 b0 bm0 a4 a5 a6 a1 a3 a2 a0 (record_All_K1 a7 a9 a8 b0 bm0 a4 a5 a6 a1 a3 a2 I m) R w) :
 loopD3 record_All_la1 (dnF Tryz.prog record_All_an (code Tryz.f199) 396 [0, 0, 1, 0, 1, 1]) (kont3 Tryz.prog record_All_an (code Tryz.f199) [1, 1, 0, 1, 0] [] (post3 Tryz.prog Tryz.f199 [] R)) (record_All_v1 a7 a9 a8 b0 b1) (record_All_m1 bm0 a4 a5 a6 a1 a3 a2) w0 := by
 refine ⟨fun m vals mem w => ∃ a0, vals = (record_All_v1 a7 a9 a8 b0 a0) ∧ mem = (record_All_m1 bm0 a4 a5 a6 a1 a3 a2) ∧ I m a0 w, m0, ⟨_, rfl, rfl, h0⟩, ?_⟩
 rintro m vals mem w ⟨a0, rfl, rfl, hI⟩
 refine ⟨rfl, rfl, fun js => ?_⟩
 have h := hr m a0 w hI
 rw [← record_All_L1_eq _ _ _ _ _ _ _ _ _ _ _ _ _ js] at h
 exact h
def record_All_T (a3 a4 a5 : Int) (a1 : Option Addr) (a0 a2 : Nat) (R : Value → World → Prop) (w : World) : Prop :=
 ∀ b1, w.heap.size ≤ b1 →
 ∀ w2, Adv [] [b1] w w2 →
 Calls Tryz.prog 202 #[.int .i64 a3] w2 fun e w3 => ∃ t4 : Bool, e = .returned (.bool t4) ∧ Keep [b1] w2 w3 ∧
 brB (!t4) (
 R (.int .i64 1) w3)
 (
 Calls Tryz.prog 202 #[.int .i64 a4] w3 fun e w5 => ∃ t6 : Bool, e = .returned (.bool t6) ∧ Keep [b1] w3 w5 ∧
 brB (!t6) (
 R (.int .i64 1) w5)
 (
 Calls Tryz.prog 202 #[.int .i64 a5] w5 fun e w7 => ∃ t8 : Bool, e = .returned (.bool t8) ∧ Keep [b1] w5 w7 ∧
 brB (!t8) (
 R (.int .i64 1) w7)
 (
 brB ((a0 : Int) == 0) (
 R (.int .i64 30) w7)
 (
 brB (decide ((a0 : Int) > 16)) (
 R (.int .i64 2) w7)
 (
 loopD3 record_All_la1 (dnF Tryz.prog record_All_an (code Tryz.f199) 396 [0, 0, 1, 0, 1, 1]) (kont3 Tryz.prog record_All_an (code Tryz.f199) [1, 1, 0, 1, 0] [] (post3 Tryz.prog Tryz.f199 [] R)) (record_All_v1 a1 a0 a2 (a0 : Int) 0) (record_All_m1 b1 a3 a4 a5 a1 a0 a2) w7)))))
theorem record_All_eq (a3 a4 a5 : Int) (a0 : Option Addr) (a2 a1 : Nat) (R : Value → World → Prop) (w : World) :
 dnF Tryz.prog record_All_an (code Tryz.f199) 400 [] (post3 Tryz.prog Tryz.f199 [] R) ⟨args0 0 [(.agg #[.int .i64 a3, .int .i64 a4, .int .i64 a5, .slice a0 a2 a1])], fun _ => undef⟩ ⟨[], w, [], [], true⟩ = record_All_T a3 a4 a5 a0 a2 a1 R w := by kernel_rfl
theorem record_All_go {a3 a4 a5 : Int} {a0 : Option Addr} {a2 a1 : Nat} {R : Value → World → Prop} {w : World} (h : record_All_T a3 a4 a5 a0 a2 a1 R w) :
 Calls Tryz.prog 199 #[(.agg #[.int .i64 a3, .int .i64 a4, .int .i64 a5, .slice a0 a2 a1])] w fun e w' => ∃ v, e = .returned v ∧ R v w' :=
 calls_none Tryz.wide_mixed (f := 199) (args := [(.agg #[.int .i64 a3, .int .i64 a4, .int .i64 a5, .slice a0 a2 a1])]) Tryz.func199 rfl rfl (by kernel_rfl) rfl (Eq.mpr (record_All_eq a3 a4 a5 a0 a2 a1 R w) h)
def ref03_All_la1 : LA := ⟨[0, 0, 1, 0, 1, 1, 1, 1], [1, 3], [(1, 0, 0)], 1, []⟩
def ref03_All_an : List LA := [ref03_All_la1]
def ref03_All_v1 (bm0 : Nat) (a0 : Int) : List Value := [(.pointer (some ⟨bm0, 0, none⟩)), .int .i64 a0]
def ref03_All_m1 (bm0 : Nat) (a3 a4 a5 : Int) (a0 : Option Addr) (a2 a1 : Nat) : List TB := [⟨bm0, 35, [.int .i64 a3, .int .i64 a4, .int .i64 a5, .slice a0 a2 a1], false⟩]
def ref03_All_L1 (bm0 : Nat) (a4 a5 a6 : Int) (a1 : Option Addr) (a0 a2 : Nat) (a3 : Int) (K1 : Kh) (R : Value → World → Prop) (w : World) : Prop :=
 brB (decide (a3 < (a0 : Int))) (
 ixA a1 a0 a3 4 fun q9 =>
 ldBool w q9 fun t10 => ldStr w (Addr.add q9 1) fun s11 => ldBool w (Addr.add q9 2) fun t12 => ldStr w (Addr.add q9 3) fun s13 =>
 Calls Tryz.prog 145 #[(.agg #[.bool t10, .string s11, .bool t12, .string s13])] w fun e w14 => ∃ x15 : Int, e = .returned (.int .i64 x15) ∧ Keep [bm0] w w14 ∧
 brB (x15 != 0) (
 R (.int .i64 x15) w14)
 (
 K1 (ref03_All_v1 bm0 (IntKind.wrap .i64 (a3 + 1))) (ref03_All_m1 bm0 a4 a5 a6 a1 a0 a2) w14))
 (
 R (.int .i64 0) w)
theorem ref03_All_L1_eq (bm0 : Nat) (a3 a4 a5 : Int) (a0 : Option Addr) (a2 a1 : Nat) (a6 : Int) (K1 : Kh) (js : Nat → Value) (R : Value → World → Prop) (w : World) :
 headA ref03_All_la1 ((dnF Tryz.prog ref03_All_an (code Tryz.f111) 394 [0, 0, 1, 0, 1, 1, 1, 1]) (kthen3 (atA ref03_All_la1 K1) (kont3 Tryz.prog ref03_All_an (code Tryz.f111) [1, 1, 1, 1, 0, 1, 0] [] (post3 Tryz.prog Tryz.f111 [] R)))) (ref03_All_v1 bm0 a6) js (ref03_All_m1 bm0 a3 a4 a5 a0 a2 a1) w = ref03_All_L1 bm0 a3 a4 a5 a0 a2 a1 a6 K1 R w := by kernel_rfl
def ref03_All_K1 (bm0 : Nat) (a3 a4 a5 : Int) (a0 : Option Addr) (a2 a1 : Nat) (I : Nat → Int → World → Prop) (m : Nat) (vals : List Value) (mem : List TB) (w : World) : Prop := ∃ m', m' < m ∧ ∃ a6, vals = (ref03_All_v1 bm0 a6) ∧ mem = (ref03_All_m1 bm0 a3 a4 a5 a0 a2 a1) ∧ I m' a6 w
theorem ref03_All_leaf1 {bm0 : Nat} {a3 a4 a5 : Int} {a0 : Option Addr} {a2 a1 : Nat} {I : Nat → Int → World → Prop} {m : Nat} {a6 : Int} {w : World} (m' : Nat) (h1 : m' < m) (h2 : I m' a6 w) : ref03_All_K1 bm0 a3 a4 a5 a0 a2 a1 I m (ref03_All_v1 bm0 a6) (ref03_All_m1 bm0 a3 a4 a5 a0 a2 a1) w := ⟨m', h1, _, rfl, rfl, h2⟩
theorem ref03_All_rule1 {bm0 : Nat} {a3 a4 a5 : Int} {a0 : Option Addr} {a2 a1 : Nat} {a7 : Int} {R : Value → World → Prop} {w0 : World} (I : Nat → Int → World → Prop) (m0 : Nat) (h0 : I m0 a7 w0)
 (hr : ∀ (m : Nat) (a6 : Int) (w : World), I m a6 w → ref03_All_L1 bm0 a3 a4 a5 a0 a2 a1 a6 (ref03_All_K1 bm0 a3 a4 a5 a0 a2 a1 I m) R w) :
 loopD3 ref03_All_la1 (dnF Tryz.prog ref03_All_an (code Tryz.f111) 394 [0, 0, 1, 0, 1, 1, 1, 1]) (kont3 Tryz.prog ref03_All_an (code Tryz.f111) [1, 1, 1, 1, 0, 1, 0] [] (post3 Tryz.prog Tryz.f111 [] R)) (ref03_All_v1 bm0 a7) (ref03_All_m1 bm0 a3 a4 a5 a0 a2 a1) w0 := by
 refine ⟨fun m vals mem w => ∃ a6, vals = (ref03_All_v1 bm0 a6) ∧ mem = (ref03_All_m1 bm0 a3 a4 a5 a0 a2 a1) ∧ I m a6 w, m0, ⟨_, rfl, rfl, h0⟩, ?_⟩
 rintro m vals mem w ⟨a6, rfl, rfl, hI⟩
 refine ⟨rfl, rfl, fun js => ?_⟩
 have h := hr m a6 w hI
 rw [← ref03_All_L1_eq _ _ _ _ _ _ _ _ _ js] at h
 exact h
def ref03_All_T (a1 a2 a3 : Int) (a4 : Option Addr) (a0 a5 : Nat) (R : Value → World → Prop) (w : World) : Prop :=
 ∀ b1, w.heap.size ≤ b1 →
 ∀ w2, Adv [] [b1] w w2 →
 Calls Tryz.prog 110 #[.int .i64 a1] w2 fun e w3 => ∃ t4 : Bool, e = .returned (.bool t4) ∧ Keep [b1] w2 w3 ∧
 brB (!t4) (
 R (.int .i64 1) w3)
 (
 Calls Tryz.prog 110 #[.int .i64 a2] w3 fun e w5 => ∃ t6 : Bool, e = .returned (.bool t6) ∧ Keep [b1] w3 w5 ∧
 brB (!t6) (
 R (.int .i64 1) w5)
 (
 Calls Tryz.prog 110 #[.int .i64 a3] w5 fun e w7 => ∃ t8 : Bool, e = .returned (.bool t8) ∧ Keep [b1] w5 w7 ∧
 brB (!t8) (
 R (.int .i64 1) w7)
 (
 brB ((a0 : Int) == 0) (
 R (.int .i64 30) w7)
 (
 brB (decide ((a0 : Int) > 16)) (
 R (.int .i64 2) w7)
 (
 loopD3 ref03_All_la1 (dnF Tryz.prog ref03_All_an (code Tryz.f111) 394 [0, 0, 1, 0, 1, 1, 1, 1]) (kont3 Tryz.prog ref03_All_an (code Tryz.f111) [1, 1, 1, 1, 0, 1, 0] [] (post3 Tryz.prog Tryz.f111 [] R)) (ref03_All_v1 b1 0) (ref03_All_m1 b1 a1 a2 a3 a4 a0 a5) w7)))))
theorem ref03_All_eq (a3 a4 a5 : Int) (a0 : Option Addr) (a2 a1 : Nat) (R : Value → World → Prop) (w : World) :
 dnF Tryz.prog ref03_All_an (code Tryz.f111) 400 [] (post3 Tryz.prog Tryz.f111 [] R) ⟨args0 0 [(.agg #[.int .i64 a3, .int .i64 a4, .int .i64 a5, .slice a0 a2 a1])], fun _ => undef⟩ ⟨[], w, [], [], true⟩ = ref03_All_T a3 a4 a5 a0 a2 a1 R w := by kernel_rfl
theorem ref03_All_go {a3 a4 a5 : Int} {a0 : Option Addr} {a2 a1 : Nat} {R : Value → World → Prop} {w : World} (h : ref03_All_T a3 a4 a5 a0 a2 a1 R w) :
 Calls Tryz.prog 111 #[(.agg #[.int .i64 a3, .int .i64 a4, .int .i64 a5, .slice a0 a2 a1])] w fun e w' => ∃ v, e = .returned v ∧ R v w' :=
 calls_none Tryz.wide_mixed (f := 111) (args := [(.agg #[.int .i64 a3, .int .i64 a4, .int .i64 a5, .slice a0 a2 a1])]) Tryz.func111 rfl rfl (by kernel_rfl) rfl (Eq.mpr (ref03_All_eq a3 a4 a5 a0 a2 a1 R w) h)
def ref03_Records_la1 : LA := ⟨[0, 0, 1, 0, 1, 1], [0, 1, 5], [], 0, []⟩
def ref03_Records_an : List LA := [ref03_Records_la1]
def ref03_Records_v1 (a0 : Option Addr) (a4 a2 : Nat) (a1 : Option Addr) (a5 a3 : Nat) (a6 : Int) : List Value := [.slice a0 a4 a2, .slice a1 a5 a3, .int .i64 a6]
def ref03_Records_m1 : List TB := []
def ref03_Records_L1 (a2 : Option Addr) (a1 a5 : Nat) (a3 : Option Addr) (a4 a6 : Nat) (a0 : Int) (K1 : Kh) (R : Value → World → Prop) (w : World) : Prop :=
 brB (decide (a0 < (a1 : Int))) (
 ixA a2 a1 a0 4 fun q1 =>
 ldBool w q1 fun t2 => ldStr w (Addr.add q1 1) fun s3 => ldBool w (Addr.add q1 2) fun t4 => ldStr w (Addr.add q1 3) fun s5 =>
 ixA a3 a4 a0 4 fun q6 =>
 ldBool w q6 fun t7 => ldStr w (Addr.add q6 1) fun s8 => ldBool w (Addr.add q6 2) fun t9 => ldStr w (Addr.add q6 3) fun s10 =>
 ∃ t11 : Bool, (∀ w', Mod [] w w' → Sem.run Tryz.prog (do eqGuard .neq 149 (.tmp 20) (.tmp 24) (.agg #[.bool t2, .string s3, .bool t4, .string s5]) (.agg #[.bool t7, .string s8, .bool t9, .string s10]); Go.binOp .neq 149 (.agg #[.bool t2, .string s3, .bool t4, .string s5]) (.agg #[.bool t7, .string s8, .bool t9, .string s10])) w' = .ok (.bool t11) w') ∧
 brB t11 (
 ∀ w12, Adv [] [] w w12 →
 R (.bool false) w12)
 (
 ∀ w13, Adv [] [] w w13 →
 K1 (ref03_Records_v1 a2 a1 a5 a3 a4 a6 (IntKind.wrap .i64 (a0 + 1))) (ref03_Records_m1) w13))
 (
 R (.bool true) w)
theorem ref03_Records_L1_eq (a0 : Option Addr) (a4 a2 : Nat) (a1 : Option Addr) (a5 a3 : Nat) (a6 : Int) (K1 : Kh) (js : Nat → Value) (R : Value → World → Prop) (w : World) :
 headA ref03_Records_la1 ((dnF Tryz.prog ref03_Records_an (code Tryz.f150) 396 [0, 0, 1, 0, 1, 1]) (kthen3 (atA ref03_Records_la1 K1) (kont3 Tryz.prog ref03_Records_an (code Tryz.f150) [1, 1, 0, 1, 0] [] (post3 Tryz.prog Tryz.f150 [] R)))) (ref03_Records_v1 a0 a4 a2 a1 a5 a3 a6) js (ref03_Records_m1) w = ref03_Records_L1 a0 a4 a2 a1 a5 a3 a6 K1 R w := by kernel_rfl
def ref03_Records_K1 (a1 : Option Addr) (a5 a3 : Nat) (a2 : Option Addr) (a6 a4 : Nat) (I : Nat → Int → World → Prop) (m : Nat) (vals : List Value) (mem : List TB) (w : World) : Prop := ∃ m', m' < m ∧ ∃ a0, vals = (ref03_Records_v1 a1 a5 a3 a2 a6 a4 a0) ∧ mem = (ref03_Records_m1) ∧ I m' a0 w
theorem ref03_Records_leaf1 {a0 : Option Addr} {a4 a2 : Nat} {a1 : Option Addr} {a5 a3 : Nat} {I : Nat → Int → World → Prop} {m : Nat} {a6 : Int} {w : World} (m' : Nat) (h1 : m' < m) (h2 : I m' a6 w) : ref03_Records_K1 a0 a4 a2 a1 a5 a3 I m (ref03_Records_v1 a0 a4 a2 a1 a5 a3 a6) (ref03_Records_m1) w := ⟨m', h1, _, rfl, rfl, h2⟩
theorem ref03_Records_rule1 {a1 : Option Addr} {a5 a3 : Nat} {a2 : Option Addr} {a6 a4 : Nat} {a7 : Int} {R : Value → World → Prop} {w0 : World} (I : Nat → Int → World → Prop) (m0 : Nat) (h0 : I m0 a7 w0)
 (hr : ∀ (m : Nat) (a0 : Int) (w : World), I m a0 w → ref03_Records_L1 a1 a5 a3 a2 a6 a4 a0 (ref03_Records_K1 a1 a5 a3 a2 a6 a4 I m) R w) :
 loopD3 ref03_Records_la1 (dnF Tryz.prog ref03_Records_an (code Tryz.f150) 396 [0, 0, 1, 0, 1, 1]) (kont3 Tryz.prog ref03_Records_an (code Tryz.f150) [1, 1, 0, 1, 0] [] (post3 Tryz.prog Tryz.f150 [] R)) (ref03_Records_v1 a1 a5 a3 a2 a6 a4 a7) (ref03_Records_m1) w0 := by
 refine ⟨fun m vals mem w => ∃ a0, vals = (ref03_Records_v1 a1 a5 a3 a2 a6 a4 a0) ∧ mem = (ref03_Records_m1) ∧ I m a0 w, m0, ⟨_, rfl, rfl, h0⟩, ?_⟩
 rintro m vals mem w ⟨a0, rfl, rfl, hI⟩
 refine ⟨rfl, rfl, fun js => ?_⟩
 have h := hr m a0 w hI
 rw [← ref03_Records_L1_eq _ _ _ _ _ _ _ _ js] at h
 exact h
def ref03_Records_T (a2 : Option Addr) (a0 a3 : Nat) (a4 : Option Addr) (a1 a5 : Nat) (R : Value → World → Prop) (w : World) : Prop :=
 brB ((a0 : Int) != (a1 : Int)) (
 R (.bool false) w)
 (
 loopD3 ref03_Records_la1 (dnF Tryz.prog ref03_Records_an (code Tryz.f150) 396 [0, 0, 1, 0, 1, 1]) (kont3 Tryz.prog ref03_Records_an (code Tryz.f150) [1, 1, 0, 1, 0] [] (post3 Tryz.prog Tryz.f150 [] R)) (ref03_Records_v1 a2 a0 a3 a4 a1 a5 0) (ref03_Records_m1) w)
theorem ref03_Records_eq (a0 : Option Addr) (a2 a1 : Nat) (a3 : Option Addr) (a5 a4 : Nat) (R : Value → World → Prop) (w : World) :
 dnF Tryz.prog ref03_Records_an (code Tryz.f150) 400 [] (post3 Tryz.prog Tryz.f150 [] R) ⟨args0 0 [.slice a0 a2 a1, .slice a3 a5 a4], fun _ => undef⟩ ⟨[], w, [], [], true⟩ = ref03_Records_T a0 a2 a1 a3 a5 a4 R w := by kernel_rfl
theorem ref03_Records_go {a0 : Option Addr} {a2 a1 : Nat} {a3 : Option Addr} {a5 a4 : Nat} {R : Value → World → Prop} {w : World} (h : ref03_Records_T a0 a2 a1 a3 a5 a4 R w) :
 Calls Tryz.prog 150 #[.slice a0 a2 a1, .slice a3 a5 a4] w fun e w' => ∃ v, e = .returned v ∧ R v w' :=
 calls_none Tryz.wide_mixed (f := 150) (args := [.slice a0 a2 a1, .slice a3 a5 a4]) Tryz.func150 rfl rfl (by kernel_rfl) rfl (Eq.mpr (ref03_Records_eq a0 a2 a1 a3 a5 a4 R w) h)
def ref03_Same_an : List LA := []
def ref03_Same_T (a6 a7 a8 : Int) (a0 : Option Addr) (a2 a1 : Nat) (a9 b0 b3 : Int) (a3 : Option Addr) (a5 a4 : Nat) (R : Value → World → Prop) (w : World) : Prop :=
 ∀ b1, w.heap.size ≤ b1 →
 ∀ b2, w.heap.size ≤ b2 →
 brB (a6 == a9) (
 brB (a7 == b0) (
 brB (a8 == b3) (
 ∀ w3, Adv [] [b2, b1] w w3 →
 Calls Tryz.prog 150 #[.slice a0 a2 a1, .slice a3 a5 a4] w3 fun e w4 => ∃ t5 : Bool, e = .returned (.bool t5) ∧ Keep [b1, b2] w3 w4 ∧
 R (.bool t5) w4)
 (
 ∀ w6, Adv [] [b2, b1] w w6 →
 R (.bool false) w6))
 (
 ∀ w7, Adv [] [b2, b1] w w7 →
 R (.bool false) w7))
 (
 ∀ w8, Adv [] [b2, b1] w w8 →
 R (.bool false) w8)
theorem ref03_Same_eq (a6 a7 a8 : Int) (a0 : Option Addr) (a2 a1 : Nat) (a9 b0 b1 : Int) (a3 : Option Addr) (a5 a4 : Nat) (R : Value → World → Prop) (w : World) :
 dnF Tryz.prog ref03_Same_an (code Tryz.f120) 400 [] (post3 Tryz.prog Tryz.f120 [] R) ⟨args0 0 [(.agg #[.int .i64 a6, .int .i64 a7, .int .i64 a8, .slice a0 a2 a1]), (.agg #[.int .i64 a9, .int .i64 b0, .int .i64 b1, .slice a3 a5 a4])], fun _ => undef⟩ ⟨[], w, [], [], true⟩ = ref03_Same_T a6 a7 a8 a0 a2 a1 a9 b0 b1 a3 a5 a4 R w := by kernel_rfl
theorem ref03_Same_go {a6 a7 a8 : Int} {a0 : Option Addr} {a2 a1 : Nat} {a9 b0 b1 : Int} {a3 : Option Addr} {a5 a4 : Nat} {R : Value → World → Prop} {w : World} (h : ref03_Same_T a6 a7 a8 a0 a2 a1 a9 b0 b1 a3 a5 a4 R w) :
 Calls Tryz.prog 120 #[(.agg #[.int .i64 a6, .int .i64 a7, .int .i64 a8, .slice a0 a2 a1]), (.agg #[.int .i64 a9, .int .i64 b0, .int .i64 b1, .slice a3 a5 a4])] w fun e w' => ∃ v, e = .returned v ∧ R v w' :=
 calls_none Tryz.wide_mixed (f := 120) (args := [(.agg #[.int .i64 a6, .int .i64 a7, .int .i64 a8, .slice a0 a2 a1]), (.agg #[.int .i64 a9, .int .i64 b0, .int .i64 b1, .slice a3 a5 a4])]) Tryz.func120 rfl rfl (by kernel_rfl) rfl (Eq.mpr (ref03_Same_eq a6 a7 a8 a0 a2 a1 a9 b0 b1 a3 a5 a4 R w) h)
def ref04_has_an : List LA := []
def ref04_has_T (a0 : Int) (R : Value → World → Prop) (w : World) : Prop :=
 al w (.cells #[(.string (⟨#[116, 110]⟩ : ByteArray)), (.string (⟨#[110]⟩ : ByteArray)), (.string (⟨#[112, 98]⟩ : ByteArray)), (.string (⟨#[112, 111, 110]⟩ : ByteArray)), (.string (⟨#[112, 111]⟩ : ByteArray)), (.string (⟨#[112]⟩ : ByteArray)), (.string (⟨#[103, 109, 110, 114, 108]⟩ : ByteArray)), (.string (⟨#[103, 109, 101]⟩ : ByteArray)), (.string (⟨#[103, 109, 101]⟩ : ByteArray)), (.string (⟨#[103, 109, 101]⟩ : ByteArray)), (.string (⟨#[103, 109, 101, 112, 111]⟩ : ByteArray)), (.string (⟨#[103, 112]⟩ : ByteArray)), (.string (⟨#[110]⟩ : ByteArray))] 9) fun b1 w2 =>
 ixA (some ⟨b1, 0, none⟩) 13 a0 1 fun q3 =>
 ldStr w2 q3 fun s4 =>
 R (.string s4) w2
theorem ref04_has_eq (a0 : Int) (R : Value → World → Prop) (w : World) :
 dnF Tryz.prog ref04_has_an (code Tryz.f105) 400 [] (post3 Tryz.prog Tryz.f105 [] R) ⟨args0 0 [.int .i64 a0], fun _ => undef⟩ ⟨[], w, [], [], true⟩ = ref04_has_T a0 R w := by kernel_rfl
theorem ref04_has_go {a0 : Int} {R : Value → World → Prop} {w : World} (h : ref04_has_T a0 R w) :
 Calls Tryz.prog 105 #[.int .i64 a0] w fun e w' => ∃ v, e = .returned v ∧ R v w' :=
 calls_none Tryz.wide_mixed (f := 105) (args := [.int .i64 a0]) Tryz.func105 rfl rfl (by kernel_rfl) rfl (Eq.mpr (ref04_has_eq a0 R w) h)
def ref04_among_la1 : LA := ⟨[0, 0, 1, 0, 1], [0, 1, 5], [], 0, []⟩
def ref04_among_an : List LA := [ref04_among_la1]
def ref04_among_v1 (a0 : ByteArray) (a1 a2 : Int) : List Value := [.string a0, .int .u8 a1, .int .i64 a2]
def ref04_among_m1 : List TB := []
def ref04_among_L1 (a0 : ByteArray) (a2 a1 : Int) (K1 : Kh) (R : Value → World → Prop) (w : World) : Prop :=
 brB (decide (a1 < (a0.size : Int))) (
 ixS a0 a1 fun x1 =>
 brB (x1 == a2) (
 R (.bool true) w)
 (
 K1 (ref04_among_v1 a0 a2 (IntKind.wrap .i64 (a1 + 1))) (ref04_among_m1) w))
 (
 R (.bool false) w)
theorem ref04_among_L1_eq (a0 : ByteArray) (a1 a2 : Int) (K1 : Kh) (js : Nat → Value) (R : Value → World → Prop) (w : World) :
 headA ref04_among_la1 ((dnF Tryz.prog ref04_among_an (code Tryz.f107) 397 [0, 0, 1, 0, 1]) (kthen3 (atA ref04_among_la1 K1) (kont3 Tryz.prog ref04_among_an (code Tryz.f107) [1, 0, 1, 0] [] (post3 Tryz.prog Tryz.f107 [] R)))) (ref04_among_v1 a0 a1 a2) js (ref04_among_m1) w = ref04_among_L1 a0 a1 a2 K1 R w := by kernel_rfl
def ref04_among_K1 (a1 : ByteArray) (a2 : Int) (I : Nat → Int → World → Prop) (m : Nat) (vals : List Value) (mem : List TB) (w : World) : Prop := ∃ m', m' < m ∧ ∃ a0, vals = (ref04_among_v1 a1 a2 a0) ∧ mem = (ref04_among_m1) ∧ I m' a0 w
theorem ref04_among_leaf1 {a0 : ByteArray} {a1 : Int} {I : Nat → Int → World → Prop} {m : Nat} {a2 : Int} {w : World} (m' : Nat) (h1 : m' < m) (h2 : I m' a2 w) : ref04_among_K1 a0 a1 I m (ref04_among_v1 a0 a1 a2) (ref04_among_m1) w := ⟨m', h1, _, rfl, rfl, h2⟩
theorem ref04_among_rule1 {a1 : ByteArray} {a2 a3 : Int} {R : Value → World → Prop} {w0 : World} (I : Nat → Int → World → Prop) (m0 : Nat) (h0 : I m0 a3 w0)
 (hr : ∀ (m : Nat) (a0 : Int) (w : World), I m a0 w → ref04_among_L1 a1 a2 a0 (ref04_among_K1 a1 a2 I m) R w) :
 loopD3 ref04_among_la1 (dnF Tryz.prog ref04_among_an (code Tryz.f107) 397 [0, 0, 1, 0, 1]) (kont3 Tryz.prog ref04_among_an (code Tryz.f107) [1, 0, 1, 0] [] (post3 Tryz.prog Tryz.f107 [] R)) (ref04_among_v1 a1 a2 a3) (ref04_among_m1) w0 := by
 refine ⟨fun m vals mem w => ∃ a0, vals = (ref04_among_v1 a1 a2 a0) ∧ mem = (ref04_among_m1) ∧ I m a0 w, m0, ⟨_, rfl, rfl, h0⟩, ?_⟩
 rintro m vals mem w ⟨a0, rfl, rfl, hI⟩
 refine ⟨rfl, rfl, fun js => ?_⟩
 have h := hr m a0 w hI
 rw [← ref04_among_L1_eq _ _ _ _ js] at h
 exact h
def ref04_among_T (a0 : ByteArray) (a1 : Int) (R : Value → World → Prop) (w : World) : Prop :=
 loopD3 ref04_among_la1 (dnF Tryz.prog ref04_among_an (code Tryz.f107) 397 [0, 0, 1, 0, 1]) (kont3 Tryz.prog ref04_among_an (code Tryz.f107) [1, 0, 1, 0] [] (post3 Tryz.prog Tryz.f107 [] R)) (ref04_among_v1 a0 a1 0) (ref04_among_m1) w
theorem ref04_among_eq (a0 : ByteArray) (a1 : Int) (R : Value → World → Prop) (w : World) :
 dnF Tryz.prog ref04_among_an (code Tryz.f107) 400 [] (post3 Tryz.prog Tryz.f107 [] R) ⟨args0 0 [.string a0, .int .u8 a1], fun _ => undef⟩ ⟨[], w, [], [], true⟩ = ref04_among_T a0 a1 R w := by kernel_rfl
theorem ref04_among_go {a0 : ByteArray} {a1 : Int} {R : Value → World → Prop} {w : World} (h : ref04_among_T a0 a1 R w) :
 Calls Tryz.prog 107 #[.string a0, .int .u8 a1] w fun e w' => ∃ v, e = .returned v ∧ R v w' :=
 calls_none Tryz.wide_mixed (f := 107) (args := [.string a0, .int .u8 a1]) Tryz.func107 rfl rfl (by kernel_rfl) rfl (Eq.mpr (ref04_among_eq a0 a1 R w) h)
def ref04_Less_la1 : LA := ⟨[0, 0, 1, 0, 1], [0, 1, 5], [], 0, []⟩
def ref04_Less_an : List LA := [ref04_Less_la1]
def ref04_Less_v1 (a0 a1 : ByteArray) (a2 : Int) : List Value := [.string a0, .string a1, .int .i64 a2]
def ref04_Less_m1 : List TB := []
def ref04_Less_L1 (a1 a2 : ByteArray) (a0 : Int) (K1 : Kh) (R : Value → World → Prop) (w : World) : Prop :=
 brB (decide (a0 < (a1.size : Int))) (
 brB (decide (a0 < (a2.size : Int))) (
 ixS a1 a0 fun x1 =>
 ixS a2 a0 fun x2 =>
 brB (x1 != x2) (
 ixS a1 a0 fun x3 =>
 ixS a2 a0 fun x4 =>
 ∀ w5, Adv [] [] w w5 →
 R (.bool (decide (x3 < x4))) w5)
 (
 ∀ w6, Adv [] [] w w6 →
 K1 (ref04_Less_v1 a1 a2 (IntKind.wrap .i64 (a0 + 1))) (ref04_Less_m1) w6))
 (
 R (.bool (decide ((a1.size : Int) < (a2.size : Int)))) w))
 (
 R (.bool (decide ((a1.size : Int) < (a2.size : Int)))) w)
theorem ref04_Less_L1_eq (a0 a1 : ByteArray) (a2 : Int) (K1 : Kh) (js : Nat → Value) (R : Value → World → Prop) (w : World) :
 headA ref04_Less_la1 ((dnF Tryz.prog ref04_Less_an (code Tryz.f144) 397 [0, 0, 1, 0, 1]) (kthen3 (atA ref04_Less_la1 K1) (kont3 Tryz.prog ref04_Less_an (code Tryz.f144) [1, 0, 1, 0] [] (post3 Tryz.prog Tryz.f144 [] R)))) (ref04_Less_v1 a0 a1 a2) js (ref04_Less_m1) w = ref04_Less_L1 a0 a1 a2 K1 R w := by kernel_rfl
def ref04_Less_K1 (a1 a2 : ByteArray) (I : Nat → Int → World → Prop) (m : Nat) (vals : List Value) (mem : List TB) (w : World) : Prop := ∃ m', m' < m ∧ ∃ a0, vals = (ref04_Less_v1 a1 a2 a0) ∧ mem = (ref04_Less_m1) ∧ I m' a0 w
theorem ref04_Less_leaf1 {a0 a1 : ByteArray} {I : Nat → Int → World → Prop} {m : Nat} {a2 : Int} {w : World} (m' : Nat) (h1 : m' < m) (h2 : I m' a2 w) : ref04_Less_K1 a0 a1 I m (ref04_Less_v1 a0 a1 a2) (ref04_Less_m1) w := ⟨m', h1, _, rfl, rfl, h2⟩
theorem ref04_Less_rule1 {a1 a2 : ByteArray} {a3 : Int} {R : Value → World → Prop} {w0 : World} (I : Nat → Int → World → Prop) (m0 : Nat) (h0 : I m0 a3 w0)
 (hr : ∀ (m : Nat) (a0 : Int) (w : World), I m a0 w → ref04_Less_L1 a1 a2 a0 (ref04_Less_K1 a1 a2 I m) R w) :
 loopD3 ref04_Less_la1 (dnF Tryz.prog ref04_Less_an (code Tryz.f144) 397 [0, 0, 1, 0, 1]) (kont3 Tryz.prog ref04_Less_an (code Tryz.f144) [1, 0, 1, 0] [] (post3 Tryz.prog Tryz.f144 [] R)) (ref04_Less_v1 a1 a2 a3) (ref04_Less_m1) w0 := by
 refine ⟨fun m vals mem w => ∃ a0, vals = (ref04_Less_v1 a1 a2 a0) ∧ mem = (ref04_Less_m1) ∧ I m a0 w, m0, ⟨_, rfl, rfl, h0⟩, ?_⟩
 rintro m vals mem w ⟨a0, rfl, rfl, hI⟩
 refine ⟨rfl, rfl, fun js => ?_⟩
 have h := hr m a0 w hI
 rw [← ref04_Less_L1_eq _ _ _ _ js] at h
 exact h
def ref04_Less_T (a0 a1 : ByteArray) (R : Value → World → Prop) (w : World) : Prop :=
 loopD3 ref04_Less_la1 (dnF Tryz.prog ref04_Less_an (code Tryz.f144) 397 [0, 0, 1, 0, 1]) (kont3 Tryz.prog ref04_Less_an (code Tryz.f144) [1, 0, 1, 0] [] (post3 Tryz.prog Tryz.f144 [] R)) (ref04_Less_v1 a0 a1 0) (ref04_Less_m1) w
theorem ref04_Less_eq (a0 a1 : ByteArray) (R : Value → World → Prop) (w : World) :
 dnF Tryz.prog ref04_Less_an (code Tryz.f144) 400 [] (post3 Tryz.prog Tryz.f144 [] R) ⟨args0 0 [.string a0, .string a1], fun _ => undef⟩ ⟨[], w, [], [], true⟩ = ref04_Less_T a0 a1 R w := by kernel_rfl
theorem ref04_Less_go {a0 a1 : ByteArray} {R : Value → World → Prop} {w : World} (h : ref04_Less_T a0 a1 R w) :
 Calls Tryz.prog 144 #[.string a0, .string a1] w fun e w' => ∃ v, e = .returned v ∧ R v w' :=
 calls_none Tryz.wide_mixed (f := 144) (args := [.string a0, .string a1]) Tryz.func144 rfl rfl (by kernel_rfl) rfl (Eq.mpr (ref04_Less_eq a0 a1 R w) h)
def ref04_names_la1 : LA := ⟨[0, 0, 1, 0, 1, 1], [0, 3], [], 0, []⟩
def ref04_names_an : List LA := [ref04_names_la1]
def ref04_names_v1 (a0 : Option Addr) (a2 a1 : Nat) (a3 : Int) : List Value := [.slice a0 a2 a1, .int .i64 a3]
def ref04_names_m1 : List TB := []
def ref04_names_L1 (a2 : Option Addr) (a1 a3 : Nat) (a0 : Int) (K1 : Kh) (R : Value → World → Prop) (w : World) : Prop :=
 brB (decide (a0 < (a1 : Int))) (
 ixA a2 a1 a0 1 fun q1 =>
 ∀ w2, Adv [] [] w w2 →
 ldStr w2 q1 fun s3 =>
 Calls Tryz.prog 108 #[.string s3] w2 fun e w4 => ∃ t5 : Bool, e = .returned (.bool t5) ∧
 brB (!t5) (
 R (.bool false) w4)
 (
 brB (decide (a0 > 0)) (
 ixA a2 a1 (IntKind.wrap .i64 (a0 - 1)) 1 fun q6 =>
 ldStr w4 q6 fun s7 =>
 ixA a2 a1 a0 1 fun q8 =>
 ldStr w4 q8 fun s9 =>
 Calls Tryz.prog 144 #[.string s7, .string s9] w4 fun e w10 => ∃ t11 : Bool, e = .returned (.bool t11) ∧
 brB (!t11) (
 R (.bool false) w10)
 (
 K1 (ref04_names_v1 a2 a1 a3 (IntKind.wrap .i64 (a0 + 1))) (ref04_names_m1) w10))
 (
 K1 (ref04_names_v1 a2 a1 a3 (IntKind.wrap .i64 (a0 + 1))) (ref04_names_m1) w4)))
 (
 R (.bool true) w)
theorem ref04_names_L1_eq (a0 : Option Addr) (a2 a1 : Nat) (a3 : Int) (K1 : Kh) (js : Nat → Value) (R : Value → World → Prop) (w : World) :
 headA ref04_names_la1 ((dnF Tryz.prog ref04_names_an (code Tryz.f109) 396 [0, 0, 1, 0, 1, 1]) (kthen3 (atA ref04_names_la1 K1) (kont3 Tryz.prog ref04_names_an (code Tryz.f109) [1, 1, 0, 1, 0] [] (post3 Tryz.prog Tryz.f109 [] R)))) (ref04_names_v1 a0 a2 a1 a3) js (ref04_names_m1) w = ref04_names_L1 a0 a2 a1 a3 K1 R w := by kernel_rfl
def ref04_names_K1 (a1 : Option Addr) (a3 a2 : Nat) (I : Nat → Int → World → Prop) (m : Nat) (vals : List Value) (mem : List TB) (w : World) : Prop := ∃ m', m' < m ∧ ∃ a0, vals = (ref04_names_v1 a1 a3 a2 a0) ∧ mem = (ref04_names_m1) ∧ I m' a0 w
theorem ref04_names_leaf1 {a0 : Option Addr} {a2 a1 : Nat} {I : Nat → Int → World → Prop} {m : Nat} {a3 : Int} {w : World} (m' : Nat) (h1 : m' < m) (h2 : I m' a3 w) : ref04_names_K1 a0 a2 a1 I m (ref04_names_v1 a0 a2 a1 a3) (ref04_names_m1) w := ⟨m', h1, _, rfl, rfl, h2⟩
theorem ref04_names_rule1 {a1 : Option Addr} {a3 a2 : Nat} {a4 : Int} {R : Value → World → Prop} {w0 : World} (I : Nat → Int → World → Prop) (m0 : Nat) (h0 : I m0 a4 w0)
 (hr : ∀ (m : Nat) (a0 : Int) (w : World), I m a0 w → ref04_names_L1 a1 a3 a2 a0 (ref04_names_K1 a1 a3 a2 I m) R w) :
 loopD3 ref04_names_la1 (dnF Tryz.prog ref04_names_an (code Tryz.f109) 396 [0, 0, 1, 0, 1, 1]) (kont3 Tryz.prog ref04_names_an (code Tryz.f109) [1, 1, 0, 1, 0] [] (post3 Tryz.prog Tryz.f109 [] R)) (ref04_names_v1 a1 a3 a2 a4) (ref04_names_m1) w0 := by
 refine ⟨fun m vals mem w => ∃ a0, vals = (ref04_names_v1 a1 a3 a2 a0) ∧ mem = (ref04_names_m1) ∧ I m a0 w, m0, ⟨_, rfl, rfl, h0⟩, ?_⟩
 rintro m vals mem w ⟨a0, rfl, rfl, hI⟩
 refine ⟨rfl, rfl, fun js => ?_⟩
 have h := hr m a0 w hI
 rw [← ref04_names_L1_eq _ _ _ _ _ js] at h
 exact h
def ref04_names_T (a1 : Option Addr) (a0 a2 : Nat) (R : Value → World → Prop) (w : World) : Prop :=
 brB (decide ((a0 : Int) < 1)) (
 R (.bool false) w)
 (
 brB (decide ((a0 : Int) > 8)) (
 R (.bool false) w)
 (
 loopD3 ref04_names_la1 (dnF Tryz.prog ref04_names_an (code Tryz.f109) 396 [0, 0, 1, 0, 1, 1]) (kont3 Tryz.prog ref04_names_an (code Tryz.f109) [1, 1, 0, 1, 0] [] (post3 Tryz.prog Tryz.f109 [] R)) (ref04_names_v1 a1 a0 a2 0) (ref04_names_m1) w))
theorem ref04_names_eq (a0 : Option Addr) (a2 a1 : Nat) (R : Value → World → Prop) (w : World) :
 dnF Tryz.prog ref04_names_an (code Tryz.f109) 400 [] (post3 Tryz.prog Tryz.f109 [] R) ⟨args0 0 [.slice a0 a2 a1], fun _ => undef⟩ ⟨[], w, [], [], true⟩ = ref04_names_T a0 a2 a1 R w := by kernel_rfl
theorem ref04_names_go {a0 : Option Addr} {a2 a1 : Nat} {R : Value → World → Prop} {w : World} (h : ref04_names_T a0 a2 a1 R w) :
 Calls Tryz.prog 109 #[.slice a0 a2 a1] w fun e w' => ∃ v, e = .returned v ∧ R v w' :=
 calls_none Tryz.wide_mixed (f := 109) (args := [.slice a0 a2 a1]) Tryz.func109 rfl rfl (by kernel_rfl) rfl (Eq.mpr (ref04_names_eq a0 a2 a1 R w) h)
def ref04_only_la1 : LA := ⟨[1, 0, 1, 1, 1], [1, 3, 54], [(1, 0, 0)], 1, []⟩
def ref04_only_la2 : LA := ⟨[1, 1, 1, 1], [1, 3], [(1, 0, 0)], 1, []⟩
def ref04_only_la3 : LA := ⟨[1, 0, 1, 1, 1, 1], [1, 3, 82], [(1, 0, 0)], 1, []⟩
def ref04_only_la4 : LA := ⟨[1, 1, 1, 1, 1], [1, 3], [(1, 0, 0)], 1, []⟩
def ref04_only_la5 : LA := ⟨[1, 0, 1, 1, 1, 1, 1], [1, 3, 110], [(1, 0, 0)], 1, []⟩
def ref04_only_la6 : LA := ⟨[1, 1, 1, 1, 1, 1], [1, 3], [(1, 0, 0)], 1, []⟩
def ref04_only_an : List LA := [ref04_only_la1, ref04_only_la2, ref04_only_la3, ref04_only_la4, ref04_only_la5, ref04_only_la6]
def ref04_only_v1 (a1 : ByteArray) (a0 : Bool) (bm0 : Nat) : List Value := [(.pointer (some ⟨bm0, 0, none⟩)), .string a1, .bool a0]
def ref04_only_m1 (bm0 : Nat) (b1 : Int) (a9 : ByteArray) (b2 b3 b4 b5 b6 b7 : Int) (a6 : Option Addr) (a8 a7 : Nat) (b0 a3 : ByteArray) (a5 : Int) (a4 : Bool) (a0 : Option Addr) (a2 a1 : Nat) : List TB := [⟨bm0, 38, [.int .i64 b1, .string a9, .int .i64 b2, .int .i64 b3, .int .i64 b4, .int .i64 b5, .int .i64 b6, .int .i64 b7, .slice a6 a8 a7, .string b0, .string a3, .int .i64 a5, .bool a4, .slice a0 a2 a1], false⟩]
def ref04_only_v2 (a0 : ByteArray) (bm0 : Nat) : List Value := [(.pointer (some ⟨bm0, 0, none⟩)), .string a0]
def ref04_only_m2 (bm0 : Nat) (b1 : Int) (a9 : ByteArray) (b2 b3 b4 b5 b6 b7 : Int) (a6 : Option Addr) (a8 a7 : Nat) (b0 a3 : ByteArray) (a5 : Int) (a4 : Bool) (a0 : Option Addr) (a2 a1 : Nat) : List TB := [⟨bm0, 38, [.int .i64 b1, .string a9, .int .i64 b2, .int .i64 b3, .int .i64 b4, .int .i64 b5, .int .i64 b6, .int .i64 b7, .slice a6 a8 a7, .string b0, .string a3, .int .i64 a5, .bool a4, .slice a0 a2 a1], false⟩]
def ref04_only_v3 (a1 : ByteArray) (a0 : Bool) (bm0 : Nat) : List Value := [(.pointer (some ⟨bm0, 0, none⟩)), .string a1, .bool a0]
def ref04_only_m3 (bm0 : Nat) (b1 : Int) (a9 : ByteArray) (b2 b3 b4 b5 b6 b7 : Int) (a6 : Option Addr) (a8 a7 : Nat) (b0 a3 : ByteArray) (a5 : Int) (a4 : Bool) (a0 : Option Addr) (a2 a1 : Nat) : List TB := [⟨bm0, 38, [.int .i64 b1, .string a9, .int .i64 b2, .int .i64 b3, .int .i64 b4, .int .i64 b5, .int .i64 b6, .int .i64 b7, .slice a6 a8 a7, .string b0, .string a3, .int .i64 a5, .bool a4, .slice a0 a2 a1], false⟩]
def ref04_only_v4 (a0 : ByteArray) (bm0 : Nat) : List Value := [(.pointer (some ⟨bm0, 0, none⟩)), .string a0]
def ref04_only_m4 (bm0 : Nat) (b1 : Int) (a9 : ByteArray) (b2 b3 b4 b5 b6 b7 : Int) (a6 : Option Addr) (a8 a7 : Nat) (b0 a3 : ByteArray) (a5 : Int) (a4 : Bool) (a0 : Option Addr) (a2 a1 : Nat) : List TB := [⟨bm0, 38, [.int .i64 b1, .string a9, .int .i64 b2, .int .i64 b3, .int .i64 b4, .int .i64 b5, .int .i64 b6, .int .i64 b7, .slice a6 a8 a7, .string b0, .string a3, .int .i64 a5, .bool a4, .slice a0 a2 a1], false⟩]
def ref04_only_v5 (a1 : ByteArray) (a0 : Bool) (bm0 : Nat) : List Value := [(.pointer (some ⟨bm0, 0, none⟩)), .string a1, .bool a0]
def ref04_only_m5 (bm0 : Nat) (b1 : Int) (a9 : ByteArray) (b2 b3 b4 b5 b6 b7 : Int) (a6 : Option Addr) (a8 a7 : Nat) (b0 a3 : ByteArray) (a5 : Int) (a4 : Bool) (a0 : Option Addr) (a2 a1 : Nat) : List TB := [⟨bm0, 38, [.int .i64 b1, .string a9, .int .i64 b2, .int .i64 b3, .int .i64 b4, .int .i64 b5, .int .i64 b6, .int .i64 b7, .slice a6 a8 a7, .string b0, .string a3, .int .i64 a5, .bool a4, .slice a0 a2 a1], false⟩]
def ref04_only_v6 (a0 : ByteArray) (bm0 : Nat) : List Value := [(.pointer (some ⟨bm0, 0, none⟩)), .string a0]
def ref04_only_m6 (bm0 : Nat) (b1 : Int) (a9 : ByteArray) (b2 b3 b4 b5 b6 b7 : Int) (a6 : Option Addr) (a8 a7 : Nat) (b0 a3 : ByteArray) (a5 : Int) (a4 : Bool) (a0 : Option Addr) (a2 a1 : Nat) : List TB := [⟨bm0, 38, [.int .i64 b1, .string a9, .int .i64 b2, .int .i64 b3, .int .i64 b4, .int .i64 b5, .int .i64 b6, .int .i64 b7, .slice a6 a8 a7, .string b0, .string a3, .int .i64 a5, .bool a4, .slice a0 a2 a1], false⟩]
def ref04_only_C1 (b9 : ByteArray) (b8 : Bool) (bm0 : Nat) (b1 : Int) (a9 : ByteArray) (b2 b3 b4 b5 b6 b7 : Int) (a6 : Option Addr) (a8 a7 : Nat) (b0 a3 : ByteArray) (a5 : Int) (a4 : Bool) (a0 : Option Addr) (a2 a1 : Nat) (R : Value → World → Prop) (w : World) : Prop :=
 brB b8 (
 R (.bool false) w)
 (
 cutD3 ref04_only_la2 ((dnF Tryz.prog ref04_only_an (code Tryz.f106) 396 [1, 1, 1, 1]) (kont3 Tryz.prog ref04_only_an (code Tryz.f106) [1, 1, 1] [] (post3 Tryz.prog Tryz.f106 [] R))) (ref04_only_v2 b9 bm0) (ref04_only_m2 bm0 b1 a9 b2 b3 b4 b5 b6 b7 a6 a8 a7 b0 a3 a5 a4 a0 a2 a1) w)
theorem ref04_only_C1_eq (b9 : ByteArray) (b8 : Bool) (bm0 : Nat) (b1 : Int) (a9 : ByteArray) (b2 b3 b4 b5 b6 b7 : Int) (a6 : Option Addr) (a8 a7 : Nat) (b0 a3 : ByteArray) (a5 : Int) (a4 : Bool) (a0 : Option Addr) (a2 a1 : Nat) (js : Nat → Value) (R : Value → World → Prop) (w : World) :
 headA ref04_only_la1 ((dnF Tryz.prog ref04_only_an (code Tryz.f106) 396 [1, 0, 1, 1, 1]) (kont3 Tryz.prog ref04_only_an (code Tryz.f106) [1, 1, 1, 0] [] (post3 Tryz.prog Tryz.f106 [] R))) (ref04_only_v1 b9 b8 bm0) js (ref04_only_m1 bm0 b1 a9 b2 b3 b4 b5 b6 b7 a6 a8 a7 b0 a3 a5 a4 a0 a2 a1) w = ref04_only_C1 b9 b8 bm0 b1 a9 b2 b3 b4 b5 b6 b7 a6 a8 a7 b0 a3 a5 a4 a0 a2 a1 R w := by kernel_rfl
theorem ref04_only_cut1 {d8 : ByteArray} {d7 : Bool} {bm00 : Nat} {d0 : Int} {a0 : ByteArray} {d1 d2 d3 d4 d5 d6 : Int} {c6 : Option Addr} {c8 c7 : Nat} {c9 c3 : ByteArray} {c5 : Int} {c4 : Bool} {b9 : Option Addr} {c1 c0 : Nat} {R : Value → World → Prop} {w0 : World} (J : ByteArray → Bool → Nat → Int → ByteArray → Int → Int → Int → Int → Int → Int → Option Addr → Nat → Nat → ByteArray → ByteArray → Int → Bool → Option Addr → Nat → Nat → World → Prop) (h0 : J d8 d7 bm00 d0 a0 d1 d2 d3 d4 d5 d6 c6 c8 c7 c9 c3 c5 c4 b9 c1 c0 w0)
 (hr : ∀ (c2 : ByteArray) (b8 : Bool) (bm0 : Nat) (b1 : Int) (a9 : ByteArray) (b2 b3 b4 b5 b6 b7 : Int) (a6 : Option Addr) (a8 a7 : Nat) (b0 a0 : ByteArray) (a5 : Int) (a4 : Bool) (a1 : Option Addr) (a3 a2 : Nat) (w : World), J c2 b8 bm0 b1 a9 b2 b3 b4 b5 b6 b7 a6 a8 a7 b0 a0 a5 a4 a1 a3 a2 w → ref04_only_C1 c2 b8 bm0 b1 a9 b2 b3 b4 b5 b6 b7 a6 a8 a7 b0 a0 a5 a4 a1 a3 a2 R w) :
 cutD3 ref04_only_la1 ((dnF Tryz.prog ref04_only_an (code Tryz.f106) 396 [1, 0, 1, 1, 1]) (kont3 Tryz.prog ref04_only_an (code Tryz.f106) [1, 1, 1, 0] [] (post3 Tryz.prog Tryz.f106 [] R))) (ref04_only_v1 d8 d7 bm00) (ref04_only_m1 bm00 d0 a0 d1 d2 d3 d4 d5 d6 c6 c8 c7 c9 c3 c5 c4 b9 c1 c0) w0 := by
 refine ⟨fun vals mem w => ∃ c2 b8 bm0 b1 a9 b2 b3 b4 b5 b6 b7 a6 a8 a7 b0 a0 a5 a4 a1 a3 a2, vals = (ref04_only_v1 c2 b8 bm0) ∧ mem = (ref04_only_m1 bm0 b1 a9 b2 b3 b4 b5 b6 b7 a6 a8 a7 b0 a0 a5 a4 a1 a3 a2) ∧ J c2 b8 bm0 b1 a9 b2 b3 b4 b5 b6 b7 a6 a8 a7 b0 a0 a5 a4 a1 a3 a2 w, ⟨_, _, _, _, _, _, _, _, _, _, _, _, _, _, _, _, _, _, _, _, _, rfl, rfl, h0⟩, ?_⟩
 rintro vals mem w ⟨c2, b8, bm0, b1, a9, b2, b3, b4, b5, b6, b7, a6, a8, a7, b0, a0, a5, a4, a1, a3, a2, rfl, rfl, hJ⟩
 refine ⟨rfl, rfl, fun js => ?_⟩
 have h := hr c2 b8 bm0 b1 a9 b2 b3 b4 b5 b6 b7 a6 a8 a7 b0 a0 a5 a4 a1 a3 a2 w hJ
 rw [← ref04_only_C1_eq _ _ _ _ _ _ _ _ _ _ _ _ _ _ _ _ _ _ _ _ _ js] at h
 exact h
theorem ref04_only_at1 {d8 : ByteArray} {d6 : Bool} {bm0 : Nat} {b6 : Int} {b2 : ByteArray} {b8 b9 c0 c1 c2 c3 : Int} {a7 : Option Addr} {b1 a9 : Nat} {b4 a3 : ByteArray} {a5 : Int} {a4 : Bool} {a0 : Option Addr} {a2 a1 : Nat} {R : Value → World → Prop} {w : World} (h : ref04_only_C1 d8 d6 bm0 b6 b2 b8 b9 c0 c1 c2 c3 a7 b1 a9 b4 a3 a5 a4 a0 a2 a1 R w) :
 cutD3 ref04_only_la1 ((dnF Tryz.prog ref04_only_an (code Tryz.f106) 396 [1, 0, 1, 1, 1]) (kont3 Tryz.prog ref04_only_an (code Tryz.f106) [1, 1, 1, 0] [] (post3 Tryz.prog Tryz.f106 [] R))) (ref04_only_v1 d8 d6 bm0) (ref04_only_m1 bm0 b6 b2 b8 b9 c0 c1 c2 c3 a7 b1 a9 b4 a3 a5 a4 a0 a2 a1) w :=
 ref04_only_cut1 (fun d9 d7 bm0' c9 c7 d0 d1 d2 d3 d4 d5 c4 c6 c5 c8 b3 b7 b5 a6 b0 a8 w' => d9 = d8 ∧ d7 = d6 ∧ bm0' = bm0 ∧ c9 = b6 ∧ c7 = b2 ∧ d0 = b8 ∧ d1 = b9 ∧ d2 = c0 ∧ d3 = c1 ∧ d4 = c2 ∧ d5 = c3 ∧ c4 = a7 ∧ c6 = b1 ∧ c5 = a9 ∧ c8 = b4 ∧ b3 = a3 ∧ b7 = a5 ∧ b5 = a4 ∧ a6 = a0 ∧ b0 = a2 ∧ a8 = a1 ∧ w' = w) ⟨rfl, rfl, rfl, rfl, rfl, rfl, rfl, rfl, rfl, rfl, rfl, rfl, rfl, rfl, rfl, rfl, rfl, rfl, rfl, rfl, rfl, rfl⟩ (by rintro d9 d7 bm0' c9 c7 d0 d1 d2 d3 d4 d5 c4 c6 c5 c8 b3 b7 b5 a6 b0 a8 w' ⟨rfl, rfl, rfl, rfl, rfl, rfl, rfl, rfl, rfl, rfl, rfl, rfl, rfl, rfl, rfl, rfl, rfl, rfl, rfl, rfl, rfl, rfl⟩; exact h)
def ref04_only_C2 (b8 : ByteArray) (bm0 : Nat) (b4 : Int) (b2 : ByteArray) (b5 b6 b7 a7 a8 a9 : Int) (b0 : Option Addr) (a3 b1 : Nat) (b3 a4 : ByteArray) (a6 : Int) (a5 : Bool) (a0 : Option Addr) (a2 a1 : Nat) (R : Value → World → Prop) (w : World) : Prop :=
 Calls Tryz.prog 107 #[.string b8, .int .u8 98] w fun e w9 => ∃ t10 : Bool, e = .returned (.bool t10) ∧ Keep [bm0] w w9 ∧
 brB (!t10) (
 brB (a7 != 0) (
 cutD3 ref04_only_la3 ((dnF Tryz.prog ref04_only_an (code Tryz.f106) 395 [1, 0, 1, 1, 1, 1]) (kont3 Tryz.prog ref04_only_an (code Tryz.f106) [1, 1, 1, 1, 0] [] (post3 Tryz.prog Tryz.f106 [] R))) (ref04_only_v3 b8 true bm0) (ref04_only_m3 bm0 b4 b2 b5 b6 b7 a7 a8 a9 b0 a3 b1 b3 a4 a6 a5 a0 a2 a1) w9)
 (
 brB (a8 != 0) (
 cutD3 ref04_only_la3 ((dnF Tryz.prog ref04_only_an (code Tryz.f106) 395 [1, 0, 1, 1, 1, 1]) (kont3 Tryz.prog ref04_only_an (code Tryz.f106) [1, 1, 1, 1, 0] [] (post3 Tryz.prog Tryz.f106 [] R))) (ref04_only_v3 b8 true bm0) (ref04_only_m3 bm0 b4 b2 b5 b6 b7 a7 a8 a9 b0 a3 b1 b3 a4 a6 a5 a0 a2 a1) w9)
 (
 brB (a9 != 0) (
 cutD3 ref04_only_la3 ((dnF Tryz.prog ref04_only_an (code Tryz.f106) 395 [1, 0, 1, 1, 1, 1]) (kont3 Tryz.prog ref04_only_an (code Tryz.f106) [1, 1, 1, 1, 0] [] (post3 Tryz.prog Tryz.f106 [] R))) (ref04_only_v3 b8 true bm0) (ref04_only_m3 bm0 b4 b2 b5 b6 b7 a7 a8 a9 b0 a3 b1 b3 a4 a6 a5 a0 a2 a1) w9)
 (
 cutD3 ref04_only_la3 ((dnF Tryz.prog ref04_only_an (code Tryz.f106) 395 [1, 0, 1, 1, 1, 1]) (kont3 Tryz.prog ref04_only_an (code Tryz.f106) [1, 1, 1, 1, 0] [] (post3 Tryz.prog Tryz.f106 [] R))) (ref04_only_v3 b8 (decide ((a3 : Int) > 0)) bm0) (ref04_only_m3 bm0 b4 b2 b5 b6 b7 a7 a8 a9 b0 a3 b1 b3 a4 a6 a5 a0 a2 a1) w9))))
 (
 cutD3 ref04_only_la3 ((dnF Tryz.prog ref04_only_an (code Tryz.f106) 395 [1, 0, 1, 1, 1, 1]) (kont3 Tryz.prog ref04_only_an (code Tryz.f106) [1, 1, 1, 1, 0] [] (post3 Tryz.prog Tryz.f106 [] R))) (ref04_only_v3 b8 false bm0) (ref04_only_m3 bm0 b4 b2 b5 b6 b7 a7 a8 a9 b0 a3 b1 b3 a4 a6 a5 a0 a2 a1) w9)
theorem ref04_only_C2_eq (b8 : ByteArray) (bm0 : Nat) (b1 : Int) (a9 : ByteArray) (b2 b3 b4 b5 b6 b7 : Int) (a6 : Option Addr) (a8 a7 : Nat) (b0 a3 : ByteArray) (a5 : Int) (a4 : Bool) (a0 : Option Addr) (a2 a1 : Nat) (js : Nat → Value) (R : Value → World → Prop) (w : World) :
 headA ref04_only_la2 ((dnF Tryz.prog ref04_only_an (code Tryz.f106) 396 [1, 1, 1, 1]) (kont3 Tryz.prog ref04_only_an (code Tryz.f106) [1, 1, 1] [] (post3 Tryz.prog Tryz.f106 [] R))) (ref04_only_v2 b8 bm0) js (ref04_only_m2 bm0 b1 a9 b2 b3 b4 b5 b6 b7 a6 a8 a7 b0 a3 a5 a4 a0 a2 a1) w = ref04_only_C2 b8 bm0 b1 a9 b2 b3 b4 b5 b6 b7 a6 a8 a7 b0 a3 a5 a4 a0 a2 a1 R w := by kernel_rfl
theorem ref04_only_cut2 {d6 : ByteArray} {bm00 : Nat} {c9 : Int} {a0 : ByteArray} {d0 d1 d2 d3 d4 d5 : Int} {c5 : Option Addr} {c7 c6 : Nat} {c8 c2 : ByteArray} {c4 : Int} {c3 : Bool} {b8 : Option Addr} {c0 b9 : Nat} {R : Value → World → Prop} {w0 : World} (J : ByteArray → Nat → Int → ByteArray → Int → Int → Int → Int → Int → Int → Option Addr → Nat → Nat → ByteArray → ByteArray → Int → Bool → Option Addr → Nat → Nat → World → Prop) (h0 : J d6 bm00 c9 a0 d0 d1 d2 d3 d4 d5 c5 c7 c6 c8 c2 c4 c3 b8 c0 b9 w0)
 (hr : ∀ (c1 : ByteArray) (bm0 : Nat) (b1 : Int) (a9 : ByteArray) (b2 b3 b4 b5 b6 b7 : Int) (a6 : Option Addr) (a8 a7 : Nat) (b0 a0 : ByteArray) (a5 : Int) (a4 : Bool) (a1 : Option Addr) (a3 a2 : Nat) (w : World), J c1 bm0 b1 a9 b2 b3 b4 b5 b6 b7 a6 a8 a7 b0 a0 a5 a4 a1 a3 a2 w → ref04_only_C2 c1 bm0 b1 a9 b2 b3 b4 b5 b6 b7 a6 a8 a7 b0 a0 a5 a4 a1 a3 a2 R w) :
 cutD3 ref04_only_la2 ((dnF Tryz.prog ref04_only_an (code Tryz.f106) 396 [1, 1, 1, 1]) (kont3 Tryz.prog ref04_only_an (code Tryz.f106) [1, 1, 1] [] (post3 Tryz.prog Tryz.f106 [] R))) (ref04_only_v2 d6 bm00) (ref04_only_m2 bm00 c9 a0 d0 d1 d2 d3 d4 d5 c5 c7 c6 c8 c2 c4 c3 b8 c0 b9) w0 := by
 refine ⟨fun vals mem w => ∃ c1 bm0 b1 a9 b2 b3 b4 b5 b6 b7 a6 a8 a7 b0 a0 a5 a4 a1 a3 a2, vals = (ref04_only_v2 c1 bm0) ∧ mem = (ref04_only_m2 bm0 b1 a9 b2 b3 b4 b5 b6 b7 a6 a8 a7 b0 a0 a5 a4 a1 a3 a2) ∧ J c1 bm0 b1 a9 b2 b3 b4 b5 b6 b7 a6 a8 a7 b0 a0 a5 a4 a1 a3 a2 w, ⟨_, _, _, _, _, _, _, _, _, _, _, _, _, _, _, _, _, _, _, _, rfl, rfl, h0⟩, ?_⟩
 rintro vals mem w ⟨c1, bm0, b1, a9, b2, b3, b4, b5, b6, b7, a6, a8, a7, b0, a0, a5, a4, a1, a3, a2, rfl, rfl, hJ⟩
 refine ⟨rfl, rfl, fun js => ?_⟩
 have h := hr c1 bm0 b1 a9 b2 b3 b4 b5 b6 b7 a6 a8 a7 b0 a0 a5 a4 a1 a3 a2 w hJ
 rw [← ref04_only_C2_eq _ _ _ _ _ _ _ _ _ _ _ _ _ _ _ _ _ _ _ _ js] at h
 exact h
theorem ref04_only_at2 {d6 : ByteArray} {bm0 : Nat} {b6 : Int} {b2 : ByteArray} {b8 b9 c0 c1 c2 c3 : Int} {a7 : Option Addr} {b1 a9 : Nat} {b4 a3 : ByteArray} {a5 : Int} {a4 : Bool} {a0 : Option Addr} {a2 a1 : Nat} {R : Value → World → Prop} {w : World} (h : ref04_only_C2 d6 bm0 b6 b2 b8 b9 c0 c1 c2 c3 a7 b1 a9 b4 a3 a5 a4 a0 a2 a1 R w) :
 cutD3 ref04_only_la2 ((dnF Tryz.prog ref04_only_an (code Tryz.f106) 396 [1, 1, 1, 1]) (kont3 Tryz.prog ref04_only_an (code Tryz.f106) [1, 1, 1] [] (post3 Tryz.prog Tryz.f106 [] R))) (ref04_only_v2 d6 bm0) (ref04_only_m2 bm0 b6 b2 b8 b9 c0 c1 c2 c3 a7 b1 a9 b4 a3 a5 a4 a0 a2 a1) w :=
 ref04_only_cut2 (fun d7 bm0' c9 c7 d0 d1 d2 d3 d4 d5 c4 c6 c5 c8 b3 b7 b5 a6 b0 a8 w' => d7 = d6 ∧ bm0' = bm0 ∧ c9 = b6 ∧ c7 = b2 ∧ d0 = b8 ∧ d1 = b9 ∧ d2 = c0 ∧ d3 = c1 ∧ d4 = c2 ∧ d5 = c3 ∧ c4 = a7 ∧ c6 = b1 ∧ c5 = a9 ∧ c8 = b4 ∧ b3 = a3 ∧ b7 = a5 ∧ b5 = a4 ∧ a6 = a0 ∧ b0 = a2 ∧ a8 = a1 ∧ w' = w) ⟨rfl, rfl, rfl, rfl, rfl, rfl, rfl, rfl, rfl, rfl, rfl, rfl, rfl, rfl, rfl, rfl, rfl, rfl, rfl, rfl, rfl⟩ (by rintro d7 bm0' c9 c7 d0 d1 d2 d3 d4 d5 c4 c6 c5 c8 b3 b7 b5 a6 b0 a8 w' ⟨rfl, rfl, rfl, rfl, rfl, rfl, rfl, rfl, rfl, rfl, rfl, rfl, rfl, rfl, rfl, rfl, rfl, rfl, rfl, rfl, rfl⟩; exact h)
def ref04_only_C3 (b9 : ByteArray) (b8 : Bool) (bm0 : Nat) (b1 : Int) (a9 : ByteArray) (b2 b3 b4 b5 b6 b7 : Int) (a6 : Option Addr) (a8 a7 : Nat) (b0 a3 : ByteArray) (a5 : Int) (a4 : Bool) (a0 : Option Addr) (a2 a1 : Nat) (R : Value → World → Prop) (w : World) : Prop :=
 brB b8 (
 R (.bool false) w)
 (
 cutD3 ref04_only_la4 ((dnF Tryz.prog ref04_only_an (code Tryz.f106) 395 [1, 1, 1, 1, 1]) (kont3 Tryz.prog ref04_only_an (code Tryz.f106) [1, 1, 1, 1] [] (post3 Tryz.prog Tryz.f106 [] R))) (ref04_only_v4 b9 bm0) (ref04_only_m4 bm0 b1 a9 b2 b3 b4 b5 b6 b7 a6 a8 a7 b0 a3 a5 a4 a0 a2 a1) w)
theorem ref04_only_C3_eq (b9 : ByteArray) (b8 : Bool) (bm0 : Nat) (b1 : Int) (a9 : ByteArray) (b2 b3 b4 b5 b6 b7 : Int) (a6 : Option Addr) (a8 a7 : Nat) (b0 a3 : ByteArray) (a5 : Int) (a4 : Bool) (a0 : Option Addr) (a2 a1 : Nat) (js : Nat → Value) (R : Value → World → Prop) (w : World) :
 headA ref04_only_la3 ((dnF Tryz.prog ref04_only_an (code Tryz.f106) 395 [1, 0, 1, 1, 1, 1]) (kont3 Tryz.prog ref04_only_an (code Tryz.f106) [1, 1, 1, 1, 0] [] (post3 Tryz.prog Tryz.f106 [] R))) (ref04_only_v3 b9 b8 bm0) js (ref04_only_m3 bm0 b1 a9 b2 b3 b4 b5 b6 b7 a6 a8 a7 b0 a3 a5 a4 a0 a2 a1) w = ref04_only_C3 b9 b8 bm0 b1 a9 b2 b3 b4 b5 b6 b7 a6 a8 a7 b0 a3 a5 a4 a0 a2 a1 R w := by kernel_rfl
theorem ref04_only_cut3 {d8 : ByteArray} {d7 : Bool} {bm00 : Nat} {d0 : Int} {a0 : ByteArray} {d1 d2 d3 d4 d5 d6 : Int} {c6 : Option Addr} {c8 c7 : Nat} {c9 c3 : ByteArray} {c5 : Int} {c4 : Bool} {b9 : Option Addr} {c1 c0 : Nat} {R : Value → World → Prop} {w0 : World} (J : ByteArray → Bool → Nat → Int → ByteArray → Int → Int → Int → Int → Int → Int → Option Addr → Nat → Nat → ByteArray → ByteArray → Int → Bool → Option Addr → Nat → Nat → World → Prop) (h0 : J d8 d7 bm00 d0 a0 d1 d2 d3 d4 d5 d6 c6 c8 c7 c9 c3 c5 c4 b9 c1 c0 w0)
 (hr : ∀ (c2 : ByteArray) (b8 : Bool) (bm0 : Nat) (b1 : Int) (a9 : ByteArray) (b2 b3 b4 b5 b6 b7 : Int) (a6 : Option Addr) (a8 a7 : Nat) (b0 a0 : ByteArray) (a5 : Int) (a4 : Bool) (a1 : Option Addr) (a3 a2 : Nat) (w : World), J c2 b8 bm0 b1 a9 b2 b3 b4 b5 b6 b7 a6 a8 a7 b0 a0 a5 a4 a1 a3 a2 w → ref04_only_C3 c2 b8 bm0 b1 a9 b2 b3 b4 b5 b6 b7 a6 a8 a7 b0 a0 a5 a4 a1 a3 a2 R w) :
 cutD3 ref04_only_la3 ((dnF Tryz.prog ref04_only_an (code Tryz.f106) 395 [1, 0, 1, 1, 1, 1]) (kont3 Tryz.prog ref04_only_an (code Tryz.f106) [1, 1, 1, 1, 0] [] (post3 Tryz.prog Tryz.f106 [] R))) (ref04_only_v3 d8 d7 bm00) (ref04_only_m3 bm00 d0 a0 d1 d2 d3 d4 d5 d6 c6 c8 c7 c9 c3 c5 c4 b9 c1 c0) w0 := by
 refine ⟨fun vals mem w => ∃ c2 b8 bm0 b1 a9 b2 b3 b4 b5 b6 b7 a6 a8 a7 b0 a0 a5 a4 a1 a3 a2, vals = (ref04_only_v3 c2 b8 bm0) ∧ mem = (ref04_only_m3 bm0 b1 a9 b2 b3 b4 b5 b6 b7 a6 a8 a7 b0 a0 a5 a4 a1 a3 a2) ∧ J c2 b8 bm0 b1 a9 b2 b3 b4 b5 b6 b7 a6 a8 a7 b0 a0 a5 a4 a1 a3 a2 w, ⟨_, _, _, _, _, _, _, _, _, _, _, _, _, _, _, _, _, _, _, _, _, rfl, rfl, h0⟩, ?_⟩
 rintro vals mem w ⟨c2, b8, bm0, b1, a9, b2, b3, b4, b5, b6, b7, a6, a8, a7, b0, a0, a5, a4, a1, a3, a2, rfl, rfl, hJ⟩
 refine ⟨rfl, rfl, fun js => ?_⟩
 have h := hr c2 b8 bm0 b1 a9 b2 b3 b4 b5 b6 b7 a6 a8 a7 b0 a0 a5 a4 a1 a3 a2 w hJ
 rw [← ref04_only_C3_eq _ _ _ _ _ _ _ _ _ _ _ _ _ _ _ _ _ _ _ _ _ js] at h
 exact h
theorem ref04_only_at3 {d8 : ByteArray} {d6 : Bool} {bm0 : Nat} {b6 : Int} {b2 : ByteArray} {b8 b9 c0 c1 c2 c3 : Int} {a7 : Option Addr} {b1 a9 : Nat} {b4 a3 : ByteArray} {a5 : Int} {a4 : Bool} {a0 : Option Addr} {a2 a1 : Nat} {R : Value → World → Prop} {w : World} (h : ref04_only_C3 d8 d6 bm0 b6 b2 b8 b9 c0 c1 c2 c3 a7 b1 a9 b4 a3 a5 a4 a0 a2 a1 R w) :
 cutD3 ref04_only_la3 ((dnF Tryz.prog ref04_only_an (code Tryz.f106) 395 [1, 0, 1, 1, 1, 1]) (kont3 Tryz.prog ref04_only_an (code Tryz.f106) [1, 1, 1, 1, 0] [] (post3 Tryz.prog Tryz.f106 [] R))) (ref04_only_v3 d8 d6 bm0) (ref04_only_m3 bm0 b6 b2 b8 b9 c0 c1 c2 c3 a7 b1 a9 b4 a3 a5 a4 a0 a2 a1) w :=
 ref04_only_cut3 (fun d9 d7 bm0' c9 c7 d0 d1 d2 d3 d4 d5 c4 c6 c5 c8 b3 b7 b5 a6 b0 a8 w' => d9 = d8 ∧ d7 = d6 ∧ bm0' = bm0 ∧ c9 = b6 ∧ c7 = b2 ∧ d0 = b8 ∧ d1 = b9 ∧ d2 = c0 ∧ d3 = c1 ∧ d4 = c2 ∧ d5 = c3 ∧ c4 = a7 ∧ c6 = b1 ∧ c5 = a9 ∧ c8 = b4 ∧ b3 = a3 ∧ b7 = a5 ∧ b5 = a4 ∧ a6 = a0 ∧ b0 = a2 ∧ a8 = a1 ∧ w' = w) ⟨rfl, rfl, rfl, rfl, rfl, rfl, rfl, rfl, rfl, rfl, rfl, rfl, rfl, rfl, rfl, rfl, rfl, rfl, rfl, rfl, rfl, rfl⟩ (by rintro d9 d7 bm0' c9 c7 d0 d1 d2 d3 d4 d5 c4 c6 c5 c8 b3 b7 b5 a6 b0 a8 w' ⟨rfl, rfl, rfl, rfl, rfl, rfl, rfl, rfl, rfl, rfl, rfl, rfl, rfl, rfl, rfl, rfl, rfl, rfl, rfl, rfl, rfl, rfl⟩; exact h)
def ref04_only_C4 (b8 : ByteArray) (bm0 : Nat) (b1 : Int) (b0 : ByteArray) (b2 b3 b4 b5 b6 b7 : Int) (a7 : Option Addr) (a9 a8 : Nat) (a6 a1 : ByteArray) (a0 : Int) (a5 : Bool) (a2 : Option Addr) (a4 a3 : Nat) (R : Value → World → Prop) (w : World) : Prop :=
 Calls Tryz.prog 107 #[.string b8, .int .u8 103] w fun e w11 => ∃ t12 : Bool, e = .returned (.bool t12) ∧ Keep [bm0] w w11 ∧
 brB (!t12) (
 brB (!(a6.toList == (⟨#[]⟩ : ByteArray).toList)) (
 cutD3 ref04_only_la5 ((dnF Tryz.prog ref04_only_an (code Tryz.f106) 394 [1, 0, 1, 1, 1, 1, 1]) (kont3 Tryz.prog ref04_only_an (code Tryz.f106) [1, 1, 1, 1, 1, 0] [] (post3 Tryz.prog Tryz.f106 [] R))) (ref04_only_v5 b8 true bm0) (ref04_only_m5 bm0 b1 b0 b2 b3 b4 b5 b6 b7 a7 a9 a8 a6 a1 a0 a5 a2 a4 a3) w11)
 (
 Calls Tryz.prog 107 #[.string b8, .int .u8 109] w11 fun e w15 => ∃ t16 : Bool, e = .returned (.bool t16) ∧ Keep [bm0] w11 w15 ∧
 brB (!t16) (
 brB (!(a1.toList == (⟨#[]⟩ : ByteArray).toList)) (
 cutD3 ref04_only_la5 ((dnF Tryz.prog ref04_only_an (code Tryz.f106) 394 [1, 0, 1, 1, 1, 1, 1]) (kont3 Tryz.prog ref04_only_an (code Tryz.f106) [1, 1, 1, 1, 1, 0] [] (post3 Tryz.prog Tryz.f106 [] R))) (ref04_only_v5 b8 true bm0) (ref04_only_m5 bm0 b1 b0 b2 b3 b4 b5 b6 b7 a7 a9 a8 a6 a1 a0 a5 a2 a4 a3) w15)
 (
 Calls Tryz.prog 107 #[.string b8, .int .u8 101] w15 fun e w17 => ∃ t18 : Bool, e = .returned (.bool t18) ∧ Keep [bm0] w15 w17 ∧
 brB (!t18) (
 cutD3 ref04_only_la5 ((dnF Tryz.prog ref04_only_an (code Tryz.f106) 394 [1, 0, 1, 1, 1, 1, 1]) (kont3 Tryz.prog ref04_only_an (code Tryz.f106) [1, 1, 1, 1, 1, 0] [] (post3 Tryz.prog Tryz.f106 [] R))) (ref04_only_v5 b8 (a0 != 0) bm0) (ref04_only_m5 bm0 b1 b0 b2 b3 b4 b5 b6 b7 a7 a9 a8 a6 a1 a0 a5 a2 a4 a3) w17)
 (
 cutD3 ref04_only_la5 ((dnF Tryz.prog ref04_only_an (code Tryz.f106) 394 [1, 0, 1, 1, 1, 1, 1]) (kont3 Tryz.prog ref04_only_an (code Tryz.f106) [1, 1, 1, 1, 1, 0] [] (post3 Tryz.prog Tryz.f106 [] R))) (ref04_only_v5 b8 false bm0) (ref04_only_m5 bm0 b1 b0 b2 b3 b4 b5 b6 b7 a7 a9 a8 a6 a1 a0 a5 a2 a4 a3) w17)))
 (
 Calls Tryz.prog 107 #[.string b8, .int .u8 101] w15 fun e w19 => ∃ t20 : Bool, e = .returned (.bool t20) ∧ Keep [bm0] w15 w19 ∧
 brB (!t20) (
 cutD3 ref04_only_la5 ((dnF Tryz.prog ref04_only_an (code Tryz.f106) 394 [1, 0, 1, 1, 1, 1, 1]) (kont3 Tryz.prog ref04_only_an (code Tryz.f106) [1, 1, 1, 1, 1, 0] [] (post3 Tryz.prog Tryz.f106 [] R))) (ref04_only_v5 b8 (a0 != 0) bm0) (ref04_only_m5 bm0 b1 b0 b2 b3 b4 b5 b6 b7 a7 a9 a8 a6 a1 a0 a5 a2 a4 a3) w19)
 (
 cutD3 ref04_only_la5 ((dnF Tryz.prog ref04_only_an (code Tryz.f106) 394 [1, 0, 1, 1, 1, 1, 1]) (kont3 Tryz.prog ref04_only_an (code Tryz.f106) [1, 1, 1, 1, 1, 0] [] (post3 Tryz.prog Tryz.f106 [] R))) (ref04_only_v5 b8 false bm0) (ref04_only_m5 bm0 b1 b0 b2 b3 b4 b5 b6 b7 a7 a9 a8 a6 a1 a0 a5 a2 a4 a3) w19))))
 (
 Calls Tryz.prog 107 #[.string b8, .int .u8 109] w11 fun e w21 => ∃ t22 : Bool, e = .returned (.bool t22) ∧ Keep [bm0] w11 w21 ∧
 brB (!t22) (
 brB (!(a1.toList == (⟨#[]⟩ : ByteArray).toList)) (
 cutD3 ref04_only_la5 ((dnF Tryz.prog ref04_only_an (code Tryz.f106) 394 [1, 0, 1, 1, 1, 1, 1]) (kont3 Tryz.prog ref04_only_an (code Tryz.f106) [1, 1, 1, 1, 1, 0] [] (post3 Tryz.prog Tryz.f106 [] R))) (ref04_only_v5 b8 true bm0) (ref04_only_m5 bm0 b1 b0 b2 b3 b4 b5 b6 b7 a7 a9 a8 a6 a1 a0 a5 a2 a4 a3) w21)
 (
 Calls Tryz.prog 107 #[.string b8, .int .u8 101] w21 fun e w23 => ∃ t24 : Bool, e = .returned (.bool t24) ∧ Keep [bm0] w21 w23 ∧
 brB (!t24) (
 cutD3 ref04_only_la5 ((dnF Tryz.prog ref04_only_an (code Tryz.f106) 394 [1, 0, 1, 1, 1, 1, 1]) (kont3 Tryz.prog ref04_only_an (code Tryz.f106) [1, 1, 1, 1, 1, 0] [] (post3 Tryz.prog Tryz.f106 [] R))) (ref04_only_v5 b8 (a0 != 0) bm0) (ref04_only_m5 bm0 b1 b0 b2 b3 b4 b5 b6 b7 a7 a9 a8 a6 a1 a0 a5 a2 a4 a3) w23)
 (
 cutD3 ref04_only_la5 ((dnF Tryz.prog ref04_only_an (code Tryz.f106) 394 [1, 0, 1, 1, 1, 1, 1]) (kont3 Tryz.prog ref04_only_an (code Tryz.f106) [1, 1, 1, 1, 1, 0] [] (post3 Tryz.prog Tryz.f106 [] R))) (ref04_only_v5 b8 false bm0) (ref04_only_m5 bm0 b1 b0 b2 b3 b4 b5 b6 b7 a7 a9 a8 a6 a1 a0 a5 a2 a4 a3) w23)))
 (
 Calls Tryz.prog 107 #[.string b8, .int .u8 101] w21 fun e w25 => ∃ t26 : Bool, e = .returned (.bool t26) ∧ Keep [bm0] w21 w25 ∧
 brB (!t26) (
 cutD3 ref04_only_la5 ((dnF Tryz.prog ref04_only_an (code Tryz.f106) 394 [1, 0, 1, 1, 1, 1, 1]) (kont3 Tryz.prog ref04_only_an (code Tryz.f106) [1, 1, 1, 1, 1, 0] [] (post3 Tryz.prog Tryz.f106 [] R))) (ref04_only_v5 b8 (a0 != 0) bm0) (ref04_only_m5 bm0 b1 b0 b2 b3 b4 b5 b6 b7 a7 a9 a8 a6 a1 a0 a5 a2 a4 a3) w25)
 (
 cutD3 ref04_only_la5 ((dnF Tryz.prog ref04_only_an (code Tryz.f106) 394 [1, 0, 1, 1, 1, 1, 1]) (kont3 Tryz.prog ref04_only_an (code Tryz.f106) [1, 1, 1, 1, 1, 0] [] (post3 Tryz.prog Tryz.f106 [] R))) (ref04_only_v5 b8 false bm0) (ref04_only_m5 bm0 b1 b0 b2 b3 b4 b5 b6 b7 a7 a9 a8 a6 a1 a0 a5 a2 a4 a3) w25)))
theorem ref04_only_C4_eq (b8 : ByteArray) (bm0 : Nat) (b1 : Int) (a9 : ByteArray) (b2 b3 b4 b5 b6 b7 : Int) (a6 : Option Addr) (a8 a7 : Nat) (b0 a3 : ByteArray) (a5 : Int) (a4 : Bool) (a0 : Option Addr) (a2 a1 : Nat) (js : Nat → Value) (R : Value → World → Prop) (w : World) :
 headA ref04_only_la4 ((dnF Tryz.prog ref04_only_an (code Tryz.f106) 395 [1, 1, 1, 1, 1]) (kont3 Tryz.prog ref04_only_an (code Tryz.f106) [1, 1, 1, 1] [] (post3 Tryz.prog Tryz.f106 [] R))) (ref04_only_v4 b8 bm0) js (ref04_only_m4 bm0 b1 a9 b2 b3 b4 b5 b6 b7 a6 a8 a7 b0 a3 a5 a4 a0 a2 a1) w = ref04_only_C4 b8 bm0 b1 a9 b2 b3 b4 b5 b6 b7 a6 a8 a7 b0 a3 a5 a4 a0 a2 a1 R w := by kernel_rfl
theorem ref04_only_cut4 {d6 : ByteArray} {bm00 : Nat} {c9 : Int} {a0 : ByteArray} {d0 d1 d2 d3 d4 d5 : Int} {c5 : Option Addr} {c7 c6 : Nat} {c8 c2 : ByteArray} {c4 : Int} {c3 : Bool} {b8 : Option Addr} {c0 b9 : Nat} {R : Value → World → Prop} {w0 : World} (J : ByteArray → Nat → Int → ByteArray → Int → Int → Int → Int → Int → Int → Option Addr → Nat → Nat → ByteArray → ByteArray → Int → Bool → Option Addr → Nat → Nat → World → Prop) (h0 : J d6 bm00 c9 a0 d0 d1 d2 d3 d4 d5 c5 c7 c6 c8 c2 c4 c3 b8 c0 b9 w0)
 (hr : ∀ (c1 : ByteArray) (bm0 : Nat) (b1 : Int) (a9 : ByteArray) (b2 b3 b4 b5 b6 b7 : Int) (a6 : Option Addr) (a8 a7 : Nat) (b0 a0 : ByteArray) (a5 : Int) (a4 : Bool) (a1 : Option Addr) (a3 a2 : Nat) (w : World), J c1 bm0 b1 a9 b2 b3 b4 b5 b6 b7 a6 a8 a7 b0 a0 a5 a4 a1 a3 a2 w → ref04_only_C4 c1 bm0 b1 a9 b2 b3 b4 b5 b6 b7 a6 a8 a7 b0 a0 a5 a4 a1 a3 a2 R w) :
 cutD3 ref04_only_la4 ((dnF Tryz.prog ref04_only_an (code Tryz.f106) 395 [1, 1, 1, 1, 1]) (kont3 Tryz.prog ref04_only_an (code Tryz.f106) [1, 1, 1, 1] [] (post3 Tryz.prog Tryz.f106 [] R))) (ref04_only_v4 d6 bm00) (ref04_only_m4 bm00 c9 a0 d0 d1 d2 d3 d4 d5 c5 c7 c6 c8 c2 c4 c3 b8 c0 b9) w0 := by
 refine ⟨fun vals mem w => ∃ c1 bm0 b1 a9 b2 b3 b4 b5 b6 b7 a6 a8 a7 b0 a0 a5 a4 a1 a3 a2, vals = (ref04_only_v4 c1 bm0) ∧ mem = (ref04_only_m4 bm0 b1 a9 b2 b3 b4 b5 b6 b7 a6 a8 a7 b0 a0 a5 a4 a1 a3 a2) ∧ J c1 bm0 b1 a9 b2 b3 b4 b5 b6 b7 a6 a8 a7 b0 a0 a5 a4 a1 a3 a2 w, ⟨_, _, _, _, _, _, _, _, _, _, _, _, _, _, _, _, _, _, _, _, rfl, rfl, h0⟩, ?_⟩
 rintro vals mem w ⟨c1, bm0, b1, a9, b2, b3, b4, b5, b6, b7, a6, a8, a7, b0, a0, a5, a4, a1, a3, a2, rfl, rfl, hJ⟩
 refine ⟨rfl, rfl, fun js => ?_⟩
 have h := hr c1 bm0 b1 a9 b2 b3 b4 b5 b6 b7 a6 a8 a7 b0 a0 a5 a4 a1 a3 a2 w hJ
 rw [← ref04_only_C4_eq _ _ _ _ _ _ _ _ _ _ _ _ _ _ _ _ _ _ _ _ js] at h
 exact h
theorem ref04_only_at4 {d6 : ByteArray} {bm0 : Nat} {b6 : Int} {b2 : ByteArray} {b8 b9 c0 c1 c2 c3 : Int} {a7 : Option Addr} {b1 a9 : Nat} {b4 a3 : ByteArray} {a5 : Int} {a4 : Bool} {a0 : Option Addr} {a2 a1 : Nat} {R : Value → World → Prop} {w : World} (h : ref04_only_C4 d6 bm0 b6 b2 b8 b9 c0 c1 c2 c3 a7 b1 a9 b4 a3 a5 a4 a0 a2 a1 R w) :
 cutD3 ref04_only_la4 ((dnF Tryz.prog ref04_only_an (code Tryz.f106) 395 [1, 1, 1, 1, 1]) (kont3 Tryz.prog ref04_only_an (code Tryz.f106) [1, 1, 1, 1] [] (post3 Tryz.prog Tryz.f106 [] R))) (ref04_only_v4 d6 bm0) (ref04_only_m4 bm0 b6 b2 b8 b9 c0 c1 c2 c3 a7 b1 a9 b4 a3 a5 a4 a0 a2 a1) w :=
 ref04_only_cut4 (fun d7 bm0' c9 c7 d0 d1 d2 d3 d4 d5 c4 c6 c5 c8 b3 b7 b5 a6 b0 a8 w' => d7 = d6 ∧ bm0' = bm0 ∧ c9 = b6 ∧ c7 = b2 ∧ d0 = b8 ∧ d1 = b9 ∧ d2 = c0 ∧ d3 = c1 ∧ d4 = c2 ∧ d5 = c3 ∧ c4 = a7 ∧ c6 = b1 ∧ c5 = a9 ∧ c8 = b4 ∧ b3 = a3 ∧ b7 = a5 ∧ b5 = a4 ∧ a6 = a0 ∧ b0 = a2 ∧ a8 = a1 ∧ w' = w) ⟨rfl, rfl, rfl, rfl, rfl, rfl, rfl, rfl, rfl, rfl, rfl, rfl, rfl, rfl, rfl, rfl, rfl, rfl, rfl, rfl, rfl⟩ (by rintro d7 bm0' c9 c7 d0 d1 d2 d3 d4 d5 c4 c6 c5 c8 b3 b7 b5 a6 b0 a8 w' ⟨rfl, rfl, rfl, rfl, rfl, rfl, rfl, rfl, rfl, rfl, rfl, rfl, rfl, rfl, rfl, rfl, rfl, rfl, rfl, rfl, rfl⟩; exact h)
def ref04_only_C5 (b9 : ByteArray) (b8 : Bool) (bm0 : Nat) (b1 : Int) (a9 : ByteArray) (b2 b3 b4 b5 b6 b7 : Int) (a6 : Option Addr) (a8 a7 : Nat) (b0 a3 : ByteArray) (a5 : Int) (a4 : Bool) (a0 : Option Addr) (a2 a1 : Nat) (R : Value → World → Prop) (w : World) : Prop :=
 brB b8 (
 R (.bool false) w)
 (
 cutD3 ref04_only_la6 ((dnF Tryz.prog ref04_only_an (code Tryz.f106) 394 [1, 1, 1, 1, 1, 1]) (kont3 Tryz.prog ref04_only_an (code Tryz.f106) [1, 1, 1, 1, 1] [] (post3 Tryz.prog Tryz.f106 [] R))) (ref04_only_v6 b9 bm0) (ref04_only_m6 bm0 b1 a9 b2 b3 b4 b5 b6 b7 a6 a8 a7 b0 a3 a5 a4 a0 a2 a1) w)
theorem ref04_only_C5_eq (b9 : ByteArray) (b8 : Bool) (bm0 : Nat) (b1 : Int) (a9 : ByteArray) (b2 b3 b4 b5 b6 b7 : Int) (a6 : Option Addr) (a8 a7 : Nat) (b0 a3 : ByteArray) (a5 : Int) (a4 : Bool) (a0 : Option Addr) (a2 a1 : Nat) (js : Nat → Value) (R : Value → World → Prop) (w : World) :
 headA ref04_only_la5 ((dnF Tryz.prog ref04_only_an (code Tryz.f106) 394 [1, 0, 1, 1, 1, 1, 1]) (kont3 Tryz.prog ref04_only_an (code Tryz.f106) [1, 1, 1, 1, 1, 0] [] (post3 Tryz.prog Tryz.f106 [] R))) (ref04_only_v5 b9 b8 bm0) js (ref04_only_m5 bm0 b1 a9 b2 b3 b4 b5 b6 b7 a6 a8 a7 b0 a3 a5 a4 a0 a2 a1) w = ref04_only_C5 b9 b8 bm0 b1 a9 b2 b3 b4 b5 b6 b7 a6 a8 a7 b0 a3 a5 a4 a0 a2 a1 R w := by kernel_rfl
theorem ref04_only_cut5 {d8 : ByteArray} {d7 : Bool} {bm00 : Nat} {d0 : Int} {a0 : ByteArray} {d1 d2 d3 d4 d5 d6 : Int} {c6 : Option Addr} {c8 c7 : Nat} {c9 c3 : ByteArray} {c5 : Int} {c4 : Bool} {b9 : Option Addr} {c1 c0 : Nat} {R : Value → World → Prop} {w0 : World} (J : ByteArray → Bool → Nat → Int → ByteArray → Int → Int → Int → Int → Int → Int → Option Addr → Nat → Nat → ByteArray → ByteArray → Int → Bool → Option Addr → Nat → Nat → World → Prop) (h0 : J d8 d7 bm00 d0 a0 d1 d2 d3 d4 d5 d6 c6 c8 c7 c9 c3 c5 c4 b9 c1 c0 w0)
 (hr : ∀ (c2 : ByteArray) (b8 : Bool) (bm0 : Nat) (b1 : Int) (a9 : ByteArray) (b2 b3 b4 b5 b6 b7 : Int) (a6 : Option Addr) (a8 a7 : Nat) (b0 a0 : ByteArray) (a5 : Int) (a4 : Bool) (a1 : Option Addr) (a3 a2 : Nat) (w : World), J c2 b8 bm0 b1 a9 b2 b3 b4 b5 b6 b7 a6 a8 a7 b0 a0 a5 a4 a1 a3 a2 w → ref04_only_C5 c2 b8 bm0 b1 a9 b2 b3 b4 b5 b6 b7 a6 a8 a7 b0 a0 a5 a4 a1 a3 a2 R w) :
 cutD3 ref04_only_la5 ((dnF Tryz.prog ref04_only_an (code Tryz.f106) 394 [1, 0, 1, 1, 1, 1, 1]) (kont3 Tryz.prog ref04_only_an (code Tryz.f106) [1, 1, 1, 1, 1, 0] [] (post3 Tryz.prog Tryz.f106 [] R))) (ref04_only_v5 d8 d7 bm00) (ref04_only_m5 bm00 d0 a0 d1 d2 d3 d4 d5 d6 c6 c8 c7 c9 c3 c5 c4 b9 c1 c0) w0 := by
 refine ⟨fun vals mem w => ∃ c2 b8 bm0 b1 a9 b2 b3 b4 b5 b6 b7 a6 a8 a7 b0 a0 a5 a4 a1 a3 a2, vals = (ref04_only_v5 c2 b8 bm0) ∧ mem = (ref04_only_m5 bm0 b1 a9 b2 b3 b4 b5 b6 b7 a6 a8 a7 b0 a0 a5 a4 a1 a3 a2) ∧ J c2 b8 bm0 b1 a9 b2 b3 b4 b5 b6 b7 a6 a8 a7 b0 a0 a5 a4 a1 a3 a2 w, ⟨_, _, _, _, _, _, _, _, _, _, _, _, _, _, _, _, _, _, _, _, _, rfl, rfl, h0⟩, ?_⟩
 rintro vals mem w ⟨c2, b8, bm0, b1, a9, b2, b3, b4, b5, b6, b7, a6, a8, a7, b0, a0, a5, a4, a1, a3, a2, rfl, rfl, hJ⟩
 refine ⟨rfl, rfl, fun js => ?_⟩
 have h := hr c2 b8 bm0 b1 a9 b2 b3 b4 b5 b6 b7 a6 a8 a7 b0 a0 a5 a4 a1 a3 a2 w hJ
 rw [← ref04_only_C5_eq _ _ _ _ _ _ _ _ _ _ _ _ _ _ _ _ _ _ _ _ _ js] at h
 exact h
theorem ref04_only_at5 {d8 : ByteArray} {d6 : Bool} {bm0 : Nat} {b6 : Int} {b2 : ByteArray} {b8 b9 c0 c1 c2 c3 : Int} {a7 : Option Addr} {b1 a9 : Nat} {b4 a3 : ByteArray} {a5 : Int} {a4 : Bool} {a0 : Option Addr} {a2 a1 : Nat} {R : Value → World → Prop} {w : World} (h : ref04_only_C5 d8 d6 bm0 b6 b2 b8 b9 c0 c1 c2 c3 a7 b1 a9 b4 a3 a5 a4 a0 a2 a1 R w) :
 cutD3 ref04_only_la5 ((dnF Tryz.prog ref04_only_an (code Tryz.f106) 394 [1, 0, 1, 1, 1, 1, 1]) (kont3 Tryz.prog ref04_only_an (code Tryz.f106) [1, 1, 1, 1, 1, 0] [] (post3 Tryz.prog Tryz.f106 [] R))) (ref04_only_v5 d8 d6 bm0) (ref04_only_m5 bm0 b6 b2 b8 b9 c0 c1 c2 c3 a7 b1 a9 b4 a3 a5 a4 a0 a2 a1) w :=
 ref04_only_cut5 (fun d9 d7 bm0' c9 c7 d0 d1 d2 d3 d4 d5 c4 c6 c5 c8 b3 b7 b5 a6 b0 a8 w' => d9 = d8 ∧ d7 = d6 ∧ bm0' = bm0 ∧ c9 = b6 ∧ c7 = b2 ∧ d0 = b8 ∧ d1 = b9 ∧ d2 = c0 ∧ d3 = c1 ∧ d4 = c2 ∧ d5 = c3 ∧ c4 = a7 ∧ c6 = b1 ∧ c5 = a9 ∧ c8 = b4 ∧ b3 = a3 ∧ b7 = a5 ∧ b5 = a4 ∧ a6 = a0 ∧ b0 = a2 ∧ a8 = a1 ∧ w' = w) ⟨rfl, rfl, rfl, rfl, rfl, rfl, rfl, rfl, rfl, rfl, rfl, rfl, rfl, rfl, rfl, rfl, rfl, rfl, rfl, rfl, rfl, rfl⟩ (by rintro d9 d7 bm0' c9 c7 d0 d1 d2 d3 d4 d5 c4 c6 c5 c8 b3 b7 b5 a6 b0 a8 w' ⟨rfl, rfl, rfl, rfl, rfl, rfl, rfl, rfl, rfl, rfl, rfl, rfl, rfl, rfl, rfl, rfl, rfl, rfl, rfl, rfl, rfl, rfl⟩; exact h)
def ref04_only_C6 (a9 : ByteArray) (bm0 : Nat) (b2 : Int) (b0 : ByteArray) (b3 b4 b5 b6 b7 b8 : Int) (a6 : Option Addr) (a8 a7 : Nat) (b1 a4 : ByteArray) (a5 : Int) (a1 : Bool) (a2 : Option Addr) (a0 a3 : Nat) (R : Value → World → Prop) (w : World) : Prop :=
 Calls Tryz.prog 107 #[.string a9, .int .u8 114] w fun e w13 => ∃ t14 : Bool, e = .returned (.bool t14) ∧ Keep [bm0] w w13 ∧
 brB t14 (
 R (.bool true) w13)
 (
 brB (!a1) (
 R (.bool ((a0 : Int) == 0)) w13)
 (
 R (.bool false) w13))
theorem ref04_only_C6_eq (b8 : ByteArray) (bm0 : Nat) (b1 : Int) (a9 : ByteArray) (b2 b3 b4 b5 b6 b7 : Int) (a6 : Option Addr) (a8 a7 : Nat) (b0 a3 : ByteArray) (a5 : Int) (a4 : Bool) (a0 : Option Addr) (a2 a1 : Nat) (js : Nat → Value) (R : Value → World → Prop) (w : World) :
 headA ref04_only_la6 ((dnF Tryz.prog ref04_only_an (code Tryz.f106) 394 [1, 1, 1, 1, 1, 1]) (kont3 Tryz.prog ref04_only_an (code Tryz.f106) [1, 1, 1, 1, 1] [] (post3 Tryz.prog Tryz.f106 [] R))) (ref04_only_v6 b8 bm0) js (ref04_only_m6 bm0 b1 a9 b2 b3 b4 b5 b6 b7 a6 a8 a7 b0 a3 a5 a4 a0 a2 a1) w = ref04_only_C6 b8 bm0 b1 a9 b2 b3 b4 b5 b6 b7 a6 a8 a7 b0 a3 a5 a4 a0 a2 a1 R w := by kernel_rfl
theorem ref04_only_cut6 {d6 : ByteArray} {bm00 : Nat} {c9 : Int} {a0 : ByteArray} {d0 d1 d2 d3 d4 d5 : Int} {c5 : Option Addr} {c7 c6 : Nat} {c8 c2 : ByteArray} {c4 : Int} {c3 : Bool} {b8 : Option Addr} {c0 b9 : Nat} {R : Value → World → Prop} {w0 : World} (J : ByteArray → Nat → Int → ByteArray → Int → Int → Int → Int → Int → Int → Option Addr → Nat → Nat → ByteArray → ByteArray → Int → Bool → Option Addr → Nat → Nat → World → Prop) (h0 : J d6 bm00 c9 a0 d0 d1 d2 d3 d4 d5 c5 c7 c6 c8 c2 c4 c3 b8 c0 b9 w0)
 (hr : ∀ (c1 : ByteArray) (bm0 : Nat) (b1 : Int) (a9 : ByteArray) (b2 b3 b4 b5 b6 b7 : Int) (a6 : Option Addr) (a8 a7 : Nat) (b0 a0 : ByteArray) (a5 : Int) (a4 : Bool) (a1 : Option Addr) (a3 a2 : Nat) (w : World), J c1 bm0 b1 a9 b2 b3 b4 b5 b6 b7 a6 a8 a7 b0 a0 a5 a4 a1 a3 a2 w → ref04_only_C6 c1 bm0 b1 a9 b2 b3 b4 b5 b6 b7 a6 a8 a7 b0 a0 a5 a4 a1 a3 a2 R w) :
 cutD3 ref04_only_la6 ((dnF Tryz.prog ref04_only_an (code Tryz.f106) 394 [1, 1, 1, 1, 1, 1]) (kont3 Tryz.prog ref04_only_an (code Tryz.f106) [1, 1, 1, 1, 1] [] (post3 Tryz.prog Tryz.f106 [] R))) (ref04_only_v6 d6 bm00) (ref04_only_m6 bm00 c9 a0 d0 d1 d2 d3 d4 d5 c5 c7 c6 c8 c2 c4 c3 b8 c0 b9) w0 := by
 refine ⟨fun vals mem w => ∃ c1 bm0 b1 a9 b2 b3 b4 b5 b6 b7 a6 a8 a7 b0 a0 a5 a4 a1 a3 a2, vals = (ref04_only_v6 c1 bm0) ∧ mem = (ref04_only_m6 bm0 b1 a9 b2 b3 b4 b5 b6 b7 a6 a8 a7 b0 a0 a5 a4 a1 a3 a2) ∧ J c1 bm0 b1 a9 b2 b3 b4 b5 b6 b7 a6 a8 a7 b0 a0 a5 a4 a1 a3 a2 w, ⟨_, _, _, _, _, _, _, _, _, _, _, _, _, _, _, _, _, _, _, _, rfl, rfl, h0⟩, ?_⟩
 rintro vals mem w ⟨c1, bm0, b1, a9, b2, b3, b4, b5, b6, b7, a6, a8, a7, b0, a0, a5, a4, a1, a3, a2, rfl, rfl, hJ⟩
 refine ⟨rfl, rfl, fun js => ?_⟩
 have h := hr c1 bm0 b1 a9 b2 b3 b4 b5 b6 b7 a6 a8 a7 b0 a0 a5 a4 a1 a3 a2 w hJ
 rw [← ref04_only_C6_eq _ _ _ _ _ _ _ _ _ _ _ _ _ _ _ _ _ _ _ _ js] at h
 exact h
theorem ref04_only_at6 {d6 : ByteArray} {bm0 : Nat} {b6 : Int} {b2 : ByteArray} {b8 b9 c0 c1 c2 c3 : Int} {a7 : Option Addr} {b1 a9 : Nat} {b4 a3 : ByteArray} {a5 : Int} {a4 : Bool} {a0 : Option Addr} {a2 a1 : Nat} {R : Value → World → Prop} {w : World} (h : ref04_only_C6 d6 bm0 b6 b2 b8 b9 c0 c1 c2 c3 a7 b1 a9 b4 a3 a5 a4 a0 a2 a1 R w) :
 cutD3 ref04_only_la6 ((dnF Tryz.prog ref04_only_an (code Tryz.f106) 394 [1, 1, 1, 1, 1, 1]) (kont3 Tryz.prog ref04_only_an (code Tryz.f106) [1, 1, 1, 1, 1] [] (post3 Tryz.prog Tryz.f106 [] R))) (ref04_only_v6 d6 bm0) (ref04_only_m6 bm0 b6 b2 b8 b9 c0 c1 c2 c3 a7 b1 a9 b4 a3 a5 a4 a0 a2 a1) w :=
 ref04_only_cut6 (fun d7 bm0' c9 c7 d0 d1 d2 d3 d4 d5 c4 c6 c5 c8 b3 b7 b5 a6 b0 a8 w' => d7 = d6 ∧ bm0' = bm0 ∧ c9 = b6 ∧ c7 = b2 ∧ d0 = b8 ∧ d1 = b9 ∧ d2 = c0 ∧ d3 = c1 ∧ d4 = c2 ∧ d5 = c3 ∧ c4 = a7 ∧ c6 = b1 ∧ c5 = a9 ∧ c8 = b4 ∧ b3 = a3 ∧ b7 = a5 ∧ b5 = a4 ∧ a6 = a0 ∧ b0 = a2 ∧ a8 = a1 ∧ w' = w) ⟨rfl, rfl, rfl, rfl, rfl, rfl, rfl, rfl, rfl, rfl, rfl, rfl, rfl, rfl, rfl, rfl, rfl, rfl, rfl, rfl, rfl⟩ (by rintro d7 bm0' c9 c7 d0 d1 d2 d3 d4 d5 c4 c6 c5 c8 b3 b7 b5 a6 b0 a8 w' ⟨rfl, rfl, rfl, rfl, rfl, rfl, rfl, rfl, rfl, rfl, rfl, rfl, rfl, rfl, rfl, rfl, rfl, rfl, rfl, rfl, rfl⟩; exact h)
def ref04_only_T (b3 : Int) (b4 : ByteArray) (b2 a7 a3 b5 b6 b7 : Int) (a4 : Option Addr) (a6 a5 : Nat) (b8 a8 : ByteArray) (a9 : Int) (b0 : Bool) (a0 : Option Addr) (a2 a1 : Nat) (R : Value → World → Prop) (w : World) : Prop :=
 ∀ b1, w.heap.size ≤ b1 →
 ∀ w2, Adv [] [b1] w w2 →
 Calls Tryz.prog 105 #[.int .i64 b3] w2 fun e w3 => ∃ s4 : ByteArray, e = .returned (.string s4) ∧ Keep [b1] w2 w3 ∧
 Calls Tryz.prog 107 #[.string s4, .int .u8 112] w3 fun e w5 => ∃ t6 : Bool, e = .returned (.bool t6) ∧ Keep [b1] w3 w5 ∧
 Calls Tryz.prog 107 #[.string s4, .int .u8 116] w5 fun e w7 => ∃ t8 : Bool, e = .returned (.bool t8) ∧ Keep [b1] w5 w7 ∧
 brB (!t6) (
 brB (!t8) (
 brB (!(b4.toList == (⟨#[]⟩ : ByteArray).toList)) (
 cutD3 ref04_only_la1 ((dnF Tryz.prog ref04_only_an (code Tryz.f106) 396 [1, 0, 1, 1, 1]) (kont3 Tryz.prog ref04_only_an (code Tryz.f106) [1, 1, 1, 0] [] (post3 Tryz.prog Tryz.f106 [] R))) (ref04_only_v1 s4 true b1) (ref04_only_m1 b1 b3 b4 b2 a7 a3 b5 b6 b7 a4 a6 a5 b8 a8 a9 b0 a0 a2 a1) w7)
 (
 brB (!t6) (
 brB (b2 != 0) (
 cutD3 ref04_only_la1 ((dnF Tryz.prog ref04_only_an (code Tryz.f106) 396 [1, 0, 1, 1, 1]) (kont3 Tryz.prog ref04_only_an (code Tryz.f106) [1, 1, 1, 0] [] (post3 Tryz.prog Tryz.f106 [] R))) (ref04_only_v1 s4 true b1) (ref04_only_m1 b1 b3 b4 b2 a7 a3 b5 b6 b7 a4 a6 a5 b8 a8 a9 b0 a0 a2 a1) w7)
 (
 Calls Tryz.prog 107 #[.string s4, .int .u8 110] w7 fun e w27 => ∃ t28 : Bool, e = .returned (.bool t28) ∧ Keep [b1] w7 w27 ∧
 brB (!t28) (
 brB (a7 != 0) (
 cutD3 ref04_only_la1 ((dnF Tryz.prog ref04_only_an (code Tryz.f106) 396 [1, 0, 1, 1, 1]) (kont3 Tryz.prog ref04_only_an (code Tryz.f106) [1, 1, 1, 0] [] (post3 Tryz.prog Tryz.f106 [] R))) (ref04_only_v1 s4 true b1) (ref04_only_m1 b1 b3 b4 b2 a7 a3 b5 b6 b7 a4 a6 a5 b8 a8 a9 b0 a0 a2 a1) w27)
 (
 Calls Tryz.prog 107 #[.string s4, .int .u8 111] w27 fun e w29 => ∃ t30 : Bool, e = .returned (.bool t30) ∧ Keep [b1] w27 w29 ∧
 brB (!t30) (
 cutD3 ref04_only_la1 ((dnF Tryz.prog ref04_only_an (code Tryz.f106) 396 [1, 0, 1, 1, 1]) (kont3 Tryz.prog ref04_only_an (code Tryz.f106) [1, 1, 1, 0] [] (post3 Tryz.prog Tryz.f106 [] R))) (ref04_only_v1 s4 (a3 != 0) b1) (ref04_only_m1 b1 b3 b4 b2 a7 a3 b5 b6 b7 a4 a6 a5 b8 a8 a9 b0 a0 a2 a1) w29)
 (
 cutD3 ref04_only_la1 ((dnF Tryz.prog ref04_only_an (code Tryz.f106) 396 [1, 0, 1, 1, 1]) (kont3 Tryz.prog ref04_only_an (code Tryz.f106) [1, 1, 1, 0] [] (post3 Tryz.prog Tryz.f106 [] R))) (ref04_only_v1 s4 false b1) (ref04_only_m1 b1 b3 b4 b2 a7 a3 b5 b6 b7 a4 a6 a5 b8 a8 a9 b0 a0 a2 a1) w29)))
 (
 Calls Tryz.prog 107 #[.string s4, .int .u8 111] w27 fun e w31 => ∃ t32 : Bool, e = .returned (.bool t32) ∧ Keep [b1] w27 w31 ∧
 brB (!t32) (
 cutD3 ref04_only_la1 ((dnF Tryz.prog ref04_only_an (code Tryz.f106) 396 [1, 0, 1, 1, 1]) (kont3 Tryz.prog ref04_only_an (code Tryz.f106) [1, 1, 1, 0] [] (post3 Tryz.prog Tryz.f106 [] R))) (ref04_only_v1 s4 (a3 != 0) b1) (ref04_only_m1 b1 b3 b4 b2 a7 a3 b5 b6 b7 a4 a6 a5 b8 a8 a9 b0 a0 a2 a1) w31)
 (
 cutD3 ref04_only_la1 ((dnF Tryz.prog ref04_only_an (code Tryz.f106) 396 [1, 0, 1, 1, 1]) (kont3 Tryz.prog ref04_only_an (code Tryz.f106) [1, 1, 1, 0] [] (post3 Tryz.prog Tryz.f106 [] R))) (ref04_only_v1 s4 false b1) (ref04_only_m1 b1 b3 b4 b2 a7 a3 b5 b6 b7 a4 a6 a5 b8 a8 a9 b0 a0 a2 a1) w31))))
 (
 Calls Tryz.prog 107 #[.string s4, .int .u8 110] w7 fun e w33 => ∃ t34 : Bool, e = .returned (.bool t34) ∧ Keep [b1] w7 w33 ∧
 brB (!t34) (
 brB (a7 != 0) (
 cutD3 ref04_only_la1 ((dnF Tryz.prog ref04_only_an (code Tryz.f106) 396 [1, 0, 1, 1, 1]) (kont3 Tryz.prog ref04_only_an (code Tryz.f106) [1, 1, 1, 0] [] (post3 Tryz.prog Tryz.f106 [] R))) (ref04_only_v1 s4 true b1) (ref04_only_m1 b1 b3 b4 b2 a7 a3 b5 b6 b7 a4 a6 a5 b8 a8 a9 b0 a0 a2 a1) w33)
 (
 Calls Tryz.prog 107 #[.string s4, .int .u8 111] w33 fun e w35 => ∃ t36 : Bool, e = .returned (.bool t36) ∧ Keep [b1] w33 w35 ∧
 brB (!t36) (
 cutD3 ref04_only_la1 ((dnF Tryz.prog ref04_only_an (code Tryz.f106) 396 [1, 0, 1, 1, 1]) (kont3 Tryz.prog ref04_only_an (code Tryz.f106) [1, 1, 1, 0] [] (post3 Tryz.prog Tryz.f106 [] R))) (ref04_only_v1 s4 (a3 != 0) b1) (ref04_only_m1 b1 b3 b4 b2 a7 a3 b5 b6 b7 a4 a6 a5 b8 a8 a9 b0 a0 a2 a1) w35)
 (
 cutD3 ref04_only_la1 ((dnF Tryz.prog ref04_only_an (code Tryz.f106) 396 [1, 0, 1, 1, 1]) (kont3 Tryz.prog ref04_only_an (code Tryz.f106) [1, 1, 1, 0] [] (post3 Tryz.prog Tryz.f106 [] R))) (ref04_only_v1 s4 false b1) (ref04_only_m1 b1 b3 b4 b2 a7 a3 b5 b6 b7 a4 a6 a5 b8 a8 a9 b0 a0 a2 a1) w35)))
 (
 Calls Tryz.prog 107 #[.string s4, .int .u8 111] w33 fun e w37 => ∃ t38 : Bool, e = .returned (.bool t38) ∧ Keep [b1] w33 w37 ∧
 brB (!t38) (
 cutD3 ref04_only_la1 ((dnF Tryz.prog ref04_only_an (code Tryz.f106) 396 [1, 0, 1, 1, 1]) (kont3 Tryz.prog ref04_only_an (code Tryz.f106) [1, 1, 1, 0] [] (post3 Tryz.prog Tryz.f106 [] R))) (ref04_only_v1 s4 (a3 != 0) b1) (ref04_only_m1 b1 b3 b4 b2 a7 a3 b5 b6 b7 a4 a6 a5 b8 a8 a9 b0 a0 a2 a1) w37)
 (
 cutD3 ref04_only_la1 ((dnF Tryz.prog ref04_only_an (code Tryz.f106) 396 [1, 0, 1, 1, 1]) (kont3 Tryz.prog ref04_only_an (code Tryz.f106) [1, 1, 1, 0] [] (post3 Tryz.prog Tryz.f106 [] R))) (ref04_only_v1 s4 false b1) (ref04_only_m1 b1 b3 b4 b2 a7 a3 b5 b6 b7 a4 a6 a5 b8 a8 a9 b0 a0 a2 a1) w37)))))
 (
 brB (!t6) (
 brB (b2 != 0) (
 cutD3 ref04_only_la1 ((dnF Tryz.prog ref04_only_an (code Tryz.f106) 396 [1, 0, 1, 1, 1]) (kont3 Tryz.prog ref04_only_an (code Tryz.f106) [1, 1, 1, 0] [] (post3 Tryz.prog Tryz.f106 [] R))) (ref04_only_v1 s4 true b1) (ref04_only_m1 b1 b3 b4 b2 a7 a3 b5 b6 b7 a4 a6 a5 b8 a8 a9 b0 a0 a2 a1) w7)
 (
 Calls Tryz.prog 107 #[.string s4, .int .u8 110] w7 fun e w39 => ∃ t40 : Bool, e = .returned (.bool t40) ∧ Keep [b1] w7 w39 ∧
 brB (!t40) (
 brB (a7 != 0) (
 cutD3 ref04_only_la1 ((dnF Tryz.prog ref04_only_an (code Tryz.f106) 396 [1, 0, 1, 1, 1]) (kont3 Tryz.prog ref04_only_an (code Tryz.f106) [1, 1, 1, 0] [] (post3 Tryz.prog Tryz.f106 [] R))) (ref04_only_v1 s4 true b1) (ref04_only_m1 b1 b3 b4 b2 a7 a3 b5 b6 b7 a4 a6 a5 b8 a8 a9 b0 a0 a2 a1) w39)
 (
 Calls Tryz.prog 107 #[.string s4, .int .u8 111] w39 fun e w41 => ∃ t42 : Bool, e = .returned (.bool t42) ∧ Keep [b1] w39 w41 ∧
 brB (!t42) (
 cutD3 ref04_only_la1 ((dnF Tryz.prog ref04_only_an (code Tryz.f106) 396 [1, 0, 1, 1, 1]) (kont3 Tryz.prog ref04_only_an (code Tryz.f106) [1, 1, 1, 0] [] (post3 Tryz.prog Tryz.f106 [] R))) (ref04_only_v1 s4 (a3 != 0) b1) (ref04_only_m1 b1 b3 b4 b2 a7 a3 b5 b6 b7 a4 a6 a5 b8 a8 a9 b0 a0 a2 a1) w41)
 (
 cutD3 ref04_only_la1 ((dnF Tryz.prog ref04_only_an (code Tryz.f106) 396 [1, 0, 1, 1, 1]) (kont3 Tryz.prog ref04_only_an (code Tryz.f106) [1, 1, 1, 0] [] (post3 Tryz.prog Tryz.f106 [] R))) (ref04_only_v1 s4 false b1) (ref04_only_m1 b1 b3 b4 b2 a7 a3 b5 b6 b7 a4 a6 a5 b8 a8 a9 b0 a0 a2 a1) w41)))
 (
 Calls Tryz.prog 107 #[.string s4, .int .u8 111] w39 fun e w43 => ∃ t44 : Bool, e = .returned (.bool t44) ∧ Keep [b1] w39 w43 ∧
 brB (!t44) (
 cutD3 ref04_only_la1 ((dnF Tryz.prog ref04_only_an (code Tryz.f106) 396 [1, 0, 1, 1, 1]) (kont3 Tryz.prog ref04_only_an (code Tryz.f106) [1, 1, 1, 0] [] (post3 Tryz.prog Tryz.f106 [] R))) (ref04_only_v1 s4 (a3 != 0) b1) (ref04_only_m1 b1 b3 b4 b2 a7 a3 b5 b6 b7 a4 a6 a5 b8 a8 a9 b0 a0 a2 a1) w43)
 (
 cutD3 ref04_only_la1 ((dnF Tryz.prog ref04_only_an (code Tryz.f106) 396 [1, 0, 1, 1, 1]) (kont3 Tryz.prog ref04_only_an (code Tryz.f106) [1, 1, 1, 0] [] (post3 Tryz.prog Tryz.f106 [] R))) (ref04_only_v1 s4 false b1) (ref04_only_m1 b1 b3 b4 b2 a7 a3 b5 b6 b7 a4 a6 a5 b8 a8 a9 b0 a0 a2 a1) w43))))
 (
 Calls Tryz.prog 107 #[.string s4, .int .u8 110] w7 fun e w45 => ∃ t46 : Bool, e = .returned (.bool t46) ∧ Keep [b1] w7 w45 ∧
 brB (!t46) (
 brB (a7 != 0) (
 cutD3 ref04_only_la1 ((dnF Tryz.prog ref04_only_an (code Tryz.f106) 396 [1, 0, 1, 1, 1]) (kont3 Tryz.prog ref04_only_an (code Tryz.f106) [1, 1, 1, 0] [] (post3 Tryz.prog Tryz.f106 [] R))) (ref04_only_v1 s4 true b1) (ref04_only_m1 b1 b3 b4 b2 a7 a3 b5 b6 b7 a4 a6 a5 b8 a8 a9 b0 a0 a2 a1) w45)
 (
 Calls Tryz.prog 107 #[.string s4, .int .u8 111] w45 fun e w47 => ∃ t48 : Bool, e = .returned (.bool t48) ∧ Keep [b1] w45 w47 ∧
 brB (!t48) (
 cutD3 ref04_only_la1 ((dnF Tryz.prog ref04_only_an (code Tryz.f106) 396 [1, 0, 1, 1, 1]) (kont3 Tryz.prog ref04_only_an (code Tryz.f106) [1, 1, 1, 0] [] (post3 Tryz.prog Tryz.f106 [] R))) (ref04_only_v1 s4 (a3 != 0) b1) (ref04_only_m1 b1 b3 b4 b2 a7 a3 b5 b6 b7 a4 a6 a5 b8 a8 a9 b0 a0 a2 a1) w47)
 (
 cutD3 ref04_only_la1 ((dnF Tryz.prog ref04_only_an (code Tryz.f106) 396 [1, 0, 1, 1, 1]) (kont3 Tryz.prog ref04_only_an (code Tryz.f106) [1, 1, 1, 0] [] (post3 Tryz.prog Tryz.f106 [] R))) (ref04_only_v1 s4 false b1) (ref04_only_m1 b1 b3 b4 b2 a7 a3 b5 b6 b7 a4 a6 a5 b8 a8 a9 b0 a0 a2 a1) w47)))
 (
 Calls Tryz.prog 107 #[.string s4, .int .u8 111] w45 fun e w49 => ∃ t50 : Bool, e = .returned (.bool t50) ∧ Keep [b1] w45 w49 ∧
 brB (!t50) (
 cutD3 ref04_only_la1 ((dnF Tryz.prog ref04_only_an (code Tryz.f106) 396 [1, 0, 1, 1, 1]) (kont3 Tryz.prog ref04_only_an (code Tryz.f106) [1, 1, 1, 0] [] (post3 Tryz.prog Tryz.f106 [] R))) (ref04_only_v1 s4 (a3 != 0) b1) (ref04_only_m1 b1 b3 b4 b2 a7 a3 b5 b6 b7 a4 a6 a5 b8 a8 a9 b0 a0 a2 a1) w49)
 (
 cutD3 ref04_only_la1 ((dnF Tryz.prog ref04_only_an (code Tryz.f106) 396 [1, 0, 1, 1, 1]) (kont3 Tryz.prog ref04_only_an (code Tryz.f106) [1, 1, 1, 0] [] (post3 Tryz.prog Tryz.f106 [] R))) (ref04_only_v1 s4 false b1) (ref04_only_m1 b1 b3 b4 b2 a7 a3 b5 b6 b7 a4 a6 a5 b8 a8 a9 b0 a0 a2 a1) w49)))))
 (
 brB (!t6) (
 brB (b2 != 0) (
 cutD3 ref04_only_la1 ((dnF Tryz.prog ref04_only_an (code Tryz.f106) 396 [1, 0, 1, 1, 1]) (kont3 Tryz.prog ref04_only_an (code Tryz.f106) [1, 1, 1, 0] [] (post3 Tryz.prog Tryz.f106 [] R))) (ref04_only_v1 s4 true b1) (ref04_only_m1 b1 b3 b4 b2 a7 a3 b5 b6 b7 a4 a6 a5 b8 a8 a9 b0 a0 a2 a1) w7)
 (
 Calls Tryz.prog 107 #[.string s4, .int .u8 110] w7 fun e w51 => ∃ t52 : Bool, e = .returned (.bool t52) ∧ Keep [b1] w7 w51 ∧
 brB (!t52) (
 brB (a7 != 0) (
 cutD3 ref04_only_la1 ((dnF Tryz.prog ref04_only_an (code Tryz.f106) 396 [1, 0, 1, 1, 1]) (kont3 Tryz.prog ref04_only_an (code Tryz.f106) [1, 1, 1, 0] [] (post3 Tryz.prog Tryz.f106 [] R))) (ref04_only_v1 s4 true b1) (ref04_only_m1 b1 b3 b4 b2 a7 a3 b5 b6 b7 a4 a6 a5 b8 a8 a9 b0 a0 a2 a1) w51)
 (
 Calls Tryz.prog 107 #[.string s4, .int .u8 111] w51 fun e w53 => ∃ t54 : Bool, e = .returned (.bool t54) ∧ Keep [b1] w51 w53 ∧
 brB (!t54) (
 cutD3 ref04_only_la1 ((dnF Tryz.prog ref04_only_an (code Tryz.f106) 396 [1, 0, 1, 1, 1]) (kont3 Tryz.prog ref04_only_an (code Tryz.f106) [1, 1, 1, 0] [] (post3 Tryz.prog Tryz.f106 [] R))) (ref04_only_v1 s4 (a3 != 0) b1) (ref04_only_m1 b1 b3 b4 b2 a7 a3 b5 b6 b7 a4 a6 a5 b8 a8 a9 b0 a0 a2 a1) w53)
 (
 cutD3 ref04_only_la1 ((dnF Tryz.prog ref04_only_an (code Tryz.f106) 396 [1, 0, 1, 1, 1]) (kont3 Tryz.prog ref04_only_an (code Tryz.f106) [1, 1, 1, 0] [] (post3 Tryz.prog Tryz.f106 [] R))) (ref04_only_v1 s4 false b1) (ref04_only_m1 b1 b3 b4 b2 a7 a3 b5 b6 b7 a4 a6 a5 b8 a8 a9 b0 a0 a2 a1) w53)))
 (
 Calls Tryz.prog 107 #[.string s4, .int .u8 111] w51 fun e w55 => ∃ t56 : Bool, e = .returned (.bool t56) ∧ Keep [b1] w51 w55 ∧
 brB (!t56) (
 cutD3 ref04_only_la1 ((dnF Tryz.prog ref04_only_an (code Tryz.f106) 396 [1, 0, 1, 1, 1]) (kont3 Tryz.prog ref04_only_an (code Tryz.f106) [1, 1, 1, 0] [] (post3 Tryz.prog Tryz.f106 [] R))) (ref04_only_v1 s4 (a3 != 0) b1) (ref04_only_m1 b1 b3 b4 b2 a7 a3 b5 b6 b7 a4 a6 a5 b8 a8 a9 b0 a0 a2 a1) w55)
 (
 cutD3 ref04_only_la1 ((dnF Tryz.prog ref04_only_an (code Tryz.f106) 396 [1, 0, 1, 1, 1]) (kont3 Tryz.prog ref04_only_an (code Tryz.f106) [1, 1, 1, 0] [] (post3 Tryz.prog Tryz.f106 [] R))) (ref04_only_v1 s4 false b1) (ref04_only_m1 b1 b3 b4 b2 a7 a3 b5 b6 b7 a4 a6 a5 b8 a8 a9 b0 a0 a2 a1) w55))))
 (
 Calls Tryz.prog 107 #[.string s4, .int .u8 110] w7 fun e w57 => ∃ t58 : Bool, e = .returned (.bool t58) ∧ Keep [b1] w7 w57 ∧
 brB (!t58) (
 brB (a7 != 0) (
 cutD3 ref04_only_la1 ((dnF Tryz.prog ref04_only_an (code Tryz.f106) 396 [1, 0, 1, 1, 1]) (kont3 Tryz.prog ref04_only_an (code Tryz.f106) [1, 1, 1, 0] [] (post3 Tryz.prog Tryz.f106 [] R))) (ref04_only_v1 s4 true b1) (ref04_only_m1 b1 b3 b4 b2 a7 a3 b5 b6 b7 a4 a6 a5 b8 a8 a9 b0 a0 a2 a1) w57)
 (
 Calls Tryz.prog 107 #[.string s4, .int .u8 111] w57 fun e w59 => ∃ t60 : Bool, e = .returned (.bool t60) ∧ Keep [b1] w57 w59 ∧
 brB (!t60) (
 cutD3 ref04_only_la1 ((dnF Tryz.prog ref04_only_an (code Tryz.f106) 396 [1, 0, 1, 1, 1]) (kont3 Tryz.prog ref04_only_an (code Tryz.f106) [1, 1, 1, 0] [] (post3 Tryz.prog Tryz.f106 [] R))) (ref04_only_v1 s4 (a3 != 0) b1) (ref04_only_m1 b1 b3 b4 b2 a7 a3 b5 b6 b7 a4 a6 a5 b8 a8 a9 b0 a0 a2 a1) w59)
 (
 cutD3 ref04_only_la1 ((dnF Tryz.prog ref04_only_an (code Tryz.f106) 396 [1, 0, 1, 1, 1]) (kont3 Tryz.prog ref04_only_an (code Tryz.f106) [1, 1, 1, 0] [] (post3 Tryz.prog Tryz.f106 [] R))) (ref04_only_v1 s4 false b1) (ref04_only_m1 b1 b3 b4 b2 a7 a3 b5 b6 b7 a4 a6 a5 b8 a8 a9 b0 a0 a2 a1) w59)))
 (
 Calls Tryz.prog 107 #[.string s4, .int .u8 111] w57 fun e w61 => ∃ t62 : Bool, e = .returned (.bool t62) ∧ Keep [b1] w57 w61 ∧
 brB (!t62) (
 cutD3 ref04_only_la1 ((dnF Tryz.prog ref04_only_an (code Tryz.f106) 396 [1, 0, 1, 1, 1]) (kont3 Tryz.prog ref04_only_an (code Tryz.f106) [1, 1, 1, 0] [] (post3 Tryz.prog Tryz.f106 [] R))) (ref04_only_v1 s4 (a3 != 0) b1) (ref04_only_m1 b1 b3 b4 b2 a7 a3 b5 b6 b7 a4 a6 a5 b8 a8 a9 b0 a0 a2 a1) w61)
 (
 cutD3 ref04_only_la1 ((dnF Tryz.prog ref04_only_an (code Tryz.f106) 396 [1, 0, 1, 1, 1]) (kont3 Tryz.prog ref04_only_an (code Tryz.f106) [1, 1, 1, 0] [] (post3 Tryz.prog Tryz.f106 [] R))) (ref04_only_v1 s4 false b1) (ref04_only_m1 b1 b3 b4 b2 a7 a3 b5 b6 b7 a4 a6 a5 b8 a8 a9 b0 a0 a2 a1) w61))))
theorem ref04_only_eq (a9 : Int) (b0 : ByteArray) (b1 b2 b3 b4 b5 b6 : Int) (a3 : Option Addr) (a5 a4 : Nat) (b7 a6 : ByteArray) (a7 : Int) (a8 : Bool) (a0 : Option Addr) (a2 a1 : Nat) (R : Value → World → Prop) (w : World) :
 dnF Tryz.prog ref04_only_an (code Tryz.f106) 400 [] (post3 Tryz.prog Tryz.f106 [] R) ⟨args0 0 [(.agg #[.int .i64 a9, .string b0, .int .i64 b1, .int .i64 b2, .int .i64 b3, .int .i64 b4, .int .i64 b5, .int .i64 b6, .slice a3 a5 a4, .string b7, .string a6, .int .i64 a7, .bool a8, .slice a0 a2 a1])], fun _ => undef⟩ ⟨[], w, [], [], true⟩ = ref04_only_T a9 b0 b1 b2 b3 b4 b5 b6 a3 a5 a4 b7 a6 a7 a8 a0 a2 a1 R w := by kernel_rfl
theorem ref04_only_go {a9 : Int} {b0 : ByteArray} {b1 b2 b3 b4 b5 b6 : Int} {a3 : Option Addr} {a5 a4 : Nat} {b7 a6 : ByteArray} {a7 : Int} {a8 : Bool} {a0 : Option Addr} {a2 a1 : Nat} {R : Value → World → Prop} {w : World} (h : ref04_only_T a9 b0 b1 b2 b3 b4 b5 b6 a3 a5 a4 b7 a6 a7 a8 a0 a2 a1 R w) :
 Calls Tryz.prog 106 #[(.agg #[.int .i64 a9, .string b0, .int .i64 b1, .int .i64 b2, .int .i64 b3, .int .i64 b4, .int .i64 b5, .int .i64 b6, .slice a3 a5 a4, .string b7, .string a6, .int .i64 a7, .bool a8, .slice a0 a2 a1])] w fun e w' => ∃ v, e = .returned v ∧ R v w' :=
 calls_none Tryz.wide_mixed (f := 106) (args := [(.agg #[.int .i64 a9, .string b0, .int .i64 b1, .int .i64 b2, .int .i64 b3, .int .i64 b4, .int .i64 b5, .int .i64 b6, .slice a3 a5 a4, .string b7, .string a6, .int .i64 a7, .bool a8, .slice a0 a2 a1])]) Tryz.func106 rfl rfl (by kernel_rfl) rfl (Eq.mpr (ref04_only_eq a9 b0 b1 b2 b3 b4 b5 b6 a3 a5 a4 b7 a6 a7 a8 a0 a2 a1 R w) h)
def ref04_Check_la1 : LA := ⟨[1, 1, 1, 1], [1], [(1, 0, 0)], 1, []⟩
def ref04_Check_an : List LA := [ref04_Check_la1]
def ref04_Check_v1 (bm0 : Nat) : List Value := [(.pointer (some ⟨bm0, 0, none⟩))]
def ref04_Check_m1 (bm0 : Nat) (b1 : Int) (a9 : ByteArray) (b2 b3 b4 b5 b6 b7 : Int) (a6 : Option Addr) (a8 a7 : Nat) (b0 a3 : ByteArray) (a5 : Int) (a4 : Bool) (a0 : Option Addr) (a2 a1 : Nat) : List TB := [⟨bm0, 38, [.int .i64 b1, .string a9, .int .i64 b2, .int .i64 b3, .int .i64 b4, .int .i64 b5, .int .i64 b6, .int .i64 b7, .slice a6 a8 a7, .string b0, .string a3, .int .i64 a5, .bool a4, .slice a0 a2 a1], false⟩]
def ref04_Check_C1 (bm0 : Nat) (a4 : Int) (b6 : ByteArray) (a5 a6 a7 a8 a9 b0 : Int) (a1 : Option Addr) (a3 a2 : Nat) (b7 b4 : ByteArray) (a0 : Int) (b5 : Bool) (b1 : Option Addr) (b3 b2 : Nat) (R : Value → World → Prop) (w : World) : Prop :=
 Calls Tryz.prog 110 #[.int .i64 a5] w fun e w25 => ∃ t26 : Bool, e = .returned (.bool t26) ∧ Keep [bm0] w w25 ∧
 brB (!t26) (
 R (.int .i64 1) w25)
 (
 Calls Tryz.prog 110 #[.int .i64 a6] w25 fun e w27 => ∃ t28 : Bool, e = .returned (.bool t28) ∧ Keep [bm0] w25 w27 ∧
 brB (!t28) (
 R (.int .i64 1) w27)
 (
 Calls Tryz.prog 110 #[.int .i64 a7] w27 fun e w29 => ∃ t30 : Bool, e = .returned (.bool t30) ∧ Keep [bm0] w27 w29 ∧
 brB (!t30) (
 R (.int .i64 1) w29)
 (
 Calls Tryz.prog 110 #[.int .i64 a0] w29 fun e w31 => ∃ t32 : Bool, e = .returned (.bool t32) ∧ Keep [bm0] w29 w31 ∧
 brB (!t32) (
 R (.int .i64 1) w31)
 (
 brB (a4 == 2) (
 Calls Tryz.prog 111 #[(.agg #[.int .i64 a8, .int .i64 a9, .int .i64 b0, .slice a1 a3 a2])] w31 fun e w33 => ∃ x34 : Int, e = .returned (.int .i64 x34) ∧ Keep [bm0] w31 w33 ∧
 R (.int .i64 x34) w33)
 (
 R (.int .i64 0) w31)))))
theorem ref04_Check_C1_eq (bm0 : Nat) (b1 : Int) (a9 : ByteArray) (b2 b3 b4 b5 b6 b7 : Int) (a6 : Option Addr) (a8 a7 : Nat) (b0 a3 : ByteArray) (a5 : Int) (a4 : Bool) (a0 : Option Addr) (a2 a1 : Nat) (js : Nat → Value) (R : Value → World → Prop) (w : World) :
 headA ref04_Check_la1 ((dnF Tryz.prog ref04_Check_an (code Tryz.f63) 396 [1, 1, 1, 1]) (kont3 Tryz.prog ref04_Check_an (code Tryz.f63) [1, 1, 1] [] (post3 Tryz.prog Tryz.f63 [] R))) (ref04_Check_v1 bm0) js (ref04_Check_m1 bm0 b1 a9 b2 b3 b4 b5 b6 b7 a6 a8 a7 b0 a3 a5 a4 a0 a2 a1) w = ref04_Check_C1 bm0 b1 a9 b2 b3 b4 b5 b6 b7 a6 a8 a7 b0 a3 a5 a4 a0 a2 a1 R w := by kernel_rfl
theorem ref04_Check_cut1 {bm00 : Nat} {c8 : Int} {a0 : ByteArray} {c9 d0 d1 d2 d3 d4 : Int} {c4 : Option Addr} {c6 c5 : Nat} {c7 c1 : ByteArray} {c3 : Int} {c2 : Bool} {b8 : Option Addr} {c0 b9 : Nat} {R : Value → World → Prop} {w0 : World} (J : Nat → Int → ByteArray → Int → Int → Int → Int → Int → Int → Option Addr → Nat → Nat → ByteArray → ByteArray → Int → Bool → Option Addr → Nat → Nat → World → Prop) (h0 : J bm00 c8 a0 c9 d0 d1 d2 d3 d4 c4 c6 c5 c7 c1 c3 c2 b8 c0 b9 w0)
 (hr : ∀ (bm0 : Nat) (b1 : Int) (a9 : ByteArray) (b2 b3 b4 b5 b6 b7 : Int) (a6 : Option Addr) (a8 a7 : Nat) (b0 a0 : ByteArray) (a5 : Int) (a4 : Bool) (a1 : Option Addr) (a3 a2 : Nat) (w : World), J bm0 b1 a9 b2 b3 b4 b5 b6 b7 a6 a8 a7 b0 a0 a5 a4 a1 a3 a2 w → ref04_Check_C1 bm0 b1 a9 b2 b3 b4 b5 b6 b7 a6 a8 a7 b0 a0 a5 a4 a1 a3 a2 R w) :
 cutD3 ref04_Check_la1 ((dnF Tryz.prog ref04_Check_an (code Tryz.f63) 396 [1, 1, 1, 1]) (kont3 Tryz.prog ref04_Check_an (code Tryz.f63) [1, 1, 1] [] (post3 Tryz.prog Tryz.f63 [] R))) (ref04_Check_v1 bm00) (ref04_Check_m1 bm00 c8 a0 c9 d0 d1 d2 d3 d4 c4 c6 c5 c7 c1 c3 c2 b8 c0 b9) w0 := by
 refine ⟨fun vals mem w => ∃ bm0 b1 a9 b2 b3 b4 b5 b6 b7 a6 a8 a7 b0 a0 a5 a4 a1 a3 a2, vals = (ref04_Check_v1 bm0) ∧ mem = (ref04_Check_m1 bm0 b1 a9 b2 b3 b4 b5 b6 b7 a6 a8 a7 b0 a0 a5 a4 a1 a3 a2) ∧ J bm0 b1 a9 b2 b3 b4 b5 b6 b7 a6 a8 a7 b0 a0 a5 a4 a1 a3 a2 w, ⟨_, _, _, _, _, _, _, _, _, _, _, _, _, _, _, _, _, _, _, rfl, rfl, h0⟩, ?_⟩
 rintro vals mem w ⟨bm0, b1, a9, b2, b3, b4, b5, b6, b7, a6, a8, a7, b0, a0, a5, a4, a1, a3, a2, rfl, rfl, hJ⟩
 refine ⟨rfl, rfl, fun js => ?_⟩
 have h := hr bm0 b1 a9 b2 b3 b4 b5 b6 b7 a6 a8 a7 b0 a0 a5 a4 a1 a3 a2 w hJ
 rw [← ref04_Check_C1_eq _ _ _ _ _ _ _ _ _ _ _ _ _ _ _ _ _ _ _ js] at h
 exact h
theorem ref04_Check_at1 {bm0 : Nat} {b6 : Int} {b2 : ByteArray} {b8 b9 c0 c1 c2 c3 : Int} {a7 : Option Addr} {b1 a9 : Nat} {b4 a3 : ByteArray} {a5 : Int} {a4 : Bool} {a0 : Option Addr} {a2 a1 : Nat} {R : Value → World → Prop} {w : World} (h : ref04_Check_C1 bm0 b6 b2 b8 b9 c0 c1 c2 c3 a7 b1 a9 b4 a3 a5 a4 a0 a2 a1 R w) :
 cutD3 ref04_Check_la1 ((dnF Tryz.prog ref04_Check_an (code Tryz.f63) 396 [1, 1, 1, 1]) (kont3 Tryz.prog ref04_Check_an (code Tryz.f63) [1, 1, 1] [] (post3 Tryz.prog Tryz.f63 [] R))) (ref04_Check_v1 bm0) (ref04_Check_m1 bm0 b6 b2 b8 b9 c0 c1 c2 c3 a7 b1 a9 b4 a3 a5 a4 a0 a2 a1) w :=
 ref04_Check_cut1 (fun bm0' c9 c7 d0 d1 d2 d3 d4 d5 c4 c6 c5 c8 b3 b7 b5 a6 b0 a8 w' => bm0' = bm0 ∧ c9 = b6 ∧ c7 = b2 ∧ d0 = b8 ∧ d1 = b9 ∧ d2 = c0 ∧ d3 = c1 ∧ d4 = c2 ∧ d5 = c3 ∧ c4 = a7 ∧ c6 = b1 ∧ c5 = a9 ∧ c8 = b4 ∧ b3 = a3 ∧ b7 = a5 ∧ b5 = a4 ∧ a6 = a0 ∧ b0 = a2 ∧ a8 = a1 ∧ w' = w) ⟨rfl, rfl, rfl, rfl, rfl, rfl, rfl, rfl, rfl, rfl, rfl, rfl, rfl, rfl, rfl, rfl, rfl, rfl, rfl, rfl⟩ (by rintro bm0' c9 c7 d0 d1 d2 d3 d4 d5 c4 c6 c5 c8 b3 b7 b5 a6 b0 a8 w' ⟨rfl, rfl, rfl, rfl, rfl, rfl, rfl, rfl, rfl, rfl, rfl, rfl, rfl, rfl, rfl, rfl, rfl, rfl, rfl, rfl⟩; exact h)
def ref04_Check_T (a9 : Int) (b2 : ByteArray) (b3 b4 b5 b6 b7 b8 : Int) (a4 : Option Addr) (a6 a5 : Nat) (b0 a3 : ByteArray) (a7 : Int) (a8 : Bool) (a0 : Option Addr) (a2 a1 : Nat) (R : Value → World → Prop) (w : World) : Prop :=
 ∀ b1, w.heap.size ≤ b1 →
 brB (decide (a9 < 0)) (
 ∀ w2, Adv [] [b1] w w2 →
 R (.int .i64 41) w2)
 (
 brB (decide (a9 > 12)) (
 ∀ w3, Adv [] [b1] w w3 →
 R (.int .i64 41) w3)
 (
 ∀ w4, Adv [] [b1] w w4 →
 Calls Tryz.prog 105 #[.int .i64 a9] w4 fun e w5 => ∃ s6 : ByteArray, e = .returned (.string s6) ∧ Keep [b1] w4 w5 ∧
 Calls Tryz.prog 106 #[(.agg #[.int .i64 a9, .string b2, .int .i64 b3, .int .i64 b4, .int .i64 b5, .int .i64 b6, .int .i64 b7, .int .i64 b8, .slice a4 a6 a5, .string b0, .string a3, .int .i64 a7, .bool a8, .slice a0 a2 a1])] w5 fun e w7 => ∃ t8 : Bool, e = .returned (.bool t8) ∧ Keep [b1] w5 w7 ∧
 brB (!t8) (
 R (.int .i64 40) w7)
 (
 Calls Tryz.prog 107 #[.string s6, .int .u8 112] w7 fun e w9 => ∃ t10 : Bool, e = .returned (.bool t10) ∧ Keep [b1] w7 w9 ∧
 brB t10 (
 Calls Tryz.prog 108 #[.string b2] w9 fun e w11 => ∃ t12 : Bool, e = .returned (.bool t12) ∧ Keep [b1] w9 w11 ∧
 brB (!t12) (
 R (.int .i64 40) w11)
 (
 Calls Tryz.prog 107 #[.string s6, .int .u8 103] w11 fun e w13 => ∃ t14 : Bool, e = .returned (.bool t14) ∧ Keep [b1] w11 w13 ∧
 brB t14 (
 Calls Tryz.prog 108 #[.string b0] w13 fun e w15 => ∃ t16 : Bool, e = .returned (.bool t16) ∧ Keep [b1] w13 w15 ∧
 brB (!t16) (
 R (.int .i64 40) w15)
 (
 Calls Tryz.prog 107 #[.string s6, .int .u8 109] w15 fun e w17 => ∃ t18 : Bool, e = .returned (.bool t18) ∧ Keep [b1] w15 w17 ∧
 brB t18 (
 Calls Tryz.prog 108 #[.string a3] w17 fun e w19 => ∃ t20 : Bool, e = .returned (.bool t20) ∧ Keep [b1] w17 w19 ∧
 brB (!t20) (
 R (.int .i64 40) w19)
 (
 Calls Tryz.prog 107 #[.string s6, .int .u8 108] w19 fun e w21 => ∃ t22 : Bool, e = .returned (.bool t22) ∧ Keep [b1] w19 w21 ∧
 brB t22 (
 Calls Tryz.prog 109 #[.slice a0 a2 a1] w21 fun e w23 => ∃ t24 : Bool, e = .returned (.bool t24) ∧ Keep [b1] w21 w23 ∧
 brB (!t24) (
 R (.int .i64 40) w23)
 (
 cutD3 ref04_Check_la1 ((dnF Tryz.prog ref04_Check_an (code Tryz.f63) 396 [1, 1, 1, 1]) (kont3 Tryz.prog ref04_Check_an (code Tryz.f63) [1, 1, 1] [] (post3 Tryz.prog Tryz.f63 [] R))) (ref04_Check_v1 b1) (ref04_Check_m1 b1 a9 b2 b3 b4 b5 b6 b7 b8 a4 a6 a5 b0 a3 a7 a8 a0 a2 a1) w23))
 (
 cutD3 ref04_Check_la1 ((dnF Tryz.prog ref04_Check_an (code Tryz.f63) 396 [1, 1, 1, 1]) (kont3 Tryz.prog ref04_Check_an (code Tryz.f63) [1, 1, 1] [] (post3 Tryz.prog Tryz.f63 [] R))) (ref04_Check_v1 b1) (ref04_Check_m1 b1 a9 b2 b3 b4 b5 b6 b7 b8 a4 a6 a5 b0 a3 a7 a8 a0 a2 a1) w21)))
 (
 Calls Tryz.prog 107 #[.string s6, .int .u8 108] w17 fun e w35 => ∃ t36 : Bool, e = .returned (.bool t36) ∧ Keep [b1] w17 w35 ∧
 brB t36 (
 Calls Tryz.prog 109 #[.slice a0 a2 a1] w35 fun e w37 => ∃ t38 : Bool, e = .returned (.bool t38) ∧ Keep [b1] w35 w37 ∧
 brB (!t38) (
 R (.int .i64 40) w37)
 (
 cutD3 ref04_Check_la1 ((dnF Tryz.prog ref04_Check_an (code Tryz.f63) 396 [1, 1, 1, 1]) (kont3 Tryz.prog ref04_Check_an (code Tryz.f63) [1, 1, 1] [] (post3 Tryz.prog Tryz.f63 [] R))) (ref04_Check_v1 b1) (ref04_Check_m1 b1 a9 b2 b3 b4 b5 b6 b7 b8 a4 a6 a5 b0 a3 a7 a8 a0 a2 a1) w37))
 (
 cutD3 ref04_Check_la1 ((dnF Tryz.prog ref04_Check_an (code Tryz.f63) 396 [1, 1, 1, 1]) (kont3 Tryz.prog ref04_Check_an (code Tryz.f63) [1, 1, 1] [] (post3 Tryz.prog Tryz.f63 [] R))) (ref04_Check_v1 b1) (ref04_Check_m1 b1 a9 b2 b3 b4 b5 b6 b7 b8 a4 a6 a5 b0 a3 a7 a8 a0 a2 a1) w35))))
 (
 Calls Tryz.prog 107 #[.string s6, .int .u8 109] w13 fun e w39 => ∃ t40 : Bool, e = .returned (.bool t40) ∧ Keep [b1] w13 w39 ∧
 brB t40 (
 Calls Tryz.prog 108 #[.string a3] w39 fun e w41 => ∃ t42 : Bool, e = .returned (.bool t42) ∧ Keep [b1] w39 w41 ∧
 brB (!t42) (
 R (.int .i64 40) w41)
 (
 Calls Tryz.prog 107 #[.string s6, .int .u8 108] w41 fun e w43 => ∃ t44 : Bool, e = .returned (.bool t44) ∧ Keep [b1] w41 w43 ∧
 brB t44 (
 Calls Tryz.prog 109 #[.slice a0 a2 a1] w43 fun e w45 => ∃ t46 : Bool, e = .returned (.bool t46) ∧ Keep [b1] w43 w45 ∧
 brB (!t46) (
 R (.int .i64 40) w45)
 (
 cutD3 ref04_Check_la1 ((dnF Tryz.prog ref04_Check_an (code Tryz.f63) 396 [1, 1, 1, 1]) (kont3 Tryz.prog ref04_Check_an (code Tryz.f63) [1, 1, 1] [] (post3 Tryz.prog Tryz.f63 [] R))) (ref04_Check_v1 b1) (ref04_Check_m1 b1 a9 b2 b3 b4 b5 b6 b7 b8 a4 a6 a5 b0 a3 a7 a8 a0 a2 a1) w45))
 (
 cutD3 ref04_Check_la1 ((dnF Tryz.prog ref04_Check_an (code Tryz.f63) 396 [1, 1, 1, 1]) (kont3 Tryz.prog ref04_Check_an (code Tryz.f63) [1, 1, 1] [] (post3 Tryz.prog Tryz.f63 [] R))) (ref04_Check_v1 b1) (ref04_Check_m1 b1 a9 b2 b3 b4 b5 b6 b7 b8 a4 a6 a5 b0 a3 a7 a8 a0 a2 a1) w43)))
 (
 Calls Tryz.prog 107 #[.string s6, .int .u8 108] w39 fun e w47 => ∃ t48 : Bool, e = .returned (.bool t48) ∧ Keep [b1] w39 w47 ∧
 brB t48 (
 Calls Tryz.prog 109 #[.slice a0 a2 a1] w47 fun e w49 => ∃ t50 : Bool, e = .returned (.bool t50) ∧ Keep [b1] w47 w49 ∧
 brB (!t50) (
 R (.int .i64 40) w49)
 (
 cutD3 ref04_Check_la1 ((dnF Tryz.prog ref04_Check_an (code Tryz.f63) 396 [1, 1, 1, 1]) (kont3 Tryz.prog ref04_Check_an (code Tryz.f63) [1, 1, 1] [] (post3 Tryz.prog Tryz.f63 [] R))) (ref04_Check_v1 b1) (ref04_Check_m1 b1 a9 b2 b3 b4 b5 b6 b7 b8 a4 a6 a5 b0 a3 a7 a8 a0 a2 a1) w49))
 (
 cutD3 ref04_Check_la1 ((dnF Tryz.prog ref04_Check_an (code Tryz.f63) 396 [1, 1, 1, 1]) (kont3 Tryz.prog ref04_Check_an (code Tryz.f63) [1, 1, 1] [] (post3 Tryz.prog Tryz.f63 [] R))) (ref04_Check_v1 b1) (ref04_Check_m1 b1 a9 b2 b3 b4 b5 b6 b7 b8 a4 a6 a5 b0 a3 a7 a8 a0 a2 a1) w47)))))
 (
 Calls Tryz.prog 107 #[.string s6, .int .u8 116] w9 fun e w51 => ∃ t52 : Bool, e = .returned (.bool t52) ∧ Keep [b1] w9 w51 ∧
 brB t52 (
 Calls Tryz.prog 108 #[.string b2] w51 fun e w53 => ∃ t54 : Bool, e = .returned (.bool t54) ∧ Keep [b1] w51 w53 ∧
 brB (!t54) (
 R (.int .i64 40) w53)
 (
 Calls Tryz.prog 107 #[.string s6, .int .u8 103] w53 fun e w55 => ∃ t56 : Bool, e = .returned (.bool t56) ∧ Keep [b1] w53 w55 ∧
 brB t56 (
 Calls Tryz.prog 108 #[.string b0] w55 fun e w57 => ∃ t58 : Bool, e = .returned (.bool t58) ∧ Keep [b1] w55 w57 ∧
 brB (!t58) (
 R (.int .i64 40) w57)
 (
 Calls Tryz.prog 107 #[.string s6, .int .u8 109] w57 fun e w59 => ∃ t60 : Bool, e = .returned (.bool t60) ∧ Keep [b1] w57 w59 ∧
 brB t60 (
 Calls Tryz.prog 108 #[.string a3] w59 fun e w61 => ∃ t62 : Bool, e = .returned (.bool t62) ∧ Keep [b1] w59 w61 ∧
 brB (!t62) (
 R (.int .i64 40) w61)
 (
 Calls Tryz.prog 107 #[.string s6, .int .u8 108] w61 fun e w63 => ∃ t64 : Bool, e = .returned (.bool t64) ∧ Keep [b1] w61 w63 ∧
 brB t64 (
 Calls Tryz.prog 109 #[.slice a0 a2 a1] w63 fun e w65 => ∃ t66 : Bool, e = .returned (.bool t66) ∧ Keep [b1] w63 w65 ∧
 brB (!t66) (
 R (.int .i64 40) w65)
 (
 cutD3 ref04_Check_la1 ((dnF Tryz.prog ref04_Check_an (code Tryz.f63) 396 [1, 1, 1, 1]) (kont3 Tryz.prog ref04_Check_an (code Tryz.f63) [1, 1, 1] [] (post3 Tryz.prog Tryz.f63 [] R))) (ref04_Check_v1 b1) (ref04_Check_m1 b1 a9 b2 b3 b4 b5 b6 b7 b8 a4 a6 a5 b0 a3 a7 a8 a0 a2 a1) w65))
 (
 cutD3 ref04_Check_la1 ((dnF Tryz.prog ref04_Check_an (code Tryz.f63) 396 [1, 1, 1, 1]) (kont3 Tryz.prog ref04_Check_an (code Tryz.f63) [1, 1, 1] [] (post3 Tryz.prog Tryz.f63 [] R))) (ref04_Check_v1 b1) (ref04_Check_m1 b1 a9 b2 b3 b4 b5 b6 b7 b8 a4 a6 a5 b0 a3 a7 a8 a0 a2 a1) w63)))
 (
 Calls Tryz.prog 107 #[.string s6, .int .u8 108] w59 fun e w67 => ∃ t68 : Bool, e = .returned (.bool t68) ∧ Keep [b1] w59 w67 ∧
 brB t68 (
 Calls Tryz.prog 109 #[.slice a0 a2 a1] w67 fun e w69 => ∃ t70 : Bool, e = .returned (.bool t70) ∧ Keep [b1] w67 w69 ∧
 brB (!t70) (
 R (.int .i64 40) w69)
 (
 cutD3 ref04_Check_la1 ((dnF Tryz.prog ref04_Check_an (code Tryz.f63) 396 [1, 1, 1, 1]) (kont3 Tryz.prog ref04_Check_an (code Tryz.f63) [1, 1, 1] [] (post3 Tryz.prog Tryz.f63 [] R))) (ref04_Check_v1 b1) (ref04_Check_m1 b1 a9 b2 b3 b4 b5 b6 b7 b8 a4 a6 a5 b0 a3 a7 a8 a0 a2 a1) w69))
 (
 cutD3 ref04_Check_la1 ((dnF Tryz.prog ref04_Check_an (code Tryz.f63) 396 [1, 1, 1, 1]) (kont3 Tryz.prog ref04_Check_an (code Tryz.f63) [1, 1, 1] [] (post3 Tryz.prog Tryz.f63 [] R))) (ref04_Check_v1 b1) (ref04_Check_m1 b1 a9 b2 b3 b4 b5 b6 b7 b8 a4 a6 a5 b0 a3 a7 a8 a0 a2 a1) w67))))
 (
 Calls Tryz.prog 107 #[.string s6, .int .u8 109] w55 fun e w71 => ∃ t72 : Bool, e = .returned (.bool t72) ∧ Keep [b1] w55 w71 ∧
 brB t72 (
 Calls Tryz.prog 108 #[.string a3] w71 fun e w73 => ∃ t74 : Bool, e = .returned (.bool t74) ∧ Keep [b1] w71 w73 ∧
 brB (!t74) (
 R (.int .i64 40) w73)
 (
 Calls Tryz.prog 107 #[.string s6, .int .u8 108] w73 fun e w75 => ∃ t76 : Bool, e = .returned (.bool t76) ∧ Keep [b1] w73 w75 ∧
 brB t76 (
 Calls Tryz.prog 109 #[.slice a0 a2 a1] w75 fun e w77 => ∃ t78 : Bool, e = .returned (.bool t78) ∧ Keep [b1] w75 w77 ∧
 brB (!t78) (
 R (.int .i64 40) w77)
 (
 cutD3 ref04_Check_la1 ((dnF Tryz.prog ref04_Check_an (code Tryz.f63) 396 [1, 1, 1, 1]) (kont3 Tryz.prog ref04_Check_an (code Tryz.f63) [1, 1, 1] [] (post3 Tryz.prog Tryz.f63 [] R))) (ref04_Check_v1 b1) (ref04_Check_m1 b1 a9 b2 b3 b4 b5 b6 b7 b8 a4 a6 a5 b0 a3 a7 a8 a0 a2 a1) w77))
 (
 cutD3 ref04_Check_la1 ((dnF Tryz.prog ref04_Check_an (code Tryz.f63) 396 [1, 1, 1, 1]) (kont3 Tryz.prog ref04_Check_an (code Tryz.f63) [1, 1, 1] [] (post3 Tryz.prog Tryz.f63 [] R))) (ref04_Check_v1 b1) (ref04_Check_m1 b1 a9 b2 b3 b4 b5 b6 b7 b8 a4 a6 a5 b0 a3 a7 a8 a0 a2 a1) w75)))
 (
 Calls Tryz.prog 107 #[.string s6, .int .u8 108] w71 fun e w79 => ∃ t80 : Bool, e = .returned (.bool t80) ∧ Keep [b1] w71 w79 ∧
 brB t80 (
 Calls Tryz.prog 109 #[.slice a0 a2 a1] w79 fun e w81 => ∃ t82 : Bool, e = .returned (.bool t82) ∧ Keep [b1] w79 w81 ∧
 brB (!t82) (
 R (.int .i64 40) w81)
 (
 cutD3 ref04_Check_la1 ((dnF Tryz.prog ref04_Check_an (code Tryz.f63) 396 [1, 1, 1, 1]) (kont3 Tryz.prog ref04_Check_an (code Tryz.f63) [1, 1, 1] [] (post3 Tryz.prog Tryz.f63 [] R))) (ref04_Check_v1 b1) (ref04_Check_m1 b1 a9 b2 b3 b4 b5 b6 b7 b8 a4 a6 a5 b0 a3 a7 a8 a0 a2 a1) w81))
 (
 cutD3 ref04_Check_la1 ((dnF Tryz.prog ref04_Check_an (code Tryz.f63) 396 [1, 1, 1, 1]) (kont3 Tryz.prog ref04_Check_an (code Tryz.f63) [1, 1, 1] [] (post3 Tryz.prog Tryz.f63 [] R))) (ref04_Check_v1 b1) (ref04_Check_m1 b1 a9 b2 b3 b4 b5 b6 b7 b8 a4 a6 a5 b0 a3 a7 a8 a0 a2 a1) w79)))))
 (
 Calls Tryz.prog 107 #[.string s6, .int .u8 103] w51 fun e w83 => ∃ t84 : Bool, e = .returned (.bool t84) ∧ Keep [b1] w51 w83 ∧
 brB t84 (
 Calls Tryz.prog 108 #[.string b0] w83 fun e w85 => ∃ t86 : Bool, e = .returned (.bool t86) ∧ Keep [b1] w83 w85 ∧
 brB (!t86) (
 R (.int .i64 40) w85)
 (
 Calls Tryz.prog 107 #[.string s6, .int .u8 109] w85 fun e w87 => ∃ t88 : Bool, e = .returned (.bool t88) ∧ Keep [b1] w85 w87 ∧
 brB t88 (
 Calls Tryz.prog 108 #[.string a3] w87 fun e w89 => ∃ t90 : Bool, e = .returned (.bool t90) ∧ Keep [b1] w87 w89 ∧
 brB (!t90) (
 R (.int .i64 40) w89)
 (
 Calls Tryz.prog 107 #[.string s6, .int .u8 108] w89 fun e w91 => ∃ t92 : Bool, e = .returned (.bool t92) ∧ Keep [b1] w89 w91 ∧
 brB t92 (
 Calls Tryz.prog 109 #[.slice a0 a2 a1] w91 fun e w93 => ∃ t94 : Bool, e = .returned (.bool t94) ∧ Keep [b1] w91 w93 ∧
 brB (!t94) (
 R (.int .i64 40) w93)
 (
 cutD3 ref04_Check_la1 ((dnF Tryz.prog ref04_Check_an (code Tryz.f63) 396 [1, 1, 1, 1]) (kont3 Tryz.prog ref04_Check_an (code Tryz.f63) [1, 1, 1] [] (post3 Tryz.prog Tryz.f63 [] R))) (ref04_Check_v1 b1) (ref04_Check_m1 b1 a9 b2 b3 b4 b5 b6 b7 b8 a4 a6 a5 b0 a3 a7 a8 a0 a2 a1) w93))
 (
 cutD3 ref04_Check_la1 ((dnF Tryz.prog ref04_Check_an (code Tryz.f63) 396 [1, 1, 1, 1]) (kont3 Tryz.prog ref04_Check_an (code Tryz.f63) [1, 1, 1] [] (post3 Tryz.prog Tryz.f63 [] R))) (ref04_Check_v1 b1) (ref04_Check_m1 b1 a9 b2 b3 b4 b5 b6 b7 b8 a4 a6 a5 b0 a3 a7 a8 a0 a2 a1) w91)))
 (
 Calls Tryz.prog 107 #[.string s6, .int .u8 108] w87 fun e w95 => ∃ t96 : Bool, e = .returned (.bool t96) ∧ Keep [b1] w87 w95 ∧
 brB t96 (
 Calls Tryz.prog 109 #[.slice a0 a2 a1] w95 fun e w97 => ∃ t98 : Bool, e = .returned (.bool t98) ∧ Keep [b1] w95 w97 ∧
 brB (!t98) (
 R (.int .i64 40) w97)
 (
 cutD3 ref04_Check_la1 ((dnF Tryz.prog ref04_Check_an (code Tryz.f63) 396 [1, 1, 1, 1]) (kont3 Tryz.prog ref04_Check_an (code Tryz.f63) [1, 1, 1] [] (post3 Tryz.prog Tryz.f63 [] R))) (ref04_Check_v1 b1) (ref04_Check_m1 b1 a9 b2 b3 b4 b5 b6 b7 b8 a4 a6 a5 b0 a3 a7 a8 a0 a2 a1) w97))
 (
 cutD3 ref04_Check_la1 ((dnF Tryz.prog ref04_Check_an (code Tryz.f63) 396 [1, 1, 1, 1]) (kont3 Tryz.prog ref04_Check_an (code Tryz.f63) [1, 1, 1] [] (post3 Tryz.prog Tryz.f63 [] R))) (ref04_Check_v1 b1) (ref04_Check_m1 b1 a9 b2 b3 b4 b5 b6 b7 b8 a4 a6 a5 b0 a3 a7 a8 a0 a2 a1) w95))))
 (
 Calls Tryz.prog 107 #[.string s6, .int .u8 109] w83 fun e w99 => ∃ t100 : Bool, e = .returned (.bool t100) ∧ Keep [b1] w83 w99 ∧
 brB t100 (
 Calls Tryz.prog 108 #[.string a3] w99 fun e w101 => ∃ t102 : Bool, e = .returned (.bool t102) ∧ Keep [b1] w99 w101 ∧
 brB (!t102) (
 R (.int .i64 40) w101)
 (
 Calls Tryz.prog 107 #[.string s6, .int .u8 108] w101 fun e w103 => ∃ t104 : Bool, e = .returned (.bool t104) ∧ Keep [b1] w101 w103 ∧
 brB t104 (
 Calls Tryz.prog 109 #[.slice a0 a2 a1] w103 fun e w105 => ∃ t106 : Bool, e = .returned (.bool t106) ∧ Keep [b1] w103 w105 ∧
 brB (!t106) (
 R (.int .i64 40) w105)
 (
 cutD3 ref04_Check_la1 ((dnF Tryz.prog ref04_Check_an (code Tryz.f63) 396 [1, 1, 1, 1]) (kont3 Tryz.prog ref04_Check_an (code Tryz.f63) [1, 1, 1] [] (post3 Tryz.prog Tryz.f63 [] R))) (ref04_Check_v1 b1) (ref04_Check_m1 b1 a9 b2 b3 b4 b5 b6 b7 b8 a4 a6 a5 b0 a3 a7 a8 a0 a2 a1) w105))
 (
 cutD3 ref04_Check_la1 ((dnF Tryz.prog ref04_Check_an (code Tryz.f63) 396 [1, 1, 1, 1]) (kont3 Tryz.prog ref04_Check_an (code Tryz.f63) [1, 1, 1] [] (post3 Tryz.prog Tryz.f63 [] R))) (ref04_Check_v1 b1) (ref04_Check_m1 b1 a9 b2 b3 b4 b5 b6 b7 b8 a4 a6 a5 b0 a3 a7 a8 a0 a2 a1) w103)))
 (
 Calls Tryz.prog 107 #[.string s6, .int .u8 108] w99 fun e w107 => ∃ t108 : Bool, e = .returned (.bool t108) ∧ Keep [b1] w99 w107 ∧
 brB t108 (
 Calls Tryz.prog 109 #[.slice a0 a2 a1] w107 fun e w109 => ∃ t110 : Bool, e = .returned (.bool t110) ∧ Keep [b1] w107 w109 ∧
 brB (!t110) (
 R (.int .i64 40) w109)
 (
 cutD3 ref04_Check_la1 ((dnF Tryz.prog ref04_Check_an (code Tryz.f63) 396 [1, 1, 1, 1]) (kont3 Tryz.prog ref04_Check_an (code Tryz.f63) [1, 1, 1] [] (post3 Tryz.prog Tryz.f63 [] R))) (ref04_Check_v1 b1) (ref04_Check_m1 b1 a9 b2 b3 b4 b5 b6 b7 b8 a4 a6 a5 b0 a3 a7 a8 a0 a2 a1) w109))
 (
 cutD3 ref04_Check_la1 ((dnF Tryz.prog ref04_Check_an (code Tryz.f63) 396 [1, 1, 1, 1]) (kont3 Tryz.prog ref04_Check_an (code Tryz.f63) [1, 1, 1] [] (post3 Tryz.prog Tryz.f63 [] R))) (ref04_Check_v1 b1) (ref04_Check_m1 b1 a9 b2 b3 b4 b5 b6 b7 b8 a4 a6 a5 b0 a3 a7 a8 a0 a2 a1) w107))))))))
theorem ref04_Check_eq (a9 : Int) (b0 : ByteArray) (b1 b2 b3 b4 b5 b6 : Int) (a3 : Option Addr) (a5 a4 : Nat) (b7 a6 : ByteArray) (a7 : Int) (a8 : Bool) (a0 : Option Addr) (a2 a1 : Nat) (R : Value → World → Prop) (w : World) :
 dnF Tryz.prog ref04_Check_an (code Tryz.f63) 400 [] (post3 Tryz.prog Tryz.f63 [] R) ⟨args0 0 [(.agg #[.int .i64 a9, .string b0, .int .i64 b1, .int .i64 b2, .int .i64 b3, .int .i64 b4, .int .i64 b5, .int .i64 b6, .slice a3 a5 a4, .string b7, .string a6, .int .i64 a7, .bool a8, .slice a0 a2 a1])], fun _ => undef⟩ ⟨[], w, [], [], true⟩ = ref04_Check_T a9 b0 b1 b2 b3 b4 b5 b6 a3 a5 a4 b7 a6 a7 a8 a0 a2 a1 R w := by kernel_rfl
theorem ref04_Check_go {a9 : Int} {b0 : ByteArray} {b1 b2 b3 b4 b5 b6 : Int} {a3 : Option Addr} {a5 a4 : Nat} {b7 a6 : ByteArray} {a7 : Int} {a8 : Bool} {a0 : Option Addr} {a2 a1 : Nat} {R : Value → World → Prop} {w : World} (h : ref04_Check_T a9 b0 b1 b2 b3 b4 b5 b6 a3 a5 a4 b7 a6 a7 a8 a0 a2 a1 R w) :
 Calls Tryz.prog 63 #[(.agg #[.int .i64 a9, .string b0, .int .i64 b1, .int .i64 b2, .int .i64 b3, .int .i64 b4, .int .i64 b5, .int .i64 b6, .slice a3 a5 a4, .string b7, .string a6, .int .i64 a7, .bool a8, .slice a0 a2 a1])] w fun e w' => ∃ v, e = .returned v ∧ R v w' :=
 calls_none Tryz.wide_mixed (f := 63) (args := [(.agg #[.int .i64 a9, .string b0, .int .i64 b1, .int .i64 b2, .int .i64 b3, .int .i64 b4, .int .i64 b5, .int .i64 b6, .slice a3 a5 a4, .string b7, .string a6, .int .i64 a7, .bool a8, .slice a0 a2 a1])]) Tryz.func63 rfl rfl (by kernel_rfl) rfl (Eq.mpr (ref04_Check_eq a9 b0 b1 b2 b3 b4 b5 b6 a3 a5 a4 b7 a6 a7 a8 a0 a2 a1 R w) h)
def ref04_Texts_la1 : LA := ⟨[0, 0, 1, 0, 1, 1], [0, 1, 5], [], 0, []⟩
def ref04_Texts_an : List LA := [ref04_Texts_la1]
def ref04_Texts_v1 (a0 : Option Addr) (a4 a2 : Nat) (a1 : Option Addr) (a5 a3 : Nat) (a6 : Int) : List Value := [.slice a0 a4 a2, .slice a1 a5 a3, .int .i64 a6]
def ref04_Texts_m1 : List TB := []
def ref04_Texts_L1 (a2 : Option Addr) (a1 a5 : Nat) (a3 : Option Addr) (a4 a6 : Nat) (a0 : Int) (K1 : Kh) (R : Value → World → Prop) (w : World) : Prop :=
 brB (decide (a0 < (a1 : Int))) (
 ixA a2 a1 a0 1 fun q1 =>
 ldStr w q1 fun s2 =>
 ixA a3 a4 a0 1 fun q3 =>
 ldStr w q3 fun s4 =>
 brB (!(s2.toList == s4.toList)) (
 ∀ w5, Adv [] [] w w5 →
 R (.bool false) w5)
 (
 ∀ w6, Adv [] [] w w6 →
 K1 (ref04_Texts_v1 a2 a1 a5 a3 a4 a6 (IntKind.wrap .i64 (a0 + 1))) (ref04_Texts_m1) w6))
 (
 R (.bool true) w)
theorem ref04_Texts_L1_eq (a0 : Option Addr) (a4 a2 : Nat) (a1 : Option Addr) (a5 a3 : Nat) (a6 : Int) (K1 : Kh) (js : Nat → Value) (R : Value → World → Prop) (w : World) :
 headA ref04_Texts_la1 ((dnF Tryz.prog ref04_Texts_an (code Tryz.f121) 396 [0, 0, 1, 0, 1, 1]) (kthen3 (atA ref04_Texts_la1 K1) (kont3 Tryz.prog ref04_Texts_an (code Tryz.f121) [1, 1, 0, 1, 0] [] (post3 Tryz.prog Tryz.f121 [] R)))) (ref04_Texts_v1 a0 a4 a2 a1 a5 a3 a6) js (ref04_Texts_m1) w = ref04_Texts_L1 a0 a4 a2 a1 a5 a3 a6 K1 R w := by kernel_rfl
def ref04_Texts_K1 (a1 : Option Addr) (a5 a3 : Nat) (a2 : Option Addr) (a6 a4 : Nat) (I : Nat → Int → World → Prop) (m : Nat) (vals : List Value) (mem : List TB) (w : World) : Prop := ∃ m', m' < m ∧ ∃ a0, vals = (ref04_Texts_v1 a1 a5 a3 a2 a6 a4 a0) ∧ mem = (ref04_Texts_m1) ∧ I m' a0 w
theorem ref04_Texts_leaf1 {a0 : Option Addr} {a4 a2 : Nat} {a1 : Option Addr} {a5 a3 : Nat} {I : Nat → Int → World → Prop} {m : Nat} {a6 : Int} {w : World} (m' : Nat) (h1 : m' < m) (h2 : I m' a6 w) : ref04_Texts_K1 a0 a4 a2 a1 a5 a3 I m (ref04_Texts_v1 a0 a4 a2 a1 a5 a3 a6) (ref04_Texts_m1) w := ⟨m', h1, _, rfl, rfl, h2⟩
theorem ref04_Texts_rule1 {a1 : Option Addr} {a5 a3 : Nat} {a2 : Option Addr} {a6 a4 : Nat} {a7 : Int} {R : Value → World → Prop} {w0 : World} (I : Nat → Int → World → Prop) (m0 : Nat) (h0 : I m0 a7 w0)
 (hr : ∀ (m : Nat) (a0 : Int) (w : World), I m a0 w → ref04_Texts_L1 a1 a5 a3 a2 a6 a4 a0 (ref04_Texts_K1 a1 a5 a3 a2 a6 a4 I m) R w) :
 loopD3 ref04_Texts_la1 (dnF Tryz.prog ref04_Texts_an (code Tryz.f121) 396 [0, 0, 1, 0, 1, 1]) (kont3 Tryz.prog ref04_Texts_an (code Tryz.f121) [1, 1, 0, 1, 0] [] (post3 Tryz.prog Tryz.f121 [] R)) (ref04_Texts_v1 a1 a5 a3 a2 a6 a4 a7) (ref04_Texts_m1) w0 := by
 refine ⟨fun m vals mem w => ∃ a0, vals = (ref04_Texts_v1 a1 a5 a3 a2 a6 a4 a0) ∧ mem = (ref04_Texts_m1) ∧ I m a0 w, m0, ⟨_, rfl, rfl, h0⟩, ?_⟩
 rintro m vals mem w ⟨a0, rfl, rfl, hI⟩
 refine ⟨rfl, rfl, fun js => ?_⟩
 have h := hr m a0 w hI
 rw [← ref04_Texts_L1_eq _ _ _ _ _ _ _ _ js] at h
 exact h
def ref04_Texts_T (a2 : Option Addr) (a0 a3 : Nat) (a4 : Option Addr) (a1 a5 : Nat) (R : Value → World → Prop) (w : World) : Prop :=
 brB ((a0 : Int) != (a1 : Int)) (
 R (.bool false) w)
 (
 loopD3 ref04_Texts_la1 (dnF Tryz.prog ref04_Texts_an (code Tryz.f121) 396 [0, 0, 1, 0, 1, 1]) (kont3 Tryz.prog ref04_Texts_an (code Tryz.f121) [1, 1, 0, 1, 0] [] (post3 Tryz.prog Tryz.f121 [] R)) (ref04_Texts_v1 a2 a0 a3 a4 a1 a5 0) (ref04_Texts_m1) w)
theorem ref04_Texts_eq (a0 : Option Addr) (a2 a1 : Nat) (a3 : Option Addr) (a5 a4 : Nat) (R : Value → World → Prop) (w : World) :
 dnF Tryz.prog ref04_Texts_an (code Tryz.f121) 400 [] (post3 Tryz.prog Tryz.f121 [] R) ⟨args0 0 [.slice a0 a2 a1, .slice a3 a5 a4], fun _ => undef⟩ ⟨[], w, [], [], true⟩ = ref04_Texts_T a0 a2 a1 a3 a5 a4 R w := by kernel_rfl
theorem ref04_Texts_go {a0 : Option Addr} {a2 a1 : Nat} {a3 : Option Addr} {a5 a4 : Nat} {R : Value → World → Prop} {w : World} (h : ref04_Texts_T a0 a2 a1 a3 a5 a4 R w) :
 Calls Tryz.prog 121 #[.slice a0 a2 a1, .slice a3 a5 a4] w fun e w' => ∃ v, e = .returned v ∧ R v w' :=
 calls_none Tryz.wide_mixed (f := 121) (args := [.slice a0 a2 a1, .slice a3 a5 a4]) Tryz.func121 rfl rfl (by kernel_rfl) rfl (Eq.mpr (ref04_Texts_eq a0 a2 a1 a3 a5 a4 R w) h)
def ref04_Same_an : List LA := []
def ref04_Same_T (c4 : Int) (a0 : ByteArray) (a4 c5 c6 c7 c8 c9 : Int) (b0 : Option Addr) (b4 b3 : Nat) (d0 b8 : ByteArray) (b9 : Int) (c0 : Bool) (a1 : Option Addr) (a3 a2 : Nat) (d1 : Int) (a5 : ByteArray) (a9 d2 d3 d4 d5 d6 : Int) (b5 : Option Addr) (b7 b6 : Nat) (d7 c1 : ByteArray) (c2 : Int) (c3 : Bool) (a6 : Option Addr) (a8 a7 : Nat) (R : Value → World → Prop) (w : World) : Prop :=
 ∀ b1, w.heap.size ≤ b1 →
 ∀ b2, w.heap.size ≤ b2 →
 brB (c4 == d1) (
 ∀ w3, Adv [] [b2, b1] w w3 →
 ∃ t4 : Bool, (∀ w', Mod [] w3 w' → Sem.run Tryz.prog (do eqGuard .eql 32 (.tmp 12) (.tmp 14) (.agg #[.string a0, .int .i64 a4]) (.agg #[.string a5, .int .i64 a9]); Go.binOp .eql 32 (.agg #[.string a0, .int .i64 a4]) (.agg #[.string a5, .int .i64 a9])) w' = .ok (.bool t4) w') ∧
 brB t4 (
 brB (c5 == d2) (
 brB (c6 == d3) (
 Calls Tryz.prog 120 #[(.agg #[.int .i64 c7, .int .i64 c8, .int .i64 c9, .slice b0 b4 b3]), (.agg #[.int .i64 d4, .int .i64 d5, .int .i64 d6, .slice b5 b7 b6])] w3 fun e w5 => ∃ t6 : Bool, e = .returned (.bool t6) ∧ Keep [b1, b2] w3 w5 ∧
 brB t6 (
 brB (d0.toList == d7.toList) (
 brB (b8.toList == c1.toList) (
 brB (b9 == c2) (
 brB (c0 == c3) (
 Calls Tryz.prog 121 #[.slice a1 a3 a2, .slice a6 a8 a7] w5 fun e w7 => ∃ t8 : Bool, e = .returned (.bool t8) ∧ Keep [b1, b2] w5 w7 ∧
 R (.bool t8) w7)
 (
 R (.bool false) w5))
 (
 R (.bool false) w5))
 (
 R (.bool false) w5))
 (
 R (.bool false) w5))
 (
 R (.bool false) w5))
 (
 R (.bool false) w3))
 (
 R (.bool false) w3))
 (
 R (.bool false) w3))
 (
 ∀ w9, Adv [] [b2, b1] w w9 →
 R (.bool false) w9)
theorem ref04_Same_eq (b8 : Int) (b9 : ByteArray) (c0 c1 c2 c3 c4 c5 : Int) (a6 : Option Addr) (a8 a7 : Nat) (c6 b2 : ByteArray) (b3 : Int) (b4 : Bool) (a0 : Option Addr) (a2 a1 : Nat) (c7 : Int) (c8 : ByteArray) (c9 d0 d1 d2 d3 d4 : Int) (a9 : Option Addr) (b1 b0 : Nat) (d5 b5 : ByteArray) (b6 : Int) (b7 : Bool) (a3 : Option Addr) (a5 a4 : Nat) (R : Value → World → Prop) (w : World) :
 dnF Tryz.prog ref04_Same_an (code Tryz.f74) 400 [] (post3 Tryz.prog Tryz.f74 [] R) ⟨args0 0 [(.agg #[.int .i64 b8, .string b9, .int .i64 c0, .int .i64 c1, .int .i64 c2, .int .i64 c3, .int .i64 c4, .int .i64 c5, .slice a6 a8 a7, .string c6, .string b2, .int .i64 b3, .bool b4, .slice a0 a2 a1]), (.agg #[.int .i64 c7, .string c8, .int .i64 c9, .int .i64 d0, .int .i64 d1, .int .i64 d2, .int .i64 d3, .int .i64 d4, .slice a9 b1 b0, .string d5, .string b5, .int .i64 b6, .bool b7, .slice a3 a5 a4])], fun _ => undef⟩ ⟨[], w, [], [], true⟩ = ref04_Same_T b8 b9 c0 c1 c2 c3 c4 c5 a6 a8 a7 c6 b2 b3 b4 a0 a2 a1 c7 c8 c9 d0 d1 d2 d3 d4 a9 b1 b0 d5 b5 b6 b7 a3 a5 a4 R w := by kernel_rfl
theorem ref04_Same_go {b8 : Int} {b9 : ByteArray} {c0 c1 c2 c3 c4 c5 : Int} {a6 : Option Addr} {a8 a7 : Nat} {c6 b2 : ByteArray} {b3 : Int} {b4 : Bool} {a0 : Option Addr} {a2 a1 : Nat} {c7 : Int} {c8 : ByteArray} {c9 d0 d1 d2 d3 d4 : Int} {a9 : Option Addr} {b1 b0 : Nat} {d5 b5 : ByteArray} {b6 : Int} {b7 : Bool} {a3 : Option Addr} {a5 a4 : Nat} {R : Value → World → Prop} {w : World} (h : ref04_Same_T b8 b9 c0 c1 c2 c3 c4 c5 a6 a8 a7 c6 b2 b3 b4 a0 a2 a1 c7 c8 c9 d0 d1 d2 d3 d4 a9 b1 b0 d5 b5 b6 b7 a3 a5 a4 R w) :
 Calls Tryz.prog 74 #[(.agg #[.int .i64 b8, .string b9, .int .i64 c0, .int .i64 c1, .int .i64 c2, .int .i64 c3, .int .i64 c4, .int .i64 c5, .slice a6 a8 a7, .string c6, .string b2, .int .i64 b3, .bool b4, .slice a0 a2 a1]), (.agg #[.int .i64 c7, .string c8, .int .i64 c9, .int .i64 d0, .int .i64 d1, .int .i64 d2, .int .i64 d3, .int .i64 d4, .slice a9 b1 b0, .string d5, .string b5, .int .i64 b6, .bool b7, .slice a3 a5 a4])] w fun e w' => ∃ v, e = .returned v ∧ R v w' :=
 calls_none Tryz.wide_mixed (f := 74) (args := [(.agg #[.int .i64 b8, .string b9, .int .i64 c0, .int .i64 c1, .int .i64 c2, .int .i64 c3, .int .i64 c4, .int .i64 c5, .slice a6 a8 a7, .string c6, .string b2, .int .i64 b3, .bool b4, .slice a0 a2 a1]), (.agg #[.int .i64 c7, .string c8, .int .i64 c9, .int .i64 d0, .int .i64 d1, .int .i64 d2, .int .i64 d3, .int .i64 d4, .slice a9 b1 b0, .string d5, .string b5, .int .i64 b6, .bool b7, .slice a3 a5 a4])]) Tryz.func74 rfl rfl (by kernel_rfl) rfl (Eq.mpr (ref04_Same_eq b8 b9 c0 c1 c2 c3 c4 c5 a6 a8 a7 c6 b2 b3 b4 a0 a2 a1 c7 c8 c9 d0 d1 d2 d3 d4 a9 b1 b0 d5 b5 b6 b7 a3 a5 a4 R w) h)
def request_batches_an : List LA := []
def request_batches_T (a6 a7 a8 : Int) (a0 : Option Addr) (a2 a1 : Nat) (a9 b0 b3 : Int) (a3 : Option Addr) (a5 a4 : Nat) (R : Value → World → Prop) (w : World) : Prop :=
 ∀ b1, w.heap.size ≤ b1 →
 ∀ b2, w.heap.size ≤ b2 →
 brB (a6 == a9) (
 brB (a7 == b0) (
 brB (a8 == b3) (
 ∀ w3, Adv [] [b2, b1] w w3 →
 Calls Tryz.prog 160 #[.slice a0 a2 a1, .slice a3 a5 a4] w3 fun e w4 => ∃ t5 : Bool, e = .returned (.bool t5) ∧ Keep [b1, b2] w3 w4 ∧
 R (.bool t5) w4)
 (
 ∀ w6, Adv [] [b2, b1] w w6 →
 R (.bool false) w6))
 (
 ∀ w7, Adv [] [b2, b1] w w7 →
 R (.bool false) w7))
 (
 ∀ w8, Adv [] [b2, b1] w w8 →
 R (.bool false) w8)
theorem request_batches_eq (a6 a7 a8 : Int) (a0 : Option Addr) (a2 a1 : Nat) (a9 b0 b1 : Int) (a3 : Option Addr) (a5 a4 : Nat) (R : Value → World → Prop) (w : World) :
 dnF Tryz.prog request_batches_an (code Tryz.f140) 400 [] (post3 Tryz.prog Tryz.f140 [] R) ⟨args0 0 [(.agg #[.int .i64 a6, .int .i64 a7, .int .i64 a8, .slice a0 a2 a1]), (.agg #[.int .i64 a9, .int .i64 b0, .int .i64 b1, .slice a3 a5 a4])], fun _ => undef⟩ ⟨[], w, [], [], true⟩ = request_batches_T a6 a7 a8 a0 a2 a1 a9 b0 b1 a3 a5 a4 R w := by kernel_rfl
theorem request_batches_go {a6 a7 a8 : Int} {a0 : Option Addr} {a2 a1 : Nat} {a9 b0 b1 : Int} {a3 : Option Addr} {a5 a4 : Nat} {R : Value → World → Prop} {w : World} (h : request_batches_T a6 a7 a8 a0 a2 a1 a9 b0 b1 a3 a5 a4 R w) :
 Calls Tryz.prog 140 #[(.agg #[.int .i64 a6, .int .i64 a7, .int .i64 a8, .slice a0 a2 a1]), (.agg #[.int .i64 a9, .int .i64 b0, .int .i64 b1, .slice a3 a5 a4])] w fun e w' => ∃ v, e = .returned v ∧ R v w' :=
 calls_none Tryz.wide_mixed (f := 140) (args := [(.agg #[.int .i64 a6, .int .i64 a7, .int .i64 a8, .slice a0 a2 a1]), (.agg #[.int .i64 a9, .int .i64 b0, .int .i64 b1, .slice a3 a5 a4])]) Tryz.func140 rfl rfl (by kernel_rfl) rfl (Eq.mpr (request_batches_eq a6 a7 a8 a0 a2 a1 a9 b0 b1 a3 a5 a4 R w) h)
def request_Same_an : List LA := []
def request_Same_T (c4 : Int) (a0 : ByteArray) (a4 c5 c6 c7 c8 c9 : Int) (b0 : Option Addr) (b4 b3 : Nat) (d0 b8 : ByteArray) (b9 : Int) (c0 : Bool) (a1 : Option Addr) (a3 a2 : Nat) (d1 : Int) (a5 : ByteArray) (a9 d2 d3 d4 d5 d6 : Int) (b5 : Option Addr) (b7 b6 : Nat) (d7 c1 : ByteArray) (c2 : Int) (c3 : Bool) (a6 : Option Addr) (a8 a7 : Nat) (R : Value → World → Prop) (w : World) : Prop :=
 ∀ b1, w.heap.size ≤ b1 →
 ∀ b2, w.heap.size ≤ b2 →
 brB (c4 == d1) (
 ∀ w3, Adv [] [b2, b1] w w3 →
 ∃ t4 : Bool, (∀ w', Mod [] w3 w' → Sem.run Tryz.prog (do eqGuard .eql 32 (.tmp 13) (.tmp 15) (.agg #[.string a0, .int .i64 a4]) (.agg #[.string a5, .int .i64 a9]); Go.binOp .eql 32 (.agg #[.string a0, .int .i64 a4]) (.agg #[.string a5, .int .i64 a9])) w' = .ok (.bool t4) w') ∧
 brB t4 (
 brB (c5 == d2) (
 brB (c6 == d3) (
 brB (d0.toList == d7.toList) (
 brB (b8.toList == c1.toList) (
 brB (b9 == c2) (
 brB (c0 == c3) (
 Calls Tryz.prog 140 #[(.agg #[.int .i64 c7, .int .i64 c8, .int .i64 c9, .slice b0 b4 b3]), (.agg #[.int .i64 d4, .int .i64 d5, .int .i64 d6, .slice b5 b7 b6])] w3 fun e w5 => ∃ t6 : Bool, e = .returned (.bool t6) ∧ Keep [b1, b2] w3 w5 ∧
 brB t6 (
 Calls Tryz.prog 141 #[.slice a1 a3 a2, .slice a6 a8 a7] w5 fun e w7 => ∃ t8 : Bool, e = .returned (.bool t8) ∧ Keep [b1, b2] w5 w7 ∧
 R (.bool t8) w7)
 (
 R (.bool false) w5))
 (
 R (.bool false) w3))
 (
 R (.bool false) w3))
 (
 R (.bool false) w3))
 (
 R (.bool false) w3))
 (
 R (.bool false) w3))
 (
 R (.bool false) w3))
 (
 R (.bool false) w3))
 (
 ∀ w9, Adv [] [b2, b1] w w9 →
 R (.bool false) w9)
theorem request_Same_eq (b8 : Int) (b9 : ByteArray) (c0 c1 c2 c3 c4 c5 : Int) (a6 : Option Addr) (a8 a7 : Nat) (c6 b2 : ByteArray) (b3 : Int) (b4 : Bool) (a0 : Option Addr) (a2 a1 : Nat) (c7 : Int) (c8 : ByteArray) (c9 d0 d1 d2 d3 d4 : Int) (a9 : Option Addr) (b1 b0 : Nat) (d5 b5 : ByteArray) (b6 : Int) (b7 : Bool) (a3 : Option Addr) (a5 a4 : Nat) (R : Value → World → Prop) (w : World) :
 dnF Tryz.prog request_Same_an (code Tryz.f95) 400 [] (post3 Tryz.prog Tryz.f95 [] R) ⟨args0 0 [(.agg #[.int .i64 b8, .string b9, .int .i64 c0, .int .i64 c1, .int .i64 c2, .int .i64 c3, .int .i64 c4, .int .i64 c5, .slice a6 a8 a7, .string c6, .string b2, .int .i64 b3, .bool b4, .slice a0 a2 a1]), (.agg #[.int .i64 c7, .string c8, .int .i64 c9, .int .i64 d0, .int .i64 d1, .int .i64 d2, .int .i64 d3, .int .i64 d4, .slice a9 b1 b0, .string d5, .string b5, .int .i64 b6, .bool b7, .slice a3 a5 a4])], fun _ => undef⟩ ⟨[], w, [], [], true⟩ = request_Same_T b8 b9 c0 c1 c2 c3 c4 c5 a6 a8 a7 c6 b2 b3 b4 a0 a2 a1 c7 c8 c9 d0 d1 d2 d3 d4 a9 b1 b0 d5 b5 b6 b7 a3 a5 a4 R w := by kernel_rfl
theorem request_Same_go {b8 : Int} {b9 : ByteArray} {c0 c1 c2 c3 c4 c5 : Int} {a6 : Option Addr} {a8 a7 : Nat} {c6 b2 : ByteArray} {b3 : Int} {b4 : Bool} {a0 : Option Addr} {a2 a1 : Nat} {c7 : Int} {c8 : ByteArray} {c9 d0 d1 d2 d3 d4 : Int} {a9 : Option Addr} {b1 b0 : Nat} {d5 b5 : ByteArray} {b6 : Int} {b7 : Bool} {a3 : Option Addr} {a5 a4 : Nat} {R : Value → World → Prop} {w : World} (h : request_Same_T b8 b9 c0 c1 c2 c3 c4 c5 a6 a8 a7 c6 b2 b3 b4 a0 a2 a1 c7 c8 c9 d0 d1 d2 d3 d4 a9 b1 b0 d5 b5 b6 b7 a3 a5 a4 R w) :
 Calls Tryz.prog 95 #[(.agg #[.int .i64 b8, .string b9, .int .i64 c0, .int .i64 c1, .int .i64 c2, .int .i64 c3, .int .i64 c4, .int .i64 c5, .slice a6 a8 a7, .string c6, .string b2, .int .i64 b3, .bool b4, .slice a0 a2 a1]), (.agg #[.int .i64 c7, .string c8, .int .i64 c9, .int .i64 d0, .int .i64 d1, .int .i64 d2, .int .i64 d3, .int .i64 d4, .slice a9 b1 b0, .string d5, .string b5, .int .i64 b6, .bool b7, .slice a3 a5 a4])] w fun e w' => ∃ v, e = .returned v ∧ R v w' :=
 calls_none Tryz.wide_mixed (f := 95) (args := [(.agg #[.int .i64 b8, .string b9, .int .i64 c0, .int .i64 c1, .int .i64 c2, .int .i64 c3, .int .i64 c4, .int .i64 c5, .slice a6 a8 a7, .string c6, .string b2, .int .i64 b3, .bool b4, .slice a0 a2 a1]), (.agg #[.int .i64 c7, .string c8, .int .i64 c9, .int .i64 d0, .int .i64 d1, .int .i64 d2, .int .i64 d3, .int .i64 d4, .slice a9 b1 b0, .string d5, .string b5, .int .i64 b6, .bool b7, .slice a3 a5 a4])]) Tryz.func95 rfl rfl (by kernel_rfl) rfl (Eq.mpr (request_Same_eq b8 b9 c0 c1 c2 c3 c4 c5 a6 a8 a7 c6 b2 b3 b4 a0 a2 a1 c7 c8 c9 d0 d1 d2 d3 d4 a9 b1 b0 d5 b5 b6 b7 a3 a5 a4 R w) h)
def slices_Equal_string_string_la1 : LA := ⟨[0, 0, 1, 0, 1, 1], [0, 1, 12, 13], [], 0, []⟩
def slices_Equal_string_string_an : List LA := [slices_Equal_string_string_la1]
def slices_Equal_string_string_v1 (a2 : Option Addr) (a6 a4 : Nat) (a3 : Option Addr) (a7 a5 : Nat) (a0 a1 : Int) : List Value := [.slice a2 a6 a4, .slice a3 a7 a5, .int .i64 a0, .int .i64 a1]
def slices_Equal_string_string_m1 : List TB := []
def slices_Equal_string_string_L1 (a2 : Option Addr) (a4 a6 : Nat) (a3 : Option Addr) (a5 a7 : Nat) (a1 a0 : Int) (K1 : Kh) (R : Value → World → Prop) (w : World) : Prop :=
 brB (decide (a0 < a1)) (
 ixA a2 a4 a0 1 fun q1 =>
 ldStr w q1 fun s2 =>
 ixA a3 a5 a0 1 fun q3 =>
 ldStr w q3 fun s4 =>
 brB (!(s2.toList == s4.toList)) (
 ∀ w5, Adv [] [] w w5 →
 R (.bool false) w5)
 (
 ∀ w6, Adv [] [] w w6 →
 K1 (slices_Equal_string_string_v1 a2 a4 a6 a3 a5 a7 a1 (IntKind.wrap .i64 (a0 + 1))) (slices_Equal_string_string_m1) w6))
 (
 R (.bool true) w)
theorem slices_Equal_string_string_L1_eq (a2 : Option Addr) (a6 a4 : Nat) (a3 : Option Addr) (a7 a5 : Nat) (a0 a1 : Int) (K1 : Kh) (js : Nat → Value) (R : Value → World → Prop) (w : World) :
 headA slices_Equal_string_string_la1 ((dnF Tryz.prog slices_Equal_string_string_an (code Tryz.f141) 396 [0, 0, 1, 0, 1, 1]) (kthen3 (atA slices_Equal_string_string_la1 K1) (kont3 Tryz.prog slices_Equal_string_string_an (code Tryz.f141) [1, 1, 0, 1, 0] [] (post3 Tryz.prog Tryz.f141 [] R)))) (slices_Equal_string_string_v1 a2 a6 a4 a3 a7 a5 a0 a1) js (slices_Equal_string_string_m1) w = slices_Equal_string_string_L1 a2 a6 a4 a3 a7 a5 a0 a1 K1 R w := by kernel_rfl
def slices_Equal_string_string_K1 (a2 : Option Addr) (a6 a4 : Nat) (a3 : Option Addr) (a7 a5 : Nat) (a1 : Int) (I : Nat → Int → World → Prop) (m : Nat) (vals : List Value) (mem : List TB) (w : World) : Prop := ∃ m', m' < m ∧ ∃ a0, vals = (slices_Equal_string_string_v1 a2 a6 a4 a3 a7 a5 a1 a0) ∧ mem = (slices_Equal_string_string_m1) ∧ I m' a0 w
theorem slices_Equal_string_string_leaf1 {a2 : Option Addr} {a6 a4 : Nat} {a3 : Option Addr} {a7 a5 : Nat} {a0 : Int} {I : Nat → Int → World → Prop} {m : Nat} {a1 : Int} {w : World} (m' : Nat) (h1 : m' < m) (h2 : I m' a1 w) : slices_Equal_string_string_K1 a2 a6 a4 a3 a7 a5 a0 I m (slices_Equal_string_string_v1 a2 a6 a4 a3 a7 a5 a0 a1) (slices_Equal_string_string_m1) w := ⟨m', h1, _, rfl, rfl, h2⟩
theorem slices_Equal_string_string_rule1 {a2 : Option Addr} {a6 a4 : Nat} {a3 : Option Addr} {a7 a5 : Nat} {a1 a8 : Int} {R : Value → World → Prop} {w0 : World} (I : Nat → Int → World → Prop) (m0 : Nat) (h0 : I m0 a8 w0)
 (hr : ∀ (m : Nat) (a0 : Int) (w : World), I m a0 w → slices_Equal_string_string_L1 a2 a6 a4 a3 a7 a5 a1 a0 (slices_Equal_string_string_K1 a2 a6 a4 a3 a7 a5 a1 I m) R w) :
 loopD3 slices_Equal_string_string_la1 (dnF Tryz.prog slices_Equal_string_string_an (code Tryz.f141) 396 [0, 0, 1, 0, 1, 1]) (kont3 Tryz.prog slices_Equal_string_string_an (code Tryz.f141) [1, 1, 0, 1, 0] [] (post3 Tryz.prog Tryz.f141 [] R)) (slices_Equal_string_string_v1 a2 a6 a4 a3 a7 a5 a1 a8) (slices_Equal_string_string_m1) w0 := by
 refine ⟨fun m vals mem w => ∃ a0, vals = (slices_Equal_string_string_v1 a2 a6 a4 a3 a7 a5 a1 a0) ∧ mem = (slices_Equal_string_string_m1) ∧ I m a0 w, m0, ⟨_, rfl, rfl, h0⟩, ?_⟩
 rintro m vals mem w ⟨a0, rfl, rfl, hI⟩
 refine ⟨rfl, rfl, fun js => ?_⟩
 have h := hr m a0 w hI
 rw [← slices_Equal_string_string_L1_eq _ _ _ _ _ _ _ _ _ js] at h
 exact h
def slices_Equal_string_string_T (a2 : Option Addr) (a0 a3 : Nat) (a4 : Option Addr) (a1 a5 : Nat) (R : Value → World → Prop) (w : World) : Prop :=
 brB ((a0 : Int) != (a1 : Int)) (
 R (.bool false) w)
 (
 loopD3 slices_Equal_string_string_la1 (dnF Tryz.prog slices_Equal_string_string_an (code Tryz.f141) 396 [0, 0, 1, 0, 1, 1]) (kont3 Tryz.prog slices_Equal_string_string_an (code Tryz.f141) [1, 1, 0, 1, 0] [] (post3 Tryz.prog Tryz.f141 [] R)) (slices_Equal_string_string_v1 a2 a0 a3 a4 a1 a5 (a0 : Int) 0) (slices_Equal_string_string_m1) w)
theorem slices_Equal_string_string_eq (a0 : Option Addr) (a2 a1 : Nat) (a3 : Option Addr) (a5 a4 : Nat) (R : Value → World → Prop) (w : World) :
 dnF Tryz.prog slices_Equal_string_string_an (code Tryz.f141) 400 [] (post3 Tryz.prog Tryz.f141 [] R) ⟨args0 0 [.slice a0 a2 a1, .slice a3 a5 a4], fun _ => undef⟩ ⟨[], w, [], [], true⟩ = slices_Equal_string_string_T a0 a2 a1 a3 a5 a4 R w := by kernel_rfl
theorem slices_Equal_string_string_go {a0 : Option Addr} {a2 a1 : Nat} {a3 : Option Addr} {a5 a4 : Nat} {R : Value → World → Prop} {w : World} (h : slices_Equal_string_string_T a0 a2 a1 a3 a5 a4 R w) :
 Calls Tryz.prog 141 #[.slice a0 a2 a1, .slice a3 a5 a4] w fun e w' => ∃ v, e = .returned v ∧ R v w' :=
 calls_none Tryz.wide_mixed (f := 141) (args := [.slice a0 a2 a1, .slice a3 a5 a4]) Tryz.func141 rfl rfl (by kernel_rfl) rfl (Eq.mpr (slices_Equal_string_string_eq a0 a2 a1 a3 a5 a4 R w) h)
def slices_Equal_api_Record_api_Record_la1 : LA := ⟨[0, 0, 1, 0, 1, 1], [0, 1, 12, 13], [], 0, []⟩
def slices_Equal_api_Record_api_Record_an : List LA := [slices_Equal_api_Record_api_Record_la1]
def slices_Equal_api_Record_api_Record_v1 (a2 : Option Addr) (a6 a4 : Nat) (a3 : Option Addr) (a7 a5 : Nat) (a0 a1 : Int) : List Value := [.slice a2 a6 a4, .slice a3 a7 a5, .int .i64 a0, .int .i64 a1]
def slices_Equal_api_Record_api_Record_m1 : List TB := []
def slices_Equal_api_Record_api_Record_L1 (a2 : Option Addr) (a4 a6 : Nat) (a3 : Option Addr) (a5 a7 : Nat) (a1 a0 : Int) (K1 : Kh) (R : Value → World → Prop) (w : World) : Prop :=
 brB (decide (a0 < a1)) (
 ixA a2 a4 a0 4 fun q1 =>
 ldBool w q1 fun t2 => ldStr w (Addr.add q1 1) fun s3 => ldBool w (Addr.add q1 2) fun t4 => ldStr w (Addr.add q1 3) fun s5 =>
 ixA a3 a5 a0 4 fun q6 =>
 ldBool w q6 fun t7 => ldStr w (Addr.add q6 1) fun s8 => ldBool w (Addr.add q6 2) fun t9 => ldStr w (Addr.add q6 3) fun s10 =>
 ∃ t11 : Bool, (∀ w', Mod [] w w' → Sem.run Tryz.prog (do eqGuard .neq 149 (.tmp 19) (.tmp 23) (.agg #[.bool t2, .string s3, .bool t4, .string s5]) (.agg #[.bool t7, .string s8, .bool t9, .string s10]); Go.binOp .neq 149 (.agg #[.bool t2, .string s3, .bool t4, .string s5]) (.agg #[.bool t7, .string s8, .bool t9, .string s10])) w' = .ok (.bool t11) w') ∧
 brB t11 (
 ∀ w12, Adv [] [] w w12 →
 R (.bool false) w12)
 (
 ∀ w13, Adv [] [] w w13 →
 K1 (slices_Equal_api_Record_api_Record_v1 a2 a4 a6 a3 a5 a7 a1 (IntKind.wrap .i64 (a0 + 1))) (slices_Equal_api_Record_api_Record_m1) w13))
 (
 R (.bool true) w)
theorem slices_Equal_api_Record_api_Record_L1_eq (a2 : Option Addr) (a6 a4 : Nat) (a3 : Option Addr) (a7 a5 : Nat) (a0 a1 : Int) (K1 : Kh) (js : Nat → Value) (R : Value → World → Prop) (w : World) :
 headA slices_Equal_api_Record_api_Record_la1 ((dnF Tryz.prog slices_Equal_api_Record_api_Record_an (code Tryz.f160) 396 [0, 0, 1, 0, 1, 1]) (kthen3 (atA slices_Equal_api_Record_api_Record_la1 K1) (kont3 Tryz.prog slices_Equal_api_Record_api_Record_an (code Tryz.f160) [1, 1, 0, 1, 0] [] (post3 Tryz.prog Tryz.f160 [] R)))) (slices_Equal_api_Record_api_Record_v1 a2 a6 a4 a3 a7 a5 a0 a1) js (slices_Equal_api_Record_api_Record_m1) w = slices_Equal_api_Record_api_Record_L1 a2 a6 a4 a3 a7 a5 a0 a1 K1 R w := by kernel_rfl
def slices_Equal_api_Record_api_Record_K1 (a2 : Option Addr) (a6 a4 : Nat) (a3 : Option Addr) (a7 a5 : Nat) (a1 : Int) (I : Nat → Int → World → Prop) (m : Nat) (vals : List Value) (mem : List TB) (w : World) : Prop := ∃ m', m' < m ∧ ∃ a0, vals = (slices_Equal_api_Record_api_Record_v1 a2 a6 a4 a3 a7 a5 a1 a0) ∧ mem = (slices_Equal_api_Record_api_Record_m1) ∧ I m' a0 w
theorem slices_Equal_api_Record_api_Record_leaf1 {a2 : Option Addr} {a6 a4 : Nat} {a3 : Option Addr} {a7 a5 : Nat} {a0 : Int} {I : Nat → Int → World → Prop} {m : Nat} {a1 : Int} {w : World} (m' : Nat) (h1 : m' < m) (h2 : I m' a1 w) : slices_Equal_api_Record_api_Record_K1 a2 a6 a4 a3 a7 a5 a0 I m (slices_Equal_api_Record_api_Record_v1 a2 a6 a4 a3 a7 a5 a0 a1) (slices_Equal_api_Record_api_Record_m1) w := ⟨m', h1, _, rfl, rfl, h2⟩
theorem slices_Equal_api_Record_api_Record_rule1 {a2 : Option Addr} {a6 a4 : Nat} {a3 : Option Addr} {a7 a5 : Nat} {a1 a8 : Int} {R : Value → World → Prop} {w0 : World} (I : Nat → Int → World → Prop) (m0 : Nat) (h0 : I m0 a8 w0)
 (hr : ∀ (m : Nat) (a0 : Int) (w : World), I m a0 w → slices_Equal_api_Record_api_Record_L1 a2 a6 a4 a3 a7 a5 a1 a0 (slices_Equal_api_Record_api_Record_K1 a2 a6 a4 a3 a7 a5 a1 I m) R w) :
 loopD3 slices_Equal_api_Record_api_Record_la1 (dnF Tryz.prog slices_Equal_api_Record_api_Record_an (code Tryz.f160) 396 [0, 0, 1, 0, 1, 1]) (kont3 Tryz.prog slices_Equal_api_Record_api_Record_an (code Tryz.f160) [1, 1, 0, 1, 0] [] (post3 Tryz.prog Tryz.f160 [] R)) (slices_Equal_api_Record_api_Record_v1 a2 a6 a4 a3 a7 a5 a1 a8) (slices_Equal_api_Record_api_Record_m1) w0 := by
 refine ⟨fun m vals mem w => ∃ a0, vals = (slices_Equal_api_Record_api_Record_v1 a2 a6 a4 a3 a7 a5 a1 a0) ∧ mem = (slices_Equal_api_Record_api_Record_m1) ∧ I m a0 w, m0, ⟨_, rfl, rfl, h0⟩, ?_⟩
 rintro m vals mem w ⟨a0, rfl, rfl, hI⟩
 refine ⟨rfl, rfl, fun js => ?_⟩
 have h := hr m a0 w hI
 rw [← slices_Equal_api_Record_api_Record_L1_eq _ _ _ _ _ _ _ _ _ js] at h
 exact h
def slices_Equal_api_Record_api_Record_T (a2 : Option Addr) (a0 a3 : Nat) (a4 : Option Addr) (a1 a5 : Nat) (R : Value → World → Prop) (w : World) : Prop :=
 brB ((a0 : Int) != (a1 : Int)) (
 R (.bool false) w)
 (
 loopD3 slices_Equal_api_Record_api_Record_la1 (dnF Tryz.prog slices_Equal_api_Record_api_Record_an (code Tryz.f160) 396 [0, 0, 1, 0, 1, 1]) (kont3 Tryz.prog slices_Equal_api_Record_api_Record_an (code Tryz.f160) [1, 1, 0, 1, 0] [] (post3 Tryz.prog Tryz.f160 [] R)) (slices_Equal_api_Record_api_Record_v1 a2 a0 a3 a4 a1 a5 (a0 : Int) 0) (slices_Equal_api_Record_api_Record_m1) w)
theorem slices_Equal_api_Record_api_Record_eq (a0 : Option Addr) (a2 a1 : Nat) (a3 : Option Addr) (a5 a4 : Nat) (R : Value → World → Prop) (w : World) :
 dnF Tryz.prog slices_Equal_api_Record_api_Record_an (code Tryz.f160) 400 [] (post3 Tryz.prog Tryz.f160 [] R) ⟨args0 0 [.slice a0 a2 a1, .slice a3 a5 a4], fun _ => undef⟩ ⟨[], w, [], [], true⟩ = slices_Equal_api_Record_api_Record_T a0 a2 a1 a3 a5 a4 R w := by kernel_rfl
theorem slices_Equal_api_Record_api_Record_go {a0 : Option Addr} {a2 a1 : Nat} {a3 : Option Addr} {a5 a4 : Nat} {R : Value → World → Prop} {w : World} (h : slices_Equal_api_Record_api_Record_T a0 a2 a1 a3 a5 a4 R w) :
 Calls Tryz.prog 160 #[.slice a0 a2 a1, .slice a3 a5 a4] w fun e w' => ∃ v, e = .returned v ∧ R v w' :=
 calls_none Tryz.wide_mixed (f := 160) (args := [.slice a0 a2 a1, .slice a3 a5 a4]) Tryz.func160 rfl rfl (by kernel_rfl) rfl (Eq.mpr (slices_Equal_api_Record_api_Record_eq a0 a2 a1 a3 a5 a4 R w) h)
def slices_Clone_string_string_an : List LA := []
def slices_Clone_string_string_T (a0 : Option Addr) (a2 a1 : Nat) (R : Value → World → Prop) (w : World) : Prop :=
 brB (Option.isNone a0) (
 R (.slice none 0 0) w)
 (
 al w (.cells #[] 9) fun b1 w2 =>
 effSl Tryz.prog (Builtin.append_ #[36, 36] 36 #[(.slice (some ⟨b1, 0, none⟩) 0 0), .slice a0 a2 a1]) w2 fun a4 n5 c6 w3 =>
 R (.slice a4 n5 c6) w3)
theorem slices_Clone_string_string_eq (a0 : Option Addr) (a2 a1 : Nat) (R : Value → World → Prop) (w : World) :
 dnF Tryz.prog slices_Clone_string_string_an (code Tryz.f115) 400 [] (post3 Tryz.prog Tryz.f115 [] R) ⟨args0 0 [.slice a0 a2 a1], fun _ => undef⟩ ⟨[], w, [], [], true⟩ = slices_Clone_string_string_T a0 a2 a1 R w := by kernel_rfl
theorem slices_Clone_string_string_go {a0 : Option Addr} {a2 a1 : Nat} {R : Value → World → Prop} {w : World} (h : slices_Clone_string_string_T a0 a2 a1 R w) :
 Calls Tryz.prog 115 #[.slice a0 a2 a1] w fun e w' => ∃ v, e = .returned v ∧ R v w' :=
 calls_none Tryz.wide_mixed (f := 115) (args := [.slice a0 a2 a1]) Tryz.func115 rfl rfl (by kernel_rfl) rfl (Eq.mpr (slices_Clone_string_string_eq a0 a2 a1 R w) h)
def slices_Clone_api_Record_api_Record_an : List LA := []
def slices_Clone_api_Record_api_Record_T (a0 : Option Addr) (a2 a1 : Nat) (R : Value → World → Prop) (w : World) : Prop :=
 brB (Option.isNone a0) (
 R (.slice none 0 0) w)
 (
 al w (.cells #[] 149) fun b1 w2 =>
 effSl Tryz.prog (Builtin.append_ #[33, 33] 33 #[(.slice (some ⟨b1, 0, none⟩) 0 0), .slice a0 a2 a1]) w2 fun a4 n5 c6 w3 =>
 R (.slice a4 n5 c6) w3)
theorem slices_Clone_api_Record_api_Record_eq (a0 : Option Addr) (a2 a1 : Nat) (R : Value → World → Prop) (w : World) :
 dnF Tryz.prog slices_Clone_api_Record_api_Record_an (code Tryz.f116) 400 [] (post3 Tryz.prog Tryz.f116 [] R) ⟨args0 0 [.slice a0 a2 a1], fun _ => undef⟩ ⟨[], w, [], [], true⟩ = slices_Clone_api_Record_api_Record_T a0 a2 a1 R w := by kernel_rfl
theorem slices_Clone_api_Record_api_Record_go {a0 : Option Addr} {a2 a1 : Nat} {R : Value → World → Prop} {w : World} (h : slices_Clone_api_Record_api_Record_T a0 a2 a1 R w) :
 Calls Tryz.prog 116 #[.slice a0 a2 a1] w fun e w' => ∃ v, e = .returned v ∧ R v w' :=
 calls_none Tryz.wide_mixed (f := 116) (args := [.slice a0 a2 a1]) Tryz.func116 rfl rfl (by kernel_rfl) rfl (Eq.mpr (slices_Clone_api_Record_api_Record_eq a0 a2 a1 R w) h)

end Go.Proofs.YtohgihgddknmmaaGreat

/- The conditions of Go functions' bodies, printed by gen2.py. -/
namespace Go.Proofs.YtohgihgddknmmaaGreat
open Go Go.RowKit
set_option linter.unusedVariables false
set_option maxRecDepth 100000

def ck_request_checker_number_an : List LA := []
def ck_request_checker_number_T (a0 : Addr) (a1 : Addr) (R : Value → World → Prop) (w : World) : Prop :=
 ldBool w (Addr.add a0 1) fun t1 =>
 brB t1 (
 st w (Addr.add a0 1) [.bool true] fun w2 =>
 st w2 a1 [.int .i64 0] fun w3 =>
 R (.tuple #[]) w3)
 (
 ldInt .i64 w a1 fun x4 =>
 Calls Tryz.prog 161 #[.int .i64 x4] w fun e w5 => ∃ t6 : Bool, e = .returned (.bool t6) ∧
 st w5 (Addr.add a0 1) [(.bool (!t6))] fun w7 =>
 st w7 a1 [.int .i64 0] fun w8 =>
 R (.tuple #[]) w8)
theorem ck_request_checker_number_eq (a0 : Addr) (a1 : Addr) (R : Value → World → Prop) (w : World) :
 dnF Tryz.prog ck_request_checker_number_an (code Tryz.f198) 400 [] (post3 Tryz.prog Tryz.f198 [] R) ⟨args0 0 [(.pointer (some a0)), (.pointer (some a1))], fun _ => undef⟩ ⟨[], w, [], [], true⟩ = ck_request_checker_number_T a0 a1 R w := by kernel_rfl
theorem ck_request_checker_number_go {a0 : Addr} {a1 : Addr} {R : Value → World → Prop} {w : World} (h : ck_request_checker_number_T a0 a1 R w) :
 Calls Tryz.prog 198 #[(.pointer (some a0)), (.pointer (some a1))] w fun e w' => ∃ v, e = .returned v ∧ R v w' :=
 calls_none Tryz.wide_mixed (f := 198) (args := [(.pointer (some a0)), (.pointer (some a1))]) Tryz.func198 rfl rfl (by kernel_rfl) rfl (Eq.mpr (ck_request_checker_number_eq a0 a1 R w) h)
def ck_request_checker_name_an : List LA := []
def ck_request_checker_name_T (a0 : Addr) (a1 : Addr) (R : Value → World → Prop) (w : World) : Prop :=
 ldBool w a0 fun t1 =>
 brB t1 (
 st w a0 [.bool true] fun w2 =>
 st w2 a1 [(.string (⟨#[]⟩ : ByteArray))] fun w3 =>
 R (.tuple #[]) w3)
 (
 ldStr w a1 fun s4 =>
 Calls Tryz.prog 163 #[.string s4] w fun e w5 => ∃ t6 : Bool, e = .returned (.bool t6) ∧
 st w5 a0 [(.bool (!t6))] fun w7 =>
 st w7 a1 [(.string (⟨#[]⟩ : ByteArray))] fun w8 =>
 R (.tuple #[]) w8)
theorem ck_request_checker_name_eq (a0 : Addr) (a1 : Addr) (R : Value → World → Prop) (w : World) :
 dnF Tryz.prog ck_request_checker_name_an (code Tryz.f196) 400 [] (post3 Tryz.prog Tryz.f196 [] R) ⟨args0 0 [(.pointer (some a0)), (.pointer (some a1))], fun _ => undef⟩ ⟨[], w, [], [], true⟩ = ck_request_checker_name_T a0 a1 R w := by kernel_rfl
theorem ck_request_checker_name_go {a0 : Addr} {a1 : Addr} {R : Value → World → Prop} {w : World} (h : ck_request_checker_name_T a0 a1 R w) :
 Calls Tryz.prog 196 #[(.pointer (some a0)), (.pointer (some a1))] w fun e w' => ∃ v, e = .returned v ∧ R v w' :=
 calls_none Tryz.wide_mixed (f := 196) (args := [(.pointer (some a0)), (.pointer (some a1))]) Tryz.func196 rfl rfl (by kernel_rfl) rfl (Eq.mpr (ck_request_checker_name_eq a0 a1 R w) h)
def ck_request_checker_flag_an : List LA := []
def ck_request_checker_flag_T (a1 : Addr) (a0 : Addr) (R : Value → World → Prop) (w : World) : Prop :=
 st w a0 [.bool false] fun w1 =>
 R (.tuple #[]) w1
theorem ck_request_checker_flag_eq (a1 : Addr) (a0 : Addr) (R : Value → World → Prop) (w : World) :
 dnF Tryz.prog ck_request_checker_flag_an (code Tryz.f195) 400 [] (post3 Tryz.prog Tryz.f195 [] R) ⟨args0 0 [(.pointer (some a1)), (.pointer (some a0))], fun _ => undef⟩ ⟨[], w, [], [], true⟩ = ck_request_checker_flag_T a1 a0 R w := by kernel_rfl
theorem ck_request_checker_flag_go {a1 : Addr} {a0 : Addr} {R : Value → World → Prop} {w : World} (h : ck_request_checker_flag_T a1 a0 R w) :
 Calls Tryz.prog 195 #[(.pointer (some a1)), (.pointer (some a0))] w fun e w' => ∃ v, e = .returned v ∧ R v w' :=
 calls_none Tryz.wide_mixed (f := 195) (args := [(.pointer (some a1)), (.pointer (some a0))]) Tryz.func195 rfl rfl (by kernel_rfl) rfl (Eq.mpr (ck_request_checker_flag_eq a1 a0 R w) h)
def ck_request_checker_batch_an : List LA := []
def ck_request_checker_batch_T (a1 : Addr) (a0 : Addr) (R : Value → World → Prop) (w : World) : Prop :=
 ldInt .i64 w a0 fun x1 => ldInt .i64 w (Addr.add a0 1) fun x2 => ldInt .i64 w (Addr.add a0 2) fun x3 => ldSlice w (Addr.add a0 3) fun a4 n5 c6 =>
 Calls Tryz.prog 199 #[(.agg #[.int .i64 x1, .int .i64 x2, .int .i64 x3, .slice a4 n5 c6])] w fun e w7 => ∃ x8 : Int, e = .returned (.int .i64 x8) ∧
 st w7 (Addr.add a1 2) [.int .i64 x8] fun w9 =>
 st w9 a0 [.int .i64 0, .int .i64 0, .int .i64 0, .slice none 0 0] fun w10 =>
 R (.tuple #[]) w10
theorem ck_request_checker_batch_eq (a0 : Addr) (a1 : Addr) (R : Value → World → Prop) (w : World) :
 dnF Tryz.prog ck_request_checker_batch_an (code Tryz.f194) 400 [] (post3 Tryz.prog Tryz.f194 [] R) ⟨args0 0 [(.pointer (some a0)), (.pointer (some a1))], fun _ => undef⟩ ⟨[], w, [], [], true⟩ = ck_request_checker_batch_T a0 a1 R w := by kernel_rfl
theorem ck_request_checker_batch_go {a0 : Addr} {a1 : Addr} {R : Value → World → Prop} {w : World} (h : ck_request_checker_batch_T a0 a1 R w) :
 Calls Tryz.prog 194 #[(.pointer (some a0)), (.pointer (some a1))] w fun e w' => ∃ v, e = .returned v ∧ R v w' :=
 calls_none Tryz.wide_mixed (f := 194) (args := [(.pointer (some a0)), (.pointer (some a1))]) Tryz.func194 rfl rfl (by kernel_rfl) rfl (Eq.mpr (ck_request_checker_batch_eq a0 a1 R w) h)
def ck_request_checker_names_la1 : LA := ⟨[0, 0, 1, 0, 1], [0, 1, 4, 5], [], 0, []⟩
def ck_request_checker_names_an : List LA := [ck_request_checker_names_la1]
def ck_request_checker_names_v1 (a0 : Addr) (a1 : Addr) (a2 : Bool) (a3 : Int) : List Value := [(.pointer (some a0)), (.pointer (some a1)), .bool a2, .int .i64 a3]
def ck_request_checker_names_m1 : List TB := []
def ck_request_checker_names_L1 (a2 : Addr) (a0 : Addr) (a5 : Bool) (a3 : Int) (K1 : Kh) (R : Value → World → Prop) (w : World) : Prop :=
 ldSlice w a0 fun a1 n2 c3 =>
 brB (decide (a3 < (n2 : Int))) (
 brB a5 (
 ldSlice w a0 fun a4 n5 c6 =>
 ixA a4 n5 (IntKind.wrap .i64 (a3 - 1)) 1 fun q7 =>
 ldStr w q7 fun s8 =>
 ldSlice w a0 fun a9 n10 c11 =>
 ixA a9 n10 a3 1 fun q12 =>
 ldStr w q12 fun s13 =>
 ∀ w14, Adv [] [] w w14 →
 K1 (ck_request_checker_names_v1 a2 a0 (Op.bytesLess s8.toList s13.toList) (IntKind.wrap .i64 (a3 + 1))) (ck_request_checker_names_m1) w14)
 (
 ∀ w15, Adv [] [] w w15 →
 K1 (ck_request_checker_names_v1 a2 a0 false (IntKind.wrap .i64 (a3 + 1))) (ck_request_checker_names_m1) w15))
 (
 ldSlice w a0 fun a16 n17 c18 =>
 Calls Tryz.prog 200 #[.slice a16 n17 c18, (.func (.func 201) #[] #[])] w fun e w19 => ∃ t20 : Bool, e = .returned (.bool t20) ∧
 ldBool w19 a2 fun t21 =>
 brB t21 (
 st w19 a2 [.bool true] fun w22 =>
 st w22 a0 [.slice none 0 0] fun w23 =>
 R (.tuple #[]) w23)
 (
 ldSlice w19 a0 fun a24 n25 c26 =>
 brB ((n25 : Int) == 0) (
 st w19 a2 [.bool true] fun w27 =>
 st w27 a0 [.slice none 0 0] fun w28 =>
 R (.tuple #[]) w28)
 (
 ldSlice w19 a0 fun a29 n30 c31 =>
 brB (decide ((n30 : Int) > 8)) (
 st w19 a2 [.bool true] fun w32 =>
 st w32 a0 [.slice none 0 0] fun w33 =>
 R (.tuple #[]) w33)
 (
 brB t20 (
 st w19 a2 [.bool true] fun w34 =>
 st w34 a0 [.slice none 0 0] fun w35 =>
 R (.tuple #[]) w35)
 (
 st w19 a2 [(.bool (!a5))] fun w36 =>
 st w36 a0 [.slice none 0 0] fun w37 =>
 R (.tuple #[]) w37)))))
theorem ck_request_checker_names_L1_eq (a0 : Addr) (a1 : Addr) (a2 : Bool) (a3 : Int) (K1 : Kh) (js : Nat → Value) (R : Value → World → Prop) (w : World) :
 headA ck_request_checker_names_la1 ((dnF Tryz.prog ck_request_checker_names_an (code Tryz.f197) 397 [0, 0, 1, 0, 1]) (kthen3 (atA ck_request_checker_names_la1 K1) (kont3 Tryz.prog ck_request_checker_names_an (code Tryz.f197) [1, 0, 1, 0] [] (post3 Tryz.prog Tryz.f197 [] R)))) (ck_request_checker_names_v1 a0 a1 a2 a3) js (ck_request_checker_names_m1) w = ck_request_checker_names_L1 a0 a1 a2 a3 K1 R w := by kernel_rfl
def ck_request_checker_names_K1 (a2 : Addr) (a3 : Addr) (I : Nat → Bool → Int → World → Prop) (m : Nat) (vals : List Value) (mem : List TB) (w : World) : Prop := ∃ m', m' < m ∧ ∃ a0 a1, vals = (ck_request_checker_names_v1 a2 a3 a0 a1) ∧ mem = (ck_request_checker_names_m1) ∧ I m' a0 a1 w
theorem ck_request_checker_names_leaf1 {a0 : Addr} {a1 : Addr} {I : Nat → Bool → Int → World → Prop} {m : Nat} {a2 : Bool} {a3 : Int} {w : World} (m' : Nat) (h1 : m' < m) (h2 : I m' a2 a3 w) : ck_request_checker_names_K1 a0 a1 I m (ck_request_checker_names_v1 a0 a1 a2 a3) (ck_request_checker_names_m1) w := ⟨m', h1, _, _, rfl, rfl, h2⟩
theorem ck_request_checker_names_rule1 {a2 : Addr} {a3 : Addr} {a4 : Bool} {a5 : Int} {R : Value → World → Prop} {w0 : World} (I : Nat → Bool → Int → World → Prop) (m0 : Nat) (h0 : I m0 a4 a5 w0)
 (hr : ∀ (m : Nat) (a0 : Bool) (a1 : Int) (w : World), I m a0 a1 w → ck_request_checker_names_L1 a2 a3 a0 a1 (ck_request_checker_names_K1 a2 a3 I m) R w) :
 loopD3 ck_request_checker_names_la1 (dnF Tryz.prog ck_request_checker_names_an (code Tryz.f197) 397 [0, 0, 1, 0, 1]) (kont3 Tryz.prog ck_request_checker_names_an (code Tryz.f197) [1, 0, 1, 0] [] (post3 Tryz.prog Tryz.f197 [] R)) (ck_request_checker_names_v1 a2 a3 a4 a5) (ck_request_checker_names_m1) w0 := by
 refine ⟨fun m vals mem w => ∃ a0 a1, vals = (ck_request_checker_names_v1 a2 a3 a0 a1) ∧ mem = (ck_request_checker_names_m1) ∧ I m a0 a1 w, m0, ⟨_, _, rfl, rfl, h0⟩, ?_⟩
 rintro m vals mem w ⟨a0, a1, rfl, rfl, hI⟩
 refine ⟨rfl, rfl, fun js => ?_⟩
 have h := hr m a0 a1 w hI
 rw [← ck_request_checker_names_L1_eq _ _ _ _ _ js] at h
 exact h
def ck_request_checker_names_T (a0 : Addr) (a1 : Addr) (R : Value → World → Prop) (w : World) : Prop :=
 loopD3 ck_request_checker_names_la1 (dnF Tryz.prog ck_request_checker_names_an (code Tryz.f197) 397 [0, 0, 1, 0, 1]) (kont3 Tryz.prog ck_request_checker_names_an (code Tryz.f197) [1, 0, 1, 0] [] (post3 Tryz.prog Tryz.f197 [] R)) (ck_request_checker_names_v1 a0 a1 true 1) (ck_request_checker_names_m1) w
theorem ck_request_checker_names_eq (a0 : Addr) (a1 : Addr) (R : Value → World → Prop) (w : World) :
 dnF Tryz.prog ck_request_checker_names_an (code Tryz.f197) 400 [] (post3 Tryz.prog Tryz.f197 [] R) ⟨args0 0 [(.pointer (some a0)), (.pointer (some a1))], fun _ => undef⟩ ⟨[], w, [], [], true⟩ = ck_request_checker_names_T a0 a1 R w := by kernel_rfl
theorem ck_request_checker_names_go {a0 : Addr} {a1 : Addr} {R : Value → World → Prop} {w : World} (h : ck_request_checker_names_T a0 a1 R w) :
 Calls Tryz.prog 197 #[(.pointer (some a0)), (.pointer (some a1))] w fun e w' => ∃ v, e = .returned v ∧ R v w' :=
 calls_none Tryz.wide_mixed (f := 197) (args := [(.pointer (some a0)), (.pointer (some a1))]) Tryz.func197 rfl rfl (by kernel_rfl) rfl (Eq.mpr (ck_request_checker_names_eq a0 a1 R w) h)
def ck_request_checker_names_1_an : List LA := []
def ck_request_checker_names_1_T (a0 : ByteArray) (R : Value → World → Prop) (w : World) : Prop :=
 Calls Tryz.prog 163 #[.string a0] w fun e w1 => ∃ t2 : Bool, e = .returned (.bool t2) ∧
 R (.bool (!t2)) w1
theorem ck_request_checker_names_1_eq (a0 : ByteArray) (R : Value → World → Prop) (w : World) :
 dnF Tryz.prog ck_request_checker_names_1_an (code Tryz.f201) 400 [] (post3 Tryz.prog Tryz.f201 [] R) ⟨args0 0 [.string a0], fun _ => undef⟩ ⟨[], w, [], [], true⟩ = ck_request_checker_names_1_T a0 R w := by kernel_rfl
theorem ck_request_checker_names_1_go {a0 : ByteArray} {R : Value → World → Prop} {w : World} (h : ck_request_checker_names_1_T a0 R w) :
 Calls Tryz.prog 201 #[.string a0] w fun e w' => ∃ v, e = .returned v ∧ R v w' :=
 calls_none Tryz.wide_mixed (f := 201) (args := [.string a0]) Tryz.func201 rfl rfl (by kernel_rfl) rfl (Eq.mpr (ck_request_checker_names_1_eq a0 R w) h)
def ck_slices_ContainsFunc_string_string_an : List LA := []
def ck_slices_ContainsFunc_string_string_T (a0 : Option Addr) (a2 a1 : Nat) (R : Value → World → Prop) (w : World) : Prop :=
 Calls Tryz.prog 203 #[.slice a0 a2 a1, (.func (.func 201) #[] #[])] w fun e w1 => ∃ x2 : Int, e = .returned (.int .i64 x2) ∧
 R (.bool (decide (x2 ≥ 0))) w1
theorem ck_slices_ContainsFunc_string_string_eq (a0 : Option Addr) (a2 a1 : Nat) (R : Value → World → Prop) (w : World) :
 dnF Tryz.prog ck_slices_ContainsFunc_string_string_an (code Tryz.f200) 400 [] (post3 Tryz.prog Tryz.f200 [] R) ⟨args0 0 [.slice a0 a2 a1, (.func (.func 201) #[] #[])], fun _ => undef⟩ ⟨[], w, [], [], true⟩ = ck_slices_ContainsFunc_string_string_T a0 a2 a1 R w := by kernel_rfl
theorem ck_slices_ContainsFunc_string_string_go {a0 : Option Addr} {a2 a1 : Nat} {R : Value → World → Prop} {w : World} (h : ck_slices_ContainsFunc_string_string_T a0 a2 a1 R w) :
 Calls Tryz.prog 200 #[.slice a0 a2 a1, (.func (.func 201) #[] #[])] w fun e w' => ∃ v, e = .returned v ∧ R v w' :=
 calls_none Tryz.wide_mixed (f := 200) (args := [.slice a0 a2 a1, (.func (.func 201) #[] #[])]) Tryz.func200 rfl rfl (by kernel_rfl) rfl (Eq.mpr (ck_slices_ContainsFunc_string_string_eq a0 a2 a1 R w) h)
def ck_slices_IndexFunc_string_string_la1 : LA := ⟨[0, 0, 1, 0, 1], [0, 1, 7, 8], [], 0, []⟩
def ck_slices_IndexFunc_string_string_an : List LA := [ck_slices_IndexFunc_string_string_la1]
def ck_slices_IndexFunc_string_string_v1 (a0 : Option Addr) (a2 a1 : Nat) (a3 a4 : Int) : List Value := [.slice a0 a2 a1, (.func (.func 201) #[] #[]), .int .i64 a3, .int .i64 a4]
def ck_slices_IndexFunc_string_string_m1 : List TB := []
def ck_slices_IndexFunc_string_string_L1 (a1 : Option Addr) (a2 a4 : Nat) (a3 a0 : Int) (K1 : Kh) (R : Value → World → Prop) (w : World) : Prop :=
 brB (decide (a0 < a3)) (
 ixA a1 a2 a0 1 fun q1 =>
 ldStr w q1 fun s2 =>
 Calls Tryz.prog 201 #[.string s2] w fun e w3 => ∃ t4 : Bool, e = .returned (.bool t4) ∧
 brB t4 (
 R (.int .i64 a0) w3)
 (
 K1 (ck_slices_IndexFunc_string_string_v1 a1 a2 a4 a3 (IntKind.wrap .i64 (a0 + 1))) (ck_slices_IndexFunc_string_string_m1) w3))
 (
 R (.int .i64 (-1)) w)
theorem ck_slices_IndexFunc_string_string_L1_eq (a0 : Option Addr) (a2 a1 : Nat) (a3 a4 : Int) (K1 : Kh) (js : Nat → Value) (R : Value → World → Prop) (w : World) :
 headA ck_slices_IndexFunc_string_string_la1 ((dnF Tryz.prog ck_slices_IndexFunc_string_string_an (code Tryz.f203) 397 [0, 0, 1, 0, 1]) (kthen3 (atA ck_slices_IndexFunc_string_string_la1 K1) (kont3 Tryz.prog ck_slices_IndexFunc_string_string_an (code Tryz.f203) [1, 0, 1, 0] [] (post3 Tryz.prog Tryz.f203 [] R)))) (ck_slices_IndexFunc_string_string_v1 a0 a2 a1 a3 a4) js (ck_slices_IndexFunc_string_string_m1) w = ck_slices_IndexFunc_string_string_L1 a0 a2 a1 a3 a4 K1 R w := by kernel_rfl
def ck_slices_IndexFunc_string_string_K1 (a1 : Option Addr) (a3 a2 : Nat) (a4 : Int) (I : Nat → Int → World → Prop) (m : Nat) (vals : List Value) (mem : List TB) (w : World) : Prop := ∃ m', m' < m ∧ ∃ a0, vals = (ck_slices_IndexFunc_string_string_v1 a1 a3 a2 a4 a0) ∧ mem = (ck_slices_IndexFunc_string_string_m1) ∧ I m' a0 w
theorem ck_slices_IndexFunc_string_string_leaf1 {a0 : Option Addr} {a2 a1 : Nat} {a3 : Int} {I : Nat → Int → World → Prop} {m : Nat} {a4 : Int} {w : World} (m' : Nat) (h1 : m' < m) (h2 : I m' a4 w) : ck_slices_IndexFunc_string_string_K1 a0 a2 a1 a3 I m (ck_slices_IndexFunc_string_string_v1 a0 a2 a1 a3 a4) (ck_slices_IndexFunc_string_string_m1) w := ⟨m', h1, _, rfl, rfl, h2⟩
theorem ck_slices_IndexFunc_string_string_rule1 {a1 : Option Addr} {a3 a2 : Nat} {a4 a5 : Int} {R : Value → World → Prop} {w0 : World} (I : Nat → Int → World → Prop) (m0 : Nat) (h0 : I m0 a5 w0)
 (hr : ∀ (m : Nat) (a0 : Int) (w : World), I m a0 w → ck_slices_IndexFunc_string_string_L1 a1 a3 a2 a4 a0 (ck_slices_IndexFunc_string_string_K1 a1 a3 a2 a4 I m) R w) :
 loopD3 ck_slices_IndexFunc_string_string_la1 (dnF Tryz.prog ck_slices_IndexFunc_string_string_an (code Tryz.f203) 397 [0, 0, 1, 0, 1]) (kont3 Tryz.prog ck_slices_IndexFunc_string_string_an (code Tryz.f203) [1, 0, 1, 0] [] (post3 Tryz.prog Tryz.f203 [] R)) (ck_slices_IndexFunc_string_string_v1 a1 a3 a2 a4 a5) (ck_slices_IndexFunc_string_string_m1) w0 := by
 refine ⟨fun m vals mem w => ∃ a0, vals = (ck_slices_IndexFunc_string_string_v1 a1 a3 a2 a4 a0) ∧ mem = (ck_slices_IndexFunc_string_string_m1) ∧ I m a0 w, m0, ⟨_, rfl, rfl, h0⟩, ?_⟩
 rintro m vals mem w ⟨a0, rfl, rfl, hI⟩
 refine ⟨rfl, rfl, fun js => ?_⟩
 have h := hr m a0 w hI
 rw [← ck_slices_IndexFunc_string_string_L1_eq _ _ _ _ _ _ js] at h
 exact h
def ck_slices_IndexFunc_string_string_T (a1 : Option Addr) (a0 a2 : Nat) (R : Value → World → Prop) (w : World) : Prop :=
 loopD3 ck_slices_IndexFunc_string_string_la1 (dnF Tryz.prog ck_slices_IndexFunc_string_string_an (code Tryz.f203) 397 [0, 0, 1, 0, 1]) (kont3 Tryz.prog ck_slices_IndexFunc_string_string_an (code Tryz.f203) [1, 0, 1, 0] [] (post3 Tryz.prog Tryz.f203 [] R)) (ck_slices_IndexFunc_string_string_v1 a1 a0 a2 (a0 : Int) 0) (ck_slices_IndexFunc_string_string_m1) w
theorem ck_slices_IndexFunc_string_string_eq (a0 : Option Addr) (a2 a1 : Nat) (R : Value → World → Prop) (w : World) :
 dnF Tryz.prog ck_slices_IndexFunc_string_string_an (code Tryz.f203) 400 [] (post3 Tryz.prog Tryz.f203 [] R) ⟨args0 0 [.slice a0 a2 a1, (.func (.func 201) #[] #[])], fun _ => undef⟩ ⟨[], w, [], [], true⟩ = ck_slices_IndexFunc_string_string_T a0 a2 a1 R w := by kernel_rfl
theorem ck_slices_IndexFunc_string_string_go {a0 : Option Addr} {a2 a1 : Nat} {R : Value → World → Prop} {w : World} (h : ck_slices_IndexFunc_string_string_T a0 a2 a1 R w) :
 Calls Tryz.prog 203 #[.slice a0 a2 a1, (.func (.func 201) #[] #[])] w fun e w' => ∃ v, e = .returned v ∧ R v w' :=
 calls_none Tryz.wide_mixed (f := 203) (args := [.slice a0 a2 a1, (.func (.func 201) #[] #[])]) Tryz.func203 rfl rfl (by kernel_rfl) rfl (Eq.mpr (ck_slices_IndexFunc_string_string_eq a0 a2 a1 R w) h)
def ck_request_part_an : List LA := []
def ck_request_part_T (a1 : Addr) (a0 : Addr) (R : Value → World → Prop) (w : World) : Prop :=
 ∀ w1, Adv [] [] w w1 →
 Calls Tryz.prog 196 #[(.pointer (some a0)), (.pointer (some a1))] w1 fun e w2 => e = .returned (.tuple #[]) ∧
 ∀ w3, Adv [] [] w2 w3 →
 Calls Tryz.prog 198 #[(.pointer (some a0)), (.pointer (some (Addr.add a1 1)))] w3 fun e w4 => e = .returned (.tuple #[]) ∧
 R (.tuple #[]) w4
theorem ck_request_part_eq (a1 : Addr) (a0 : Addr) (R : Value → World → Prop) (w : World) :
 dnF Tryz.prog ck_request_part_an (code Tryz.f142) 400 [] (post3 Tryz.prog Tryz.f142 [] R) ⟨args0 0 [(.iface 153 (.pointer (some a0))), (.pointer (some a1))], fun _ => undef⟩ ⟨[], w, [], [], true⟩ = ck_request_part_T a1 a0 R w := by kernel_rfl
theorem ck_request_part_go {a1 : Addr} {a0 : Addr} {R : Value → World → Prop} {w : World} (h : ck_request_part_T a1 a0 R w) :
 Calls Tryz.prog 142 #[(.iface 153 (.pointer (some a0))), (.pointer (some a1))] w fun e w' => ∃ v, e = .returned v ∧ R v w' :=
 calls_none Tryz.wide_mixed (f := 142) (args := [(.iface 153 (.pointer (some a0))), (.pointer (some a1))]) Tryz.func142 rfl rfl (by kernel_rfl) rfl (Eq.mpr (ck_request_part_eq a1 a0 R w) h)
def ck_request_member_an : List LA := []
def ck_request_member_T (a1 : Addr) (a0 : Addr) (R : Value → World → Prop) (w : World) : Prop :=
 ∀ w1, Adv [] [] w w1 →
 Calls Tryz.prog 196 #[(.pointer (some a0)), (.pointer (some (Addr.add a1 9)))] w1 fun e w2 => e = .returned (.tuple #[]) ∧
 ∀ w3, Adv [] [] w2 w3 →
 Calls Tryz.prog 196 #[(.pointer (some a0)), (.pointer (some (Addr.add a1 10)))] w3 fun e w4 => e = .returned (.tuple #[]) ∧
 R (.tuple #[]) w4
theorem ck_request_member_eq (a1 : Addr) (a0 : Addr) (R : Value → World → Prop) (w : World) :
 dnF Tryz.prog ck_request_member_an (code Tryz.f143) 400 [] (post3 Tryz.prog Tryz.f143 [] R) ⟨args0 0 [(.iface 153 (.pointer (some a0))), (.pointer (some a1))], fun _ => undef⟩ ⟨[], w, [], [], true⟩ = ck_request_member_T a1 a0 R w := by kernel_rfl
theorem ck_request_member_go {a1 : Addr} {a0 : Addr} {R : Value → World → Prop} {w : World} (h : ck_request_member_T a1 a0 R w) :
 Calls Tryz.prog 143 #[(.iface 153 (.pointer (some a0))), (.pointer (some a1))] w fun e w' => ∃ v, e = .returned v ∧ R v w' :=
 calls_none Tryz.wide_mixed (f := 143) (args := [(.iface 153 (.pointer (some a0))), (.pointer (some a1))]) Tryz.func143 rfl rfl (by kernel_rfl) rfl (Eq.mpr (ck_request_member_eq a1 a0 R w) h)
def ck_request_visit_an : List LA := []
def ck_request_visit_T (a1 : Addr) (a0 : Addr) (R : Value → World → Prop) (w : World) : Prop :=
 ldInt .i64 w a1 fun x1 =>
 brB (x1 == 0) (
 ∀ w2, Adv [] [] w w2 →
 Calls Tryz.prog 196 #[(.pointer (some a0)), (.pointer (some (Addr.add a1 1)))] w2 fun e w3 => e = .returned (.tuple #[]) ∧
 ∀ w4, Adv [] [] w3 w4 →
 Calls Tryz.prog 198 #[(.pointer (some a0)), (.pointer (some (Addr.add a1 3)))] w4 fun e w5 => e = .returned (.tuple #[]) ∧
 R (.tuple #[]) w5)
 (
 brB (x1 == 1) (
 brB (x1 == 1) (
 ∀ w6, Adv [] [] w w6 →
 Calls Tryz.prog 198 #[(.pointer (some a0)), (.pointer (some (Addr.add a1 3)))] w6 fun e w7 => e = .returned (.tuple #[]) ∧
 R (.tuple #[]) w7)
 (
 brB (x1 == 2) (
 Calls Tryz.prog 142 #[(.iface 153 (.pointer (some a0))), (.pointer (some (Addr.add a1 1)))] w fun e w8 => e = .returned (.tuple #[]) ∧
 ∀ w9, Adv [] [] w8 w9 →
 Calls Tryz.prog 194 #[(.pointer (some a0)), (.pointer (some (Addr.add a1 5)))] w9 fun e w10 => e = .returned (.tuple #[]) ∧
 R (.tuple #[]) w10)
 (
 brB (x1 == 3) (
 Calls Tryz.prog 142 #[(.iface 153 (.pointer (some a0))), (.pointer (some (Addr.add a1 1)))] w fun e w11 => e = .returned (.tuple #[]) ∧
 ∀ w12, Adv [] [] w11 w12 →
 Calls Tryz.prog 198 #[(.pointer (some a0)), (.pointer (some (Addr.add a1 4)))] w12 fun e w13 => e = .returned (.tuple #[]) ∧
 ∀ w14, Adv [] [] w13 w14 →
 Calls Tryz.prog 198 #[(.pointer (some a0)), (.pointer (some (Addr.add a1 3)))] w14 fun e w15 => e = .returned (.tuple #[]) ∧
 R (.tuple #[]) w15)
 (
 brB (x1 == 4) (
 Calls Tryz.prog 142 #[(.iface 153 (.pointer (some a0))), (.pointer (some (Addr.add a1 1)))] w fun e w16 => e = .returned (.tuple #[]) ∧
 ∀ w17, Adv [] [] w16 w17 →
 Calls Tryz.prog 198 #[(.pointer (some a0)), (.pointer (some (Addr.add a1 4)))] w17 fun e w18 => e = .returned (.tuple #[]) ∧
 R (.tuple #[]) w18)
 (
 brB (x1 == 5) (
 Calls Tryz.prog 142 #[(.iface 153 (.pointer (some a0))), (.pointer (some (Addr.add a1 1)))] w fun e w19 => e = .returned (.tuple #[]) ∧
 R (.tuple #[]) w19)
 (
 brB (x1 == 6) (
 Calls Tryz.prog 143 #[(.iface 153 (.pointer (some a0))), (.pointer (some a1))] w fun e w20 => e = .returned (.tuple #[]) ∧
 ∀ w21, Adv [] [] w20 w21 →
 Calls Tryz.prog 198 #[(.pointer (some a0)), (.pointer (some (Addr.add a1 3)))] w21 fun e w22 => e = .returned (.tuple #[]) ∧
 ∀ w23, Adv [] [] w22 w23 →
 Calls Tryz.prog 195 #[(.pointer (some a0)), (.pointer (some (Addr.add a1 12)))] w23 fun e w24 => e = .returned (.tuple #[]) ∧
 ∀ w25, Adv [] [] w24 w25 →
 Calls Tryz.prog 197 #[(.pointer (some a0)), (.pointer (some (Addr.add a1 13)))] w25 fun e w26 => e = .returned (.tuple #[]) ∧
 R (.tuple #[]) w26)
 (
 brB (x1 == 7) (
 brB (x1 == 7) (
 Calls Tryz.prog 143 #[(.iface 153 (.pointer (some a0))), (.pointer (some a1))] w fun e w27 => e = .returned (.tuple #[]) ∧
 ∀ w28, Adv [] [] w27 w28 →
 Calls Tryz.prog 198 #[(.pointer (some a0)), (.pointer (some (Addr.add a1 11)))] w28 fun e w29 => e = .returned (.tuple #[]) ∧
 R (.tuple #[]) w29)
 (
 brB (x1 == 10) (
 Calls Tryz.prog 143 #[(.iface 153 (.pointer (some a0))), (.pointer (some a1))] w fun e w30 => e = .returned (.tuple #[]) ∧
 ∀ w31, Adv [] [] w30 w31 →
 Calls Tryz.prog 198 #[(.pointer (some a0)), (.pointer (some (Addr.add a1 11)))] w31 fun e w32 => e = .returned (.tuple #[]) ∧
 Calls Tryz.prog 142 #[(.iface 153 (.pointer (some a0))), (.pointer (some (Addr.add a1 1)))] w32 fun e w33 => e = .returned (.tuple #[]) ∧
 ∀ w34, Adv [] [] w33 w34 →
 Calls Tryz.prog 198 #[(.pointer (some a0)), (.pointer (some (Addr.add a1 4)))] w34 fun e w35 => e = .returned (.tuple #[]) ∧
 R (.tuple #[]) w35)
 (
 brB (x1 == 11) (
 ∀ w36, Adv [] [] w w36 →
 Calls Tryz.prog 196 #[(.pointer (some a0)), (.pointer (some (Addr.add a1 9)))] w36 fun e w37 => e = .returned (.tuple #[]) ∧
 Calls Tryz.prog 142 #[(.iface 153 (.pointer (some a0))), (.pointer (some (Addr.add a1 1)))] w37 fun e w38 => e = .returned (.tuple #[]) ∧
 R (.tuple #[]) w38)
 (
 R (.tuple #[]) w))))
 (
 brB (x1 == 8) (
 brB (x1 == 8) (
 Calls Tryz.prog 143 #[(.iface 153 (.pointer (some a0))), (.pointer (some a1))] w fun e w39 => e = .returned (.tuple #[]) ∧
 ∀ w40, Adv [] [] w39 w40 →
 Calls Tryz.prog 198 #[(.pointer (some a0)), (.pointer (some (Addr.add a1 11)))] w40 fun e w41 => e = .returned (.tuple #[]) ∧
 R (.tuple #[]) w41)
 (
 brB (x1 == 10) (
 Calls Tryz.prog 143 #[(.iface 153 (.pointer (some a0))), (.pointer (some a1))] w fun e w42 => e = .returned (.tuple #[]) ∧
 ∀ w43, Adv [] [] w42 w43 →
 Calls Tryz.prog 198 #[(.pointer (some a0)), (.pointer (some (Addr.add a1 11)))] w43 fun e w44 => e = .returned (.tuple #[]) ∧
 Calls Tryz.prog 142 #[(.iface 153 (.pointer (some a0))), (.pointer (some (Addr.add a1 1)))] w44 fun e w45 => e = .returned (.tuple #[]) ∧
 ∀ w46, Adv [] [] w45 w46 →
 Calls Tryz.prog 198 #[(.pointer (some a0)), (.pointer (some (Addr.add a1 4)))] w46 fun e w47 => e = .returned (.tuple #[]) ∧
 R (.tuple #[]) w47)
 (
 brB (x1 == 11) (
 ∀ w48, Adv [] [] w w48 →
 Calls Tryz.prog 196 #[(.pointer (some a0)), (.pointer (some (Addr.add a1 9)))] w48 fun e w49 => e = .returned (.tuple #[]) ∧
 Calls Tryz.prog 142 #[(.iface 153 (.pointer (some a0))), (.pointer (some (Addr.add a1 1)))] w49 fun e w50 => e = .returned (.tuple #[]) ∧
 R (.tuple #[]) w50)
 (
 R (.tuple #[]) w))))
 (
 brB (x1 == 9) (
 Calls Tryz.prog 143 #[(.iface 153 (.pointer (some a0))), (.pointer (some a1))] w fun e w51 => e = .returned (.tuple #[]) ∧
 ∀ w52, Adv [] [] w51 w52 →
 Calls Tryz.prog 198 #[(.pointer (some a0)), (.pointer (some (Addr.add a1 11)))] w52 fun e w53 => e = .returned (.tuple #[]) ∧
 R (.tuple #[]) w53)
 (
 brB (x1 == 10) (
 Calls Tryz.prog 143 #[(.iface 153 (.pointer (some a0))), (.pointer (some a1))] w fun e w54 => e = .returned (.tuple #[]) ∧
 ∀ w55, Adv [] [] w54 w55 →
 Calls Tryz.prog 198 #[(.pointer (some a0)), (.pointer (some (Addr.add a1 11)))] w55 fun e w56 => e = .returned (.tuple #[]) ∧
 Calls Tryz.prog 142 #[(.iface 153 (.pointer (some a0))), (.pointer (some (Addr.add a1 1)))] w56 fun e w57 => e = .returned (.tuple #[]) ∧
 ∀ w58, Adv [] [] w57 w58 →
 Calls Tryz.prog 198 #[(.pointer (some a0)), (.pointer (some (Addr.add a1 4)))] w58 fun e w59 => e = .returned (.tuple #[]) ∧
 R (.tuple #[]) w59)
 (
 brB (x1 == 11) (
 ∀ w60, Adv [] [] w w60 →
 Calls Tryz.prog 196 #[(.pointer (some a0)), (.pointer (some (Addr.add a1 9)))] w60 fun e w61 => e = .returned (.tuple #[]) ∧
 Calls Tryz.prog 142 #[(.iface 153 (.pointer (some a0))), (.pointer (some (Addr.add a1 1)))] w61 fun e w62 => e = .returned (.tuple #[]) ∧
 R (.tuple #[]) w62)
 (
 R (.tuple #[]) w))))))))))))
 (
 brB (x1 == 12) (
 ∀ w63, Adv [] [] w w63 →
 Calls Tryz.prog 198 #[(.pointer (some a0)), (.pointer (some (Addr.add a1 3)))] w63 fun e w64 => e = .returned (.tuple #[]) ∧
 R (.tuple #[]) w64)
 (
 brB (x1 == 2) (
 Calls Tryz.prog 142 #[(.iface 153 (.pointer (some a0))), (.pointer (some (Addr.add a1 1)))] w fun e w65 => e = .returned (.tuple #[]) ∧
 ∀ w66, Adv [] [] w65 w66 →
 Calls Tryz.prog 194 #[(.pointer (some a0)), (.pointer (some (Addr.add a1 5)))] w66 fun e w67 => e = .returned (.tuple #[]) ∧
 R (.tuple #[]) w67)
 (
 brB (x1 == 3) (
 Calls Tryz.prog 142 #[(.iface 153 (.pointer (some a0))), (.pointer (some (Addr.add a1 1)))] w fun e w68 => e = .returned (.tuple #[]) ∧
 ∀ w69, Adv [] [] w68 w69 →
 Calls Tryz.prog 198 #[(.pointer (some a0)), (.pointer (some (Addr.add a1 4)))] w69 fun e w70 => e = .returned (.tuple #[]) ∧
 ∀ w71, Adv [] [] w70 w71 →
 Calls Tryz.prog 198 #[(.pointer (some a0)), (.pointer (some (Addr.add a1 3)))] w71 fun e w72 => e = .returned (.tuple #[]) ∧
 R (.tuple #[]) w72)
 (
 brB (x1 == 4) (
 Calls Tryz.prog 142 #[(.iface 153 (.pointer (some a0))), (.pointer (some (Addr.add a1 1)))] w fun e w73 => e = .returned (.tuple #[]) ∧
 ∀ w74, Adv [] [] w73 w74 →
 Calls Tryz.prog 198 #[(.pointer (some a0)), (.pointer (some (Addr.add a1 4)))] w74 fun e w75 => e = .returned (.tuple #[]) ∧
 R (.tuple #[]) w75)
 (
 brB (x1 == 5) (
 Calls Tryz.prog 142 #[(.iface 153 (.pointer (some a0))), (.pointer (some (Addr.add a1 1)))] w fun e w76 => e = .returned (.tuple #[]) ∧
 R (.tuple #[]) w76)
 (
 brB (x1 == 6) (
 Calls Tryz.prog 143 #[(.iface 153 (.pointer (some a0))), (.pointer (some a1))] w fun e w77 => e = .returned (.tuple #[]) ∧
 ∀ w78, Adv [] [] w77 w78 →
 Calls Tryz.prog 198 #[(.pointer (some a0)), (.pointer (some (Addr.add a1 3)))] w78 fun e w79 => e = .returned (.tuple #[]) ∧
 ∀ w80, Adv [] [] w79 w80 →
 Calls Tryz.prog 195 #[(.pointer (some a0)), (.pointer (some (Addr.add a1 12)))] w80 fun e w81 => e = .returned (.tuple #[]) ∧
 ∀ w82, Adv [] [] w81 w82 →
 Calls Tryz.prog 197 #[(.pointer (some a0)), (.pointer (some (Addr.add a1 13)))] w82 fun e w83 => e = .returned (.tuple #[]) ∧
 R (.tuple #[]) w83)
 (
 brB (x1 == 7) (
 brB (x1 == 7) (
 Calls Tryz.prog 143 #[(.iface 153 (.pointer (some a0))), (.pointer (some a1))] w fun e w84 => e = .returned (.tuple #[]) ∧
 ∀ w85, Adv [] [] w84 w85 →
 Calls Tryz.prog 198 #[(.pointer (some a0)), (.pointer (some (Addr.add a1 11)))] w85 fun e w86 => e = .returned (.tuple #[]) ∧
 R (.tuple #[]) w86)
 (
 brB (x1 == 10) (
 Calls Tryz.prog 143 #[(.iface 153 (.pointer (some a0))), (.pointer (some a1))] w fun e w87 => e = .returned (.tuple #[]) ∧
 ∀ w88, Adv [] [] w87 w88 →
 Calls Tryz.prog 198 #[(.pointer (some a0)), (.pointer (some (Addr.add a1 11)))] w88 fun e w89 => e = .returned (.tuple #[]) ∧
 Calls Tryz.prog 142 #[(.iface 153 (.pointer (some a0))), (.pointer (some (Addr.add a1 1)))] w89 fun e w90 => e = .returned (.tuple #[]) ∧
 ∀ w91, Adv [] [] w90 w91 →
 Calls Tryz.prog 198 #[(.pointer (some a0)), (.pointer (some (Addr.add a1 4)))] w91 fun e w92 => e = .returned (.tuple #[]) ∧
 R (.tuple #[]) w92)
 (
 brB (x1 == 11) (
 ∀ w93, Adv [] [] w w93 →
 Calls Tryz.prog 196 #[(.pointer (some a0)), (.pointer (some (Addr.add a1 9)))] w93 fun e w94 => e = .returned (.tuple #[]) ∧
 Calls Tryz.prog 142 #[(.iface 153 (.pointer (some a0))), (.pointer (some (Addr.add a1 1)))] w94 fun e w95 => e = .returned (.tuple #[]) ∧
 R (.tuple #[]) w95)
 (
 R (.tuple #[]) w))))
 (
 brB (x1 == 8) (
 brB (x1 == 8) (
 Calls Tryz.prog 143 #[(.iface 153 (.pointer (some a0))), (.pointer (some a1))] w fun e w96 => e = .returned (.tuple #[]) ∧
 ∀ w97, Adv [] [] w96 w97 →
 Calls Tryz.prog 198 #[(.pointer (some a0)), (.pointer (some (Addr.add a1 11)))] w97 fun e w98 => e = .returned (.tuple #[]) ∧
 R (.tuple #[]) w98)
 (
 brB (x1 == 10) (
 Calls Tryz.prog 143 #[(.iface 153 (.pointer (some a0))), (.pointer (some a1))] w fun e w99 => e = .returned (.tuple #[]) ∧
 ∀ w100, Adv [] [] w99 w100 →
 Calls Tryz.prog 198 #[(.pointer (some a0)), (.pointer (some (Addr.add a1 11)))] w100 fun e w101 => e = .returned (.tuple #[]) ∧
 Calls Tryz.prog 142 #[(.iface 153 (.pointer (some a0))), (.pointer (some (Addr.add a1 1)))] w101 fun e w102 => e = .returned (.tuple #[]) ∧
 ∀ w103, Adv [] [] w102 w103 →
 Calls Tryz.prog 198 #[(.pointer (some a0)), (.pointer (some (Addr.add a1 4)))] w103 fun e w104 => e = .returned (.tuple #[]) ∧
 R (.tuple #[]) w104)
 (
 brB (x1 == 11) (
 ∀ w105, Adv [] [] w w105 →
 Calls Tryz.prog 196 #[(.pointer (some a0)), (.pointer (some (Addr.add a1 9)))] w105 fun e w106 => e = .returned (.tuple #[]) ∧
 Calls Tryz.prog 142 #[(.iface 153 (.pointer (some a0))), (.pointer (some (Addr.add a1 1)))] w106 fun e w107 => e = .returned (.tuple #[]) ∧
 R (.tuple #[]) w107)
 (
 R (.tuple #[]) w))))
 (
 brB (x1 == 9) (
 Calls Tryz.prog 143 #[(.iface 153 (.pointer (some a0))), (.pointer (some a1))] w fun e w108 => e = .returned (.tuple #[]) ∧
 ∀ w109, Adv [] [] w108 w109 →
 Calls Tryz.prog 198 #[(.pointer (some a0)), (.pointer (some (Addr.add a1 11)))] w109 fun e w110 => e = .returned (.tuple #[]) ∧
 R (.tuple #[]) w110)
 (
 brB (x1 == 10) (
 Calls Tryz.prog 143 #[(.iface 153 (.pointer (some a0))), (.pointer (some a1))] w fun e w111 => e = .returned (.tuple #[]) ∧
 ∀ w112, Adv [] [] w111 w112 →
 Calls Tryz.prog 198 #[(.pointer (some a0)), (.pointer (some (Addr.add a1 11)))] w112 fun e w113 => e = .returned (.tuple #[]) ∧
 Calls Tryz.prog 142 #[(.iface 153 (.pointer (some a0))), (.pointer (some (Addr.add a1 1)))] w113 fun e w114 => e = .returned (.tuple #[]) ∧
 ∀ w115, Adv [] [] w114 w115 →
 Calls Tryz.prog 198 #[(.pointer (some a0)), (.pointer (some (Addr.add a1 4)))] w115 fun e w116 => e = .returned (.tuple #[]) ∧
 R (.tuple #[]) w116)
 (
 brB (x1 == 11) (
 ∀ w117, Adv [] [] w w117 →
 Calls Tryz.prog 196 #[(.pointer (some a0)), (.pointer (some (Addr.add a1 9)))] w117 fun e w118 => e = .returned (.tuple #[]) ∧
 Calls Tryz.prog 142 #[(.iface 153 (.pointer (some a0))), (.pointer (some (Addr.add a1 1)))] w118 fun e w119 => e = .returned (.tuple #[]) ∧
 R (.tuple #[]) w119)
 (
 R (.tuple #[]) w)))))))))))))
theorem ck_request_visit_eq (a1 : Addr) (a0 : Addr) (R : Value → World → Prop) (w : World) :
 dnF Tryz.prog ck_request_visit_an (code Tryz.f104) 400 [] (post3 Tryz.prog Tryz.f104 [] R) ⟨args0 0 [(.iface 153 (.pointer (some a0))), (.pointer (some a1))], fun _ => undef⟩ ⟨[], w, [], [], true⟩ = ck_request_visit_T a1 a0 R w := by kernel_rfl
theorem ck_request_visit_go {a1 : Addr} {a0 : Addr} {R : Value → World → Prop} {w : World} (h : ck_request_visit_T a1 a0 R w) :
 Calls Tryz.prog 104 #[(.iface 153 (.pointer (some a0))), (.pointer (some a1))] w fun e w' => ∃ v, e = .returned v ∧ R v w' :=
 calls_none Tryz.wide_mixed (f := 104) (args := [(.iface 153 (.pointer (some a0))), (.pointer (some a1))]) Tryz.func104 rfl rfl (by kernel_rfl) rfl (Eq.mpr (ck_request_visit_eq a1 a0 R w) h)
def ck_request_Check_an : List LA := []
def ck_request_Check_T (a0 : Int) (b0 : ByteArray) (b2 b3 b5 b6 b7 b8 : Int) (a4 : Option Addr) (a6 a5 : Nat) (b9 a7 : ByteArray) (a8 : Int) (a9 : Bool) (a1 : Option Addr) (a3 a2 : Nat) (R : Value → World → Prop) (w : World) : Prop :=
 ∀ b1, w.heap.size ≤ b1 →
 brB (decide (a0 < 0)) (
 ∀ w2, Adv [] [b1] w w2 →
 R (.int .i64 41) w2)
 (
 brB (decide (a0 ≥ 13)) (
 ∀ w3, Adv [] [b1] w w3 →
 R (.int .i64 41) w3)
 (
 ∀ b4, w.heap.size ≤ b4 →
 ∀ w5, Adv [] [b4, b1] w w5 → w5.heap[b1]? = some (.cells #[.int .i64 a0, .string b0, .int .i64 b2, .int .i64 b3, .int .i64 b5, .int .i64 b6, .int .i64 b7, .int .i64 b8, .slice a4 a6 a5, .string b9, .string a7, .int .i64 a8, .bool a9, .slice a1 a3 a2] 38) →
 w5.heap[b4]? = some (.cells #[.bool false, .bool false, .int .i64 0] 155) →
 Calls Tryz.prog 104 #[(.iface 153 (.pointer (some ⟨b4, 0, none⟩))), (.pointer (some ⟨b1, 0, none⟩))] w5 fun e w6 => e = .returned (.tuple #[]) ∧ ∃ (x7 : Int) (s8 : ByteArray) (x9 x10 x11 x12 x13 x14 : Int) (a15 : Option Addr) (n16 c17 : Nat) (s18 s19 : ByteArray) (x20 : Int) (t21 : Bool) (a22 : Option Addr) (n23 c24 : Nat), w6.heap[b1]? = some (.cells #[.int .i64 x7, .string s8, .int .i64 x9, .int .i64 x10, .int .i64 x11, .int .i64 x12, .int .i64 x13, .int .i64 x14, .slice a15 n16 c17, .string s18, .string s19, .int .i64 x20, .bool t21, .slice a22 n23 c24] 38) ∧ ∃ (t25 t26 : Bool) (x27 : Int), w6.heap[b4]? = some (.cells #[.bool t25, .bool t26, .int .i64 x27] 155) ∧
 brB t25 (
 ∀ w28, Adv [b1] [] w6 w28 → w28.heap[b1]? = some (.cells #[.int .i64 0, .string s8, .int .i64 x9, .int .i64 x10, .int .i64 x11, .int .i64 x12, .int .i64 x13, .int .i64 x14, .slice a15 n16 c17, .string s18, .string s19, .int .i64 x20, .bool t21, .slice a22 n23 c24] 38) →
 w28.heap[b4]? = some (.cells #[.bool t25, .bool t26, .int .i64 x27] 155) →
 R (.int .i64 40) w28)
 (
 ∀ w29, Adv [b1] [] w6 w29 → w29.heap[b1]? = some (.cells #[.int .i64 0, .string s8, .int .i64 x9, .int .i64 x10, .int .i64 x11, .int .i64 x12, .int .i64 x13, .int .i64 x14, .slice a15 n16 c17, .string s18, .string s19, .int .i64 x20, .bool t21, .slice a22 n23 c24] 38) →
 w29.heap[b4]? = some (.cells #[.bool t25, .bool t26, .int .i64 x27] 155) →
 Calls Tryz.prog 95 #[(.agg #[.int .i64 0, .string s8, .int .i64 x9, .int .i64 x10, .int .i64 x11, .int .i64 x12, .int .i64 x13, .int .i64 x14, .slice a15 n16 c17, .string s18, .string s19, .int .i64 x20, .bool t21, .slice a22 n23 c24]), (.agg #[.int .i64 0, .string ByteArray.empty, .int .i64 0, .int .i64 0, .int .i64 0, .int .i64 0, .int .i64 0, .int .i64 0, .slice none 0 0, .string ByteArray.empty, .string ByteArray.empty, .int .i64 0, .bool false, .slice none 0 0])] w29 fun e w30 => ∃ t31 : Bool, e = .returned (.bool t31) ∧ ∃ (x32 : Int) (s33 : ByteArray) (x34 x35 x36 x37 x38 x39 : Int) (a40 : Option Addr) (n41 c42 : Nat) (s43 s44 : ByteArray) (x45 : Int) (t46 : Bool) (a47 : Option Addr) (n48 c49 : Nat), w30.heap[b1]? = some (.cells #[.int .i64 x32, .string s33, .int .i64 x34, .int .i64 x35, .int .i64 x36, .int .i64 x37, .int .i64 x38, .int .i64 x39, .slice a40 n41 c42, .string s43, .string s44, .int .i64 x45, .bool t46, .slice a47 n48 c49] 38) ∧ ∃ (t50 t51 : Bool) (x52 : Int), w30.heap[b4]? = some (.cells #[.bool t50, .bool t51, .int .i64 x52] 155) ∧
 brB (!t31) (
 R (.int .i64 40) w30)
 (
 brB t51 (
 R (.int .i64 1) w30)
 (
 R (.int .i64 x52) w30)))))
theorem ck_request_Check_eq (a9 : Int) (b0 : ByteArray) (b1 b2 b3 b4 b5 b6 : Int) (a3 : Option Addr) (a5 a4 : Nat) (b7 a6 : ByteArray) (a7 : Int) (a8 : Bool) (a0 : Option Addr) (a2 a1 : Nat) (R : Value → World → Prop) (w : World) :
 dnF Tryz.prog ck_request_Check_an (code Tryz.f59) 400 [] (post3 Tryz.prog Tryz.f59 [] R) ⟨args0 0 [(.agg #[.int .i64 a9, .string b0, .int .i64 b1, .int .i64 b2, .int .i64 b3, .int .i64 b4, .int .i64 b5, .int .i64 b6, .slice a3 a5 a4, .string b7, .string a6, .int .i64 a7, .bool a8, .slice a0 a2 a1])], fun _ => undef⟩ ⟨[], w, [], [], true⟩ = ck_request_Check_T a9 b0 b1 b2 b3 b4 b5 b6 a3 a5 a4 b7 a6 a7 a8 a0 a2 a1 R w := by kernel_rfl
theorem ck_request_Check_go {a9 : Int} {b0 : ByteArray} {b1 b2 b3 b4 b5 b6 : Int} {a3 : Option Addr} {a5 a4 : Nat} {b7 a6 : ByteArray} {a7 : Int} {a8 : Bool} {a0 : Option Addr} {a2 a1 : Nat} {R : Value → World → Prop} {w : World} (h : ck_request_Check_T a9 b0 b1 b2 b3 b4 b5 b6 a3 a5 a4 b7 a6 a7 a8 a0 a2 a1 R w) :
 Calls Tryz.prog 59 #[(.agg #[.int .i64 a9, .string b0, .int .i64 b1, .int .i64 b2, .int .i64 b3, .int .i64 b4, .int .i64 b5, .int .i64 b6, .slice a3 a5 a4, .string b7, .string a6, .int .i64 a7, .bool a8, .slice a0 a2 a1])] w fun e w' => ∃ v, e = .returned v ∧ R v w' :=
 calls_none Tryz.wide_mixed (f := 59) (args := [(.agg #[.int .i64 a9, .string b0, .int .i64 b1, .int .i64 b2, .int .i64 b3, .int .i64 b4, .int .i64 b5, .int .i64 b6, .slice a3 a5 a4, .string b7, .string a6, .int .i64 a7, .bool a8, .slice a0 a2 a1])]) Tryz.func59 rfl rfl (by kernel_rfl) rfl (Eq.mpr (ck_request_Check_eq a9 b0 b1 b2 b3 b4 b5 b6 a3 a5 a4 b7 a6 a7 a8 a0 a2 a1 R w) h)

end Go.Proofs.YtohgihgddknmmaaGreat

/- Commands: alike or not; batches that may be; the checker. -/
namespace Go.Proofs.YtohgihgddknmmaaGreat
open Go Go.RowKit
set_option linter.unusedVariables false
set_option linter.unusedSimpArgs false

theorem EqS_ok {w : World} {a1 a2 : Option Addr} {n1 c1 n2 c2 : Nat} {l1 l2 : List ByteArray} (h1 : SlAt w 1 encS a1 n1 l1) (h2 : SlAt w 1 encS a2 n2 l2) (hl : l1.length ≤ 1000000) :
    Calls Tryz.prog 141 #[.slice a1 n1 c1, .slice a2 n2 c2] w fun e w' => e = .returned (.bool (decide (l1 = l2))) ∧ Mod [] w w' := by
  refine go_of (slices_Equal_string_string_go ?_)
  have e1 := h1.1
  have e2 := h2.1
  refine brB_of (fun h => ⟨congrArg Value.bool (decide_eq_false fun e => ?_).symm, Mod.refl _⟩) fun h => ?_
  · subst e
    rw [e1, e2] at h
    simp at h
  have hlen : l1.length = l2.length := by
    simp at h
    omega
  refine slices_Equal_string_string_rule1 (fun mm x w' => ∃ k : Nat, x = k ∧ k ≤ l1.length ∧ l1.take k = l2.take k ∧ Mod [] w w' ∧ mm = l1.length - k) l1.length ⟨0, rfl, by omega, by simp, Mod.refl _, rfl⟩ ?_
  rintro mm x w1 ⟨k, rfl, hk, ht, M, rfl⟩
  refine brB_dec (fun hlt => ?_) fun hge => ?_
  · have g1 : k < l1.length := by omega
    have g2 : k < l2.length := by omega
    obtain ⟨x, hx⟩ : ∃ x, l1[k]? = some x := ⟨_, List.getElem?_eq_getElem g1⟩
    obtain ⟨y, hy⟩ : ∃ y, l2[k]? = some y := ⟨_, List.getElem?_eq_getElem g2⟩
    refine (h1.keep0 M).ix hx fun q hq => ldStr_of (by simpa [add_zero] using hq 0 _ rfl) ?_
    refine (h2.keep0 M).ix hy fun q hq => ldStr_of (by simpa [add_zero] using hq 0 _ rfl) ?_
    rw [strEq x y]
    refine brB_of (fun hne => ?_) fun heq => ?_
    rotate_left
    rotate_right
    · intro w2 A2
      refine ⟨congrArg Value.bool (decide_eq_false fun e => (show ¬ x = y by simpa using hne) ?_).symm, M.go0 A2.mod (by simp)⟩
      subst e
      rw [hx] at hy
      exact Option.some.inj hy
    · intro w2 A2
      have he : x = y := by simpa using heq
      subst he
      exact slices_Equal_string_string_leaf1 (l1.length - (k + 1)) (by omega) ⟨k + 1, by rw [wrap_id (by omega) (by omega)]; omega, by omega, take_step ht hx hy, M.go0 A2.mod (by simp), rfl⟩
  · have hk : k = l1.length := by omega
    subst hk
    rw [List.take_length, hlen, List.take_length] at ht
    exact ⟨congrArg Value.bool (decide_eq_true ht).symm, M⟩
theorem neR (x y : PRec) (o1 o2 : Operand) (w : World) : Sem.run Tryz.prog (do eqGuard .neq 149 o1 o2 x.v y.v; Go.binOp .neq 149 x.v y.v) w = .ok (.bool (decide (x ≠ y))) w := by
  obtain ⟨a, b, c, d⟩ := x
  obtain ⟨a', b', c', d'⟩ := y
  simp [go_sem, Sem.run_bind, PRec.v]
  by_cases h1 : a = a' <;> by_cases h2 : b = b' <;> by_cases h3 : c = c' <;> by_cases h4 : d = d' <;> simp [h1, h2, h3, h4, toList_inj]
theorem eqPp (x y : PPart) (o1 o2 : Operand) (w : World) : Sem.run Tryz.prog (do eqGuard .eql 32 o1 o2 x.v y.v; Go.binOp .eql 32 x.v y.v) w = .ok (.bool (decide (x = y))) w := by
  obtain ⟨a, b⟩ := x
  obtain ⟨a', b'⟩ := y
  simp [go_sem, Sem.run_bind, PPart.v]
  by_cases h1 : a = a' <;> by_cases h2 : b = b' <;> simp [h1, h2, toList_inj]
theorem EqR_ok {w : World} {a1 a2 : Option Addr} {n1 c1 n2 c2 : Nat} {l1 l2 : List PRec} (h1 : SlAt w 4 encR a1 n1 l1) (h2 : SlAt w 4 encR a2 n2 l2) (hl : l1.length ≤ 1000000) :
    Calls Tryz.prog 160 #[.slice a1 n1 c1, .slice a2 n2 c2] w fun e w' => e = .returned (.bool (decide (l1 = l2))) ∧ Mod [] w w' := by
  refine go_of (slices_Equal_api_Record_api_Record_go ?_)
  have e1 := h1.1
  have e2 := h2.1
  refine brB_of (fun h => ⟨congrArg Value.bool (decide_eq_false fun e => ?_).symm, Mod.refl _⟩) fun h => ?_
  · subst e
    rw [e1, e2] at h
    simp at h
  have hlen : l1.length = l2.length := by
    simp at h
    omega
  refine slices_Equal_api_Record_api_Record_rule1 (fun mm x w' => ∃ k : Nat, x = k ∧ k ≤ l1.length ∧ l1.take k = l2.take k ∧ Mod [] w w' ∧ mm = l1.length - k) l1.length ⟨0, rfl, by omega, by simp, Mod.refl _, rfl⟩ ?_
  rintro mm x w1 ⟨k, rfl, hk, ht, M, rfl⟩
  refine brB_dec (fun hlt => ?_) fun hge => ?_
  · have g1 : k < l1.length := by omega
    have g2 : k < l2.length := by omega
    obtain ⟨x, hx⟩ : ∃ x, l1[k]? = some x := ⟨_, List.getElem?_eq_getElem g1⟩
    obtain ⟨y, hy⟩ : ∃ y, l2[k]? = some y := ⟨_, List.getElem?_eq_getElem g2⟩
    refine (h1.keep0 M).ix hx fun q hq => ldBool_of (by simpa [add_zero] using hq 0 _ rfl) (ldStr_of (hq 1 _ rfl) (ldBool_of (hq 2 _ rfl) (ldStr_of (hq 3 _ rfl) ?_)))
    refine (h2.keep0 M).ix hy fun q hq => ldBool_of (by simpa [add_zero] using hq 0 _ rfl) (ldStr_of (hq 1 _ rfl) (ldBool_of (hq 2 _ rfl) (ldStr_of (hq 3 _ rfl) ?_)))
    refine ⟨_, fun w' _ => neR x y _ _ w', ?_⟩
    refine brB_dec (fun hne => ?_) fun heq => ?_
    · intro w2 A2
      refine ⟨congrArg Value.bool (decide_eq_false fun e => hne ?_).symm, M.go0 A2.mod (by simp)⟩
      subst e
      rw [hx] at hy
      exact Option.some.inj hy
    · intro w2 A2
      have he : x = y := Decidable.not_not.1 heq
      subst he
      exact slices_Equal_api_Record_api_Record_leaf1 (l1.length - (k + 1)) (by omega) ⟨k + 1, by rw [wrap_id (by omega) (by omega)]; omega, by omega, take_step ht hx hy, M.go0 A2.mod (by simp), rfl⟩
  · have hk : k = l1.length := by omega
    subst hk
    rw [List.take_length, hlen, List.take_length] at ht
    exact ⟨congrArg Value.bool (decide_eq_true ht).symm, M⟩
def PBatch.v (b : PBatch) (rs : Sl) : Value := .agg #[.int .i64 b.prod, .int .i64 b.epoch, .int .i64 b.seq, .slice rs.a rs.n rs.c]
theorem batches_ok {w : World} {x y : PBatch} {s t : Sl} (h1 : SlAt w 4 encR s.a s.n x.recs) (h2 : SlAt w 4 encR t.a t.n y.recs) (hl : x.recs.length ≤ 1000000) :
    Calls Tryz.prog 140 #[x.v s, y.v t] w fun e w' => e = .returned (.bool (decide (x = y))) ∧ Mod [] w w' := by
  obtain ⟨a1, a2, a3, a4⟩ := x
  obtain ⟨b1, b2, b3, b4⟩ := y
  refine go_of (request_batches_go ?_)
  intro c1 f1 c2 f2
  simp only [PBatch.mk.injEq]
  refine brB_of (fun g1 => ?_) fun g1 => ?_
  · have g1 : a1 = b1 := by simpa using g1
    refine brB_of (fun g2 => ?_) fun g2 => ?_
    · have g2 : a2 = b2 := by simpa using g2
      refine brB_of (fun g3 => ?_) fun g3 => ?_
      · have g3 : a3 = b3 := by simpa using g3
        intro w1 A1
        refine (EqR_ok (h1.keep0 A1.mod) (h2.keep0 A1.mod) hl).mono ?_
        rintro e w2 ⟨rfl, M2⟩
        exact ⟨_, rfl, Keep.of0 M2, by simp [g1, g2, g3], A1.mod.go0 M2 (by simp)⟩
      · intro w1 A1
        exact ⟨congrArg Value.bool (decide_eq_false (by simp at g3; rintro ⟨_, _, h, _⟩; exact g3 h)).symm, A1.mod⟩
    · intro w1 A1
      exact ⟨congrArg Value.bool (decide_eq_false (by simp at g2; rintro ⟨_, h, _⟩; exact g2 h)).symm, A1.mod⟩
  · intro w1 A1
    exact ⟨congrArg Value.bool (decide_eq_false (by simp at g1; rintro ⟨h, _⟩; exact g1 h)).symm, A1.mod⟩
theorem OpSame_ok {w : World} {x y : POp} {rs ts rs' ts' : Sl} (h1 : OpAt w x rs ts) (h2 : OpAt w y rs' ts') :
    Calls Tryz.prog 95 #[x.v rs ts, y.v rs' ts'] w fun e w' => e = .returned (.bool (decide (x = y))) ∧ Mod [] w w' := by
  obtain ⟨k1, p1, n1, o1, b1, g1, m1, e1, r1, t1⟩ := x
  obtain ⟨k2, p2, n2, o2, b2, g2, m2, e2, r2, t2⟩ := y
  refine go_of (request_Same_go ?_)
  intro c1 f1 c2 f2
  simp only [POp.mk.injEq]
  have no : ∀ {P : Prop} [Decidable P] {w' : World}, ¬ P → Mod [] w w' → (Value.bool false = Value.bool (decide P) ∧ Mod [] w w') := fun hn M => ⟨congrArg Value.bool (decide_eq_false hn).symm, M⟩
  refine brB_of (fun q1 => ?_) fun q1 => ?_
  rotate_left
  · intro w1 A1
    exact no (by simp at q1; rintro ⟨h, _⟩; exact q1 h) A1.mod
  have q1 : k1 = k2 := by simpa using q1
  intro w1 A1
  have M1 := A1.mod
  refine ⟨_, fun w' _ => eqPp p1 p2 _ _ w', brB_of (fun q2 => ?_) fun q2 => no (by simp at q2; rintro ⟨_, h, _⟩; exact q2 h) M1⟩
  have q2 : p1 = p2 := by simpa using q2
  refine brB_of (fun q3 => ?_) fun q3 => no (by simp at q3; rintro ⟨_, _, h, _⟩; exact q3 h) M1
  have q3 : n1 = n2 := by simpa using q3
  refine brB_of (fun q4 => ?_) fun q4 => no (by simp at q4; rintro ⟨_, _, _, h, _⟩; exact q4 h) M1
  have q4 : o1 = o2 := by simpa using q4
  rw [strEq, strEq]
  refine brB_of (fun q5 => ?_) fun q5 => no (by simp at q5; rintro ⟨_, _, _, _, _, h, _⟩; exact q5 h) M1
  have q5 : g1 = g2 := by simpa using q5
  refine brB_of (fun q6 => ?_) fun q6 => no (by simp at q6; rintro ⟨_, _, _, _, _, _, h, _⟩; exact q6 h) M1
  have q6 : m1 = m2 := by simpa using q6
  refine brB_of (fun q7 => ?_) fun q7 => no (by simp at q7; rintro ⟨_, _, _, _, _, _, _, h, _⟩; exact q7 h) M1
  have q7 : e1 = e2 := by simpa using q7
  refine brB_of (fun q8 => ?_) fun q8 => no (by simp at q8; rintro ⟨_, _, _, _, _, _, _, _, h, _⟩; exact q8 h) M1
  have q8 : r1 = r2 := by simpa using q8
  refine (batches_ok (x := b1) (y := b2) (s := rs) (t := rs') (h1.recs.keep0 M1) (h2.recs.keep0 M1) h1.lr).mono ?_
  rintro e w2 ⟨rfl, M2⟩
  have N2 := M1.go0 M2 (by simp)
  refine ⟨_, rfl, Keep.of0 M2, brB_of (fun q9 => ?_) fun q9 => no (by simp at q9; rintro ⟨_, _, _, _, h, _⟩; exact q9 h) N2⟩
  have q9 : b1 = b2 := by simpa using q9
  refine (EqS_ok (h1.topics.keep0 N2) (h2.topics.keep0 N2) h1.lt).mono ?_
  rintro e w3 ⟨rfl, M3⟩
  exact ⟨_, rfl, Keep.of0 M3, by simp [q1, q2, q3, q4, q5, q6, q7, q8, q9], N2.go0 M3 (by simp)⟩

/-! ### batches -/
theorem recNum_ok (n : Int) (w : World) : Calls Tryz.prog 202 #[.int .i64 n] w fun e w' => e = .returned (.bool (num n)) ∧ w' = w :=
  go_of (record_number_go (brB_dec (fun h => ⟨by simp [num]; omega, rfl⟩) (fun h => ⟨by simp [num]; omega, rfl⟩)))
theorem find_take {l : List PRec} {k : Nat} {x : PRec} (hx : l[k]? = some x) (h : ∀ y ∈ l.take k, recE y = 0) (hne : recE x ≠ 0) : (l.find? fun r => recE r ≠ 0) = some x := by
  have hk : k < l.length := (List.getElem?_eq_some_iff.1 hx).1
  have e : l = l.take k ++ x :: l.drop (k + 1) := by
    have h2 : l[k] = x := (List.getElem?_eq_some_iff.1 hx).2
    conv => lhs; rw [← List.take_append_drop k l, List.drop_eq_getElem_cons hk, h2]
  rw [e, List.find?_append, List.find?_eq_none.2 (by intro y hy; simp [h y hy])]
  simp [hne]
theorem RecAll_ok {w : World} {b : PBatch} {rs : Sl} (h : SlAt w 4 encR rs.a rs.n b.recs) (hl : b.recs.length ≤ 1000000) :
    Calls Tryz.prog 199 #[b.v rs] w fun e w' => e = .returned (.int .i64 (batchE b)) ∧ Mod [] w w' := by
  refine go_of (record_All_go ?_)
  have hn := h.1
  intro b1 f1 w1 A1
  have l1 := A1.lt b1 (by simp)
  have bad : ∀ {k : Int} {w' : World}, batchE b = k → Mod [] w w' → (Value.int .i64 k = Value.int .i64 (batchE b) ∧ Mod [] w w') := fun e M => ⟨by rw [e], M⟩
  refine (recNum_ok b.prod w1).mono ?_
  rintro e w2 ⟨rfl, rfl⟩
  refine ⟨_, rfl, Keep.of0 (Mod.refl _), brB_of (fun q1 => bad (by rw [batchE, if_pos (by rw [notT q1]; rfl)]) A1.mod) fun q1 => ?_⟩
  refine (recNum_ok b.epoch w2).mono ?_
  rintro e w3 ⟨rfl, rfl⟩
  refine ⟨_, rfl, Keep.of0 (Mod.refl _), brB_of (fun q2 => bad (by rw [batchE, if_pos (by rw [notT q2]; simp)]) A1.mod) fun q2 => ?_⟩
  refine (recNum_ok b.seq w3).mono ?_
  rintro e w4 ⟨rfl, rfl⟩
  refine ⟨_, rfl, Keep.of0 (Mod.refl _), brB_of (fun q3 => bad (by rw [batchE, if_pos (by rw [notT q3]; simp)]) A1.mod) fun q3 => ?_⟩
  have e0 : batchE b = if b.recs.length = 0 then 30 else if b.recs.length > 16 then 2 else match b.recs.find? fun r => recE r ≠ 0 with | none => 0 | some r => recE r := by
    rw [batchE, if_neg (by rw [notF q1, notF q2, notF q3]; decide)]; rfl
  refine brB_of (fun q4 => bad (by rw [e0, if_pos (by simp at q4; omega)]) A1.mod) fun q4 => ?_
  rw [if_neg (by simp at q4; omega)] at e0
  refine brB_dec (fun q5 => bad (by rw [e0, if_pos (by omega)]) A1.mod) fun q5 => ?_
  rw [if_neg (by omega)] at e0
  refine record_All_rule1 (fun mm x w' => ∃ k : Nat, x = k ∧ k ≤ b.recs.length ∧ (∀ y ∈ b.recs.take k, recE y = 0) ∧ Mod [] w w' ∧ mm = b.recs.length - k) b.recs.length ⟨0, rfl, by omega, by simp, A1.mod, rfl⟩ ?_
  rintro mm x w5 ⟨k, rfl, hk, hz, M5, rfl⟩
  refine brB_dec (fun hlt => ?_) fun hge => ?_
  · obtain ⟨y, hy⟩ : ∃ y, b.recs[k]? = some y := ⟨_, List.getElem?_eq_getElem (by omega)⟩
    refine (h.keep0 M5).ix hy fun q hq => ldBool_of (by simpa [add_zero] using hq 0 _ rfl) (ldStr_of (hq 1 _ rfl) (ldBool_of (hq 2 _ rfl) (ldStr_of (hq 3 _ rfl) ?_)))
    intro b6 f6 w6 A6
    refine (RecCheck_ok y w6).mono ?_
    rintro e w7 ⟨rfl, M7⟩
    have N7 := (M5.go0 A6.mod (by simp)).go0 M7 (by simp)
    refine ⟨_, rfl, Keep.of0 M7, brB_of (fun q6 => ?_) fun q6 => ?_⟩
    · have q6 : recE y ≠ 0 := by simpa using q6
      exact bad (by rw [e0, find_take hy hz q6]) N7
    · have q6 : recE y = 0 := by simpa using q6
      refine record_All_leaf1 (b.recs.length - (k + 1)) (by omega) ⟨k + 1, by rw [wrap_id (by omega) (by omega)]; omega, by omega, ?_, N7, rfl⟩
      rw [List.take_add_one, hy]
      intro z hz'
      rcases List.mem_append.1 hz' with h | h
      · exact hz z h
      · simp at h; subst h; exact q6
  · have : k = b.recs.length := by omega
    subst this
    rw [List.take_length] at hz
    refine bad ?_ M5
    rw [e0, List.find?_eq_none.2 (by intro y hy; simp [hz y hy])]

/-! ### the checker -/
/-- The checker's variable, the command's, what was written since w0. -/
structure ChSt (w0 w : World) (bc bo : Nat) (F A : Bool) (E : Int) (cs : List Value) : Prop where
  c : w.heap[bc]? = some (.cells #[.bool F, .bool A, .int .i64 E] 155)
  o : w.heap[bo]? = some (.cells cs.toArray 38)
  m : Mod [bc, bo] w0 w
  ne : bc ≠ bo
theorem ChSt.adv {w0 w w' : World} {bc bo : Nat} {F A : Bool} {E : Int} {cs : List Value} (h : ChSt w0 w bc bo F A E cs) {N : List Nat} (M : Adv [] N w w') : ChSt w0 w' bc bo F A E cs :=
  ⟨M.mod.keep0 h.c, M.mod.keep0 h.o, (h.m.trans M.mod).less (by simp), h.ne⟩
theorem ChSt.m0 {w0 w w' : World} {bc bo : Nat} {F A : Bool} {E : Int} {cs : List Value} (h : ChSt w0 w bc bo F A E cs) (M : Mod [] w w') : ChSt w0 w' bc bo F A E cs :=
  ⟨M.keep0 h.c, M.keep0 h.o, (h.m.trans M).less (by simp), h.ne⟩
theorem ChSt.setC {w0 w w' : World} {bc bo : Nat} {F A F' A' : Bool} {E E' : Int} {cs : List Value} (h : ChSt w0 w bc bo F A E cs) (hc : w'.heap[bc]? = some (.cells #[.bool F', .bool A', .int .i64 E'] 155)) (M : Mod [bc] w w') : ChSt w0 w' bc bo F' A' E' cs :=
  ⟨hc, M.keep h.o (by simpa using h.ne.symm), (h.m.trans M).less (by simp), h.ne⟩
theorem ChSt.setO {w0 w w' : World} {bc bo : Nat} {F A : Bool} {E : Int} {cs cs' : List Value} (h : ChSt w0 w bc bo F A E cs) (ho : w'.heap[bo]? = some (.cells cs'.toArray 38)) (M : Mod [bo] w w') : ChSt w0 w' bc bo F A E cs' :=
  ⟨M.keep h.c (by simpa using h.ne), ho, (h.m.trans M).less (by simp), h.ne⟩
theorem set1 {cs : List Value} {off : Nat} {v : Value} : setFrom cs.toArray off [v] = (cs.set off v).toArray := by simp [setFrom]
theorem ckNum_step {w0 w : World} {bc bo off : Nat} {F A : Bool} {E x : Int} {cs : List Value} {R : World → Prop} (H : ChSt w0 w bc bo F A E cs) (hc : cs[off]? = some (.int .i64 x)) (k : ∀ w', ChSt w0 w' bc bo F (A || !num x) E (cs.set off (.int .i64 0)) → R w') :
    Calls Tryz.prog 198 #[.pointer (some ⟨bc, 0, none⟩), .pointer (some ⟨bo, off, none⟩)] w fun e w' => e = .returned (.tuple #[]) ∧ R w' := by
  have hlt : off < cs.length := (List.getElem?_eq_some_iff.1 hc).1
  refine go_of (ck_request_checker_number_go ?_)
  refine ldBool_at (b := bc) (i := 1) H.c rfl ?_
  refine brB_of (fun g => ?_) fun g => ?_
  · subst g
    refine st_of (b := bc) (o := 1) H.c rfl (by simp) fun w1 h1 M1 => ?_
    have H1 := H.setC (F' := F) (A' := true) (E' := E) h1 M1
    refine st_of (b := bo) (o := off) H1.o rfl (by simp; omega) fun w2 h2 M2 => ?_
    exact ⟨rfl, k w2 (H1.setO (by rw [h2, set1]) M2)⟩
  · subst g
    refine ldInt_at (b := bo) (i := off) H.o (by simpa using hc) ?_
    refine (number4_ok x w).mono ?_
    rintro e w1 ⟨rfl, rfl⟩
    refine ⟨_, rfl, ?_⟩
    refine st_of (b := bc) (o := 1) H.c rfl (by simp) fun w2 h2 M2 => ?_
    have H2 := H.setC (F' := F) (A' := !num x) (E' := E) h2 M2
    refine st_of (b := bo) (o := off) H2.o rfl (by simp; omega) fun w3 h3 M3 => ?_
    exact ⟨rfl, k w3 (H2.setO (by rw [h3, set1]) M3)⟩
theorem ckName_step {w0 w : World} {bc bo off : Nat} {F A : Bool} {E : Int} {x : ByteArray} {cs : List Value} {R : World → Prop} (H : ChSt w0 w bc bo F A E cs) (hc : cs[off]? = some (.string x)) (k : ∀ w', ChSt w0 w' bc bo (F || !nameB x) A E (cs.set off (.string es)) → R w') :
    Calls Tryz.prog 196 #[.pointer (some ⟨bc, 0, none⟩), .pointer (some ⟨bo, off, none⟩)] w fun e w' => e = .returned (.tuple #[]) ∧ R w' := by
  have hlt : off < cs.length := (List.getElem?_eq_some_iff.1 hc).1
  refine go_of (ck_request_checker_name_go ?_)
  refine ldBool_at (b := bc) (i := 0) H.c rfl ?_
  refine brB_of (fun g => ?_) fun g => ?_
  · subst g
    refine st_of (b := bc) (o := 0) H.c rfl (by simp) fun w1 h1 M1 => ?_
    have H1 := H.setC (F' := true) (A' := A) (E' := E) h1 M1
    refine st_of (b := bo) (o := off) H1.o rfl (by simp; omega) fun w2 h2 M2 => ?_
    exact ⟨rfl, k w2 (H1.setO (by rw [h2, set1]; rfl) M2)⟩
  · subst g
    refine ldStr_at (b := bo) (i := off) H.o (by simpa using hc) ?_
    refine (Name_ok x w).mono ?_
    rintro e w1 ⟨rfl, M1⟩
    have H1 := H.m0 M1
    refine ⟨_, rfl, ?_⟩
    refine st_of (b := bc) (o := 0) H1.c rfl (by simp) fun w2 h2 M2 => ?_
    have H2 := H1.setC (F' := !nameB x) (A' := A) (E' := E) h2 M2
    refine st_of (b := bo) (o := off) H2.o rfl (by simp; omega) fun w3 h3 M3 => ?_
    exact ⟨rfl, k w3 (H2.setO (by rw [h3, set1]; rfl) M3)⟩
theorem ckFlag_step {w0 w : World} {bc bo off : Nat} {F A : Bool} {E : Int} {x : Bool} {cs : List Value} {R : World → Prop} (H : ChSt w0 w bc bo F A E cs) (hc : cs[off]? = some (.bool x)) (k : ∀ w', ChSt w0 w' bc bo F A E (cs.set off (.bool false)) → R w') :
    Calls Tryz.prog 195 #[.pointer (some ⟨bc, 0, none⟩), .pointer (some ⟨bo, off, none⟩)] w fun e w' => e = .returned (.tuple #[]) ∧ R w' := by
  have hlt : off < cs.length := (List.getElem?_eq_some_iff.1 hc).1
  refine go_of (ck_request_checker_flag_go ?_)
  refine st_of (b := bo) (o := off) H.o rfl (by simp; omega) fun w2 h2 M2 => ?_
  exact ⟨rfl, k w2 (H.setO (by rw [h2, set1]) M2)⟩
end Go.Proofs.YtohgihgddknmmaaGreat

/- Whether a command may be: the program. -/
namespace Go.Proofs.YtohgihgddknmmaaGreat
open Go Go.RowKit
set_option linter.unusedVariables false
set_option linter.unusedSimpArgs false

theorem ckBatch_step {w0 w : World} {bc bo : Nat} {F A : Bool} {E : Int} {b : PBatch} {rs : Sl} {cs : List Value} {R : World → Prop} (H : ChSt w0 w bc bo F A E cs) (h5 : cs[5]? = some (.int .i64 b.prod)) (h6 : cs[6]? = some (.int .i64 b.epoch)) (h7 : cs[7]? = some (.int .i64 b.seq)) (h8 : cs[8]? = some (.slice rs.a rs.n rs.c))
    (hs : SlAt w 4 encR rs.a rs.n b.recs) (hl : b.recs.length ≤ 1000000) (k : ∀ w', ChSt w0 w' bc bo F A (batchE b) ((((cs.set 5 (.int .i64 0)).set 6 (.int .i64 0)).set 7 (.int .i64 0)).set 8 (.slice none 0 0)) → R w') :
    Calls Tryz.prog 194 #[.pointer (some ⟨bc, 0, none⟩), .pointer (some ⟨bo, 5, none⟩)] w fun e w' => e = .returned (.tuple #[]) ∧ R w' := by
  have hlt : 8 < cs.length := (List.getElem?_eq_some_iff.1 h8).1
  refine go_of (ck_request_checker_batch_go ?_)
  refine ldInt_at (b := bo) (i := 5) H.o (by simpa using h5) (ldInt_at (b := bo) (i := 6) H.o (by simpa using h6) (ldInt_at (b := bo) (i := 7) H.o (by simpa using h7) (ldSlice_at (b := bo) (i := 8) H.o (by simpa using h8) ?_)))
  refine (RecAll_ok (b := b) (rs := rs) hs hl).mono ?_
  rintro e w1 ⟨rfl, M1⟩
  have H1 := H.m0 M1
  refine ⟨_, rfl, ?_⟩
  refine st_of (b := bc) (o := 2) H1.c rfl (by simp) fun w2 h2 M2 => ?_
  have H2 := H1.setC (F' := F) (A' := A) (E' := batchE b) h2 M2
  refine st_of (b := bo) (o := 5) H2.o rfl (by simp; omega) fun w3 h3 M3 => ?_
  exact ⟨rfl, k w3 (H2.setO (by rw [h3]; simp [setFrom]) M3)⟩
theorem odd_ok (s : ByteArray) (w : World) : Calls Tryz.prog 201 #[.string s] w fun e w' => e = .returned (.bool (!nameB s)) ∧ Mod [] w w' := by
  refine go_of (ck_request_checker_names_1_go ?_)
  refine (Name_ok s w).mono ?_
  rintro e w1 ⟨rfl, M1⟩
  exact ⟨_, rfl, rfl, M1⟩
theorem IndexOdd_ok {w : World} {a : Option Addr} {n c : Nat} {l : List ByteArray} (h : SlAt w 1 encS a n l) (hl : l.length ≤ 1000000) :
    Calls Tryz.prog 203 #[.slice a n c, .func (.func 201) #[] #[]] w fun e w' => ∃ v, e = .returned v ∧ ∃ x : Int, v = .int .i64 x ∧ (0 ≤ x ↔ l.all nameB = false) ∧ Mod [] w w' := by
  refine ck_slices_IndexFunc_string_string_go ?_
  have hn := h.1
  refine ck_slices_IndexFunc_string_string_rule1 (fun mm x w' => ∃ k : Nat, x = k ∧ k ≤ l.length ∧ (l.take k).all nameB = true ∧ Mod [] w w' ∧ mm = l.length - k) l.length ⟨0, rfl, by omega, by simp, Mod.refl _, rfl⟩ ?_
  rintro mm x w1 ⟨k, rfl, hk, ha, M1, rfl⟩
  refine brB_dec (fun hlt => ?_) fun hge => ?_
  · obtain ⟨y, hy⟩ : ∃ y, l[k]? = some y := ⟨_, List.getElem?_eq_getElem (by omega)⟩
    refine (h.keep0 M1).ix hy fun q hq => ldStr_of (by simpa [add_zero] using hq 0 _ rfl) ?_
    refine (odd_ok y w1).mono ?_
    rintro e w2 ⟨rfl, M2⟩
    have N2 := M1.go0 M2 (by simp)
    refine ⟨_, rfl, brB_of (fun g => ?_) fun g => ?_⟩
    · refine ⟨_, rfl, ⟨fun _ => ?_, fun _ => by omega⟩, N2⟩
      rw [List.all_eq_false]
      exact ⟨y, List.mem_of_getElem? hy, by simpa using g⟩
    · refine ck_slices_IndexFunc_string_string_leaf1 (l.length - (k + 1)) (by omega) ⟨k + 1, by rw [wrap_id (by omega) (by omega)]; omega, by omega, ?_, N2, rfl⟩
      rw [take_all hy, ha]; simpa using g
  · have : k = l.length := by omega
    subst this
    rw [List.take_length] at ha
    exact ⟨_, rfl, ⟨fun h => by omega, fun h => by rw [ha] at h; cases h⟩, M1⟩
theorem ContainsOdd_ok {w : World} {a : Option Addr} {n c : Nat} {l : List ByteArray} (h : SlAt w 1 encS a n l) (hl : l.length ≤ 1000000) :
    Calls Tryz.prog 200 #[.slice a n c, .func (.func 201) #[] #[]] w fun e w' => e = .returned (.bool (!l.all nameB)) ∧ Mod [] w w' := by
  refine go_of (ck_slices_ContainsFunc_string_string_go ?_)
  refine (IndexOdd_ok h hl).mono ?_
  rintro e w1 ⟨_, rfl, x, rfl, hx, M1⟩
  refine ⟨_, rfl, congrArg Value.bool ?_, M1⟩
  cases ha : l.all nameB
  · exact decide_eq_true (hx.2 ha)
  · exact decide_eq_false fun h => by have := hx.1 h; rw [ha] at this; cases this
theorem riseB_snoc : ∀ (l : List ByteArray) (x y : ByteArray), riseB (l ++ [x, y]) = (riseB (l ++ [x]) && lessB x y)
  | [], x, y => by simp [riseB]
  | [a], x, y => by simp [riseB, Bool.and_assoc]
  | a :: b :: r, x, y => by
    have := riseB_snoc (b :: r) x y
    simp only [List.cons_append] at this ⊢
    rw [riseB, riseB, this, Bool.and_assoc]
theorem rise_take {l : List ByteArray} {k : Nat} {x y : ByteArray} (hx : l[k]? = some x) (hy : l[k + 1]? = some y) : riseB (l.take (k + 2)) = (riseB (l.take (k + 1)) && lessB x y) := by
  have e1 : l.take (k + 1) = l.take k ++ [x] := by rw [List.take_add_one, hx]; rfl
  have e2 : l.take (k + 2) = l.take k ++ [x, y] := by rw [List.take_add_one, hy, e1]; simp
  rw [e1, e2, riseB_snoc]
theorem ckNames_step {w0 w : World} {bc bo : Nat} {F A : Bool} {E : Int} {l : List ByteArray} {ts : Sl} {cs : List Value} {R : World → Prop} (H : ChSt w0 w bc bo F A E cs) (hc : cs[13]? = some (.slice ts.a ts.n ts.c))
    (hs : SlAt w 1 encS ts.a ts.n l) (hl : l.length ≤ 1000000) (k : ∀ w', ChSt w0 w' bc bo (F || !namesB l) A E (cs.set 13 (.slice none 0 0)) → R w') :
    Calls Tryz.prog 197 #[.pointer (some ⟨bc, 0, none⟩), .pointer (some ⟨bo, 13, none⟩)] w fun e w' => e = .returned (.tuple #[]) ∧ R w' := by
  have hlt : 13 < cs.length := (List.getElem?_eq_some_iff.1 hc).1
  have hn := hs.1
  refine go_of (ck_request_checker_names_go ?_)
  refine ck_request_checker_names_rule1 (fun mm t x w' => ∃ j : Nat, x = ((j + 1 : Nat) : Int) ∧ j ≤ l.length ∧ t = riseB (l.take (j + 1)) ∧ Mod [] w w' ∧ mm = l.length - j) l.length ⟨0, rfl, by omega, ?_, Mod.refl _, rfl⟩ ?_
  · cases l <;> simp [riseB]
  rintro mm t x w1 ⟨j, rfl, hj, rfl, M1, rfl⟩
  have H1 := H.m0 M1
  have hcell : cs.toArray[13]? = some (.slice ts.a ts.n ts.c) := by simpa using hc
  refine ldSlice_at (b := bo) (i := 13) H1.o hcell ?_
  refine brB_dec (fun hlt2 => ?_) fun hge => ?_
  · have g1 : j + 1 < l.length := by omega
    obtain ⟨x, hx⟩ : ∃ x, l[j]? = some x := ⟨_, List.getElem?_eq_getElem (by omega)⟩
    obtain ⟨y, hy⟩ : ∃ y, l[j + 1]? = some y := ⟨_, List.getElem?_eq_getElem g1⟩
    have ew : IntKind.wrap .i64 (((j + 1 : Nat) : Int) + 1) = ((j + 1 + 1 : Nat) : Int) := by rw [wrap_id (by omega) (by omega)]; omega
    have em : IntKind.wrap .i64 (((j + 1 : Nat) : Int) - 1) = (j : Int) := by rw [wrap_id (by omega) (by omega)]; omega
    refine brB_of (fun g => ?_) fun g => ?_
    · refine ldSlice_at (b := bo) (i := 13) H1.o hcell ?_
      rw [em]
      refine (hs.keep0 M1).ix hx fun q hq => ldStr_of (x := x) (by simpa [add_zero] using hq 0 _ rfl) ?_
      refine ldSlice_at (b := bo) (i := 13) H1.o hcell ?_
      refine (hs.keep0 M1).ix hy fun q hq => ldStr_of (x := y) (by simpa [add_zero] using hq 0 _ rfl) ?_
      intro w2 A2
      refine ck_request_checker_names_leaf1 (l.length - (j + 1)) (by omega) ⟨j + 1, ew, by omega, ?_, M1.go0 A2.mod (by simp), rfl⟩
      rw [rise_take hx hy, g]; rfl
    · intro w2 A2
      refine ck_request_checker_names_leaf1 (l.length - (j + 1)) (by omega) ⟨j + 1, ew, by omega, ?_, M1.go0 A2.mod (by simp), rfl⟩
      rw [rise_take hx hy, g]; rfl
  · rw [List.take_of_length_le (by omega)]
    refine ldSlice_at (b := bo) (i := 13) H1.o hcell ?_
    refine (ContainsOdd_ok (hs.keep0 M1) hl).mono ?_
    rintro e w2 ⟨rfl, M2⟩
    have H2 := H1.m0 M2
    refine ⟨_, rfl, ?_⟩
    have fin : ∀ {f : Bool}, (F || !namesB l) = f → st w2 ⟨bc, 0, none⟩ [.bool f] fun w3 => st w3 ⟨bo, 13, none⟩ [.slice none 0 0] fun w4 => (Value.tuple #[] = Value.tuple #[] ∧ R w4) := fun {f} hf => by
      refine st_of (b := bc) (o := 0) H2.c rfl (by simp) fun w3 h3 M3 => ?_
      have H3 := H2.setC (F' := f) (A' := A) (E' := E) h3 M3
      refine st_of (b := bo) (o := 13) H3.o rfl (by simp; omega) fun w4 h4 M4 => ?_
      refine ⟨rfl, k w4 ?_⟩
      rw [hf]
      exact H3.setO (by rw [h4, set1]) M4
    refine ldBool_at (b := bc) (i := 0) H2.c rfl ?_
    refine brB_of (fun g => fin (by rw [g]; rfl)) fun g => ?_
    subst g
    refine ldSlice_at (b := bo) (i := 13) H2.o hcell ?_
    refine brB_of (fun g => fin ?_) fun g => ?_
    · have : l.length = 0 := by simp at g; omega
      simp [namesB, this]
    refine ldSlice_at (b := bo) (i := 13) H2.o hcell ?_
    refine brB_dec (fun g2 => fin ?_) fun g2 => ?_
    · have : ¬ (l.length ≤ 8) := by omega
      simp [namesB, this]
    have hl8 : decide (1 ≤ l.length ∧ l.length ≤ 8) = true := decide_eq_true (by simp at g; omega)
    refine brB_of (fun g3 => fin ?_) fun g3 => fin ?_
    · rw [namesB, notT g3]; simp
    · rw [namesB, notF g3, hl8]; simp
theorem ckPart_step {w0 w : World} {bc bo : Nat} {F A : Bool} {E x : Int} {t : ByteArray} {cs : List Value} {R : World → Prop} (H : ChSt w0 w bc bo F A E cs) (h1 : cs[1]? = some (.string t)) (h2 : cs[2]? = some (.int .i64 x)) (k : ∀ w', ChSt w0 w' bc bo (F || !nameB t) (A || !num x) E ((cs.set 1 (.string es)).set 2 (.int .i64 0)) → R w') :
    Calls Tryz.prog 142 #[.iface 153 (.pointer (some ⟨bc, 0, none⟩)), .pointer (some ⟨bo, 1, none⟩)] w fun e w' => e = .returned (.tuple #[]) ∧ R w' := by
  refine go_of (ck_request_part_go ?_)
  intro w1 A1
  refine ckName_step (off := 1) (H.adv A1) h1 fun w2 H => ?_
  intro w3 A3
  refine ckNum_step (off := 2) (x := x) (H.adv A3) (by rw [List.getElem?_set_ne (by decide)]; exact h2) fun w4 H => ?_
  exact ⟨rfl, k w4 H⟩
theorem ckMember_step {w0 w : World} {bc bo : Nat} {F A : Bool} {E : Int} {g m : ByteArray} {cs : List Value} {R : World → Prop} (H : ChSt w0 w bc bo F A E cs) (h1 : cs[9]? = some (.string g)) (h2 : cs[10]? = some (.string m)) (k : ∀ w', ChSt w0 w' bc bo ((F || !nameB g) || !nameB m) A E ((cs.set 9 (.string es)).set 10 (.string es)) → R w') :
    Calls Tryz.prog 143 #[.iface 153 (.pointer (some ⟨bc, 0, none⟩)), .pointer (some ⟨bo, 0, none⟩)] w fun e w' => e = .returned (.tuple #[]) ∧ R w' := by
  refine go_of (ck_request_member_go ?_)
  intro w1 A1
  refine ckName_step (off := 9) (H.adv A1) h1 fun w2 H => ?_
  intro w3 A3
  refine ckName_step (off := 10) (x := m) (H.adv A3) (by rw [List.getElem?_set_ne (by decide)]; exact h2) fun w4 H => ?_
  exact ⟨rfl, k w4 H⟩
def nilS : Sl := ⟨none, 0, 0⟩
def chR (o : POp) (rs : Sl) : Sl := if ha o.kind 98 then nilS else rs
def chT (o : POp) (ts : Sl) : Sl := if ha o.kind 114 then nilS else ts
set_option maxHeartbeats 2000000 in
theorem ckVisit_step {w0 w : World} {bc bo : Nat} {o : POp} {rs ts : Sl} {R : World → Prop} (H : ChSt w0 w bc bo false false 0 (o.cs rs ts)) (h0 : ¬ (o.kind < 0 ∨ o.kind > 12))
    (hop : ∀ w', Mod [bc, bo] w0 w' → OpAt w' o rs ts) (k : ∀ w', ChSt w0 w' bc bo (chF o) (chA o) (chE o) ((chO o).cs (chR o rs) (chT o ts)) → R w') :
    Calls Tryz.prog 104 #[.iface 153 (.pointer (some ⟨bc, 0, none⟩)), .pointer (some ⟨bo, 0, none⟩)] w fun e w' => e = .returned (.tuple #[]) ∧ R w' := by
  refine go_of (ck_request_visit_go ?_)
  obtain ⟨kd, pt, n, off, b, g, m, gen, robin, topics⟩ := o
  obtain ⟨b1, b2, b3, b4⟩ := b
  simp only at h0
  refine ldInt_at (b := bo) (i := 0) H.o rfl ?_
  have hk : kd = 0 ∨ kd = 1 ∨ kd = 2 ∨ kd = 3 ∨ kd = 4 ∨ kd = 5 ∨ kd = 6 ∨ kd = 7 ∨ kd = 8 ∨ kd = 9 ∨ kd = 10 ∨ kd = 11 ∨ kd = 12 := by omega
  rcases hk with rfl | rfl | rfl | rfl | rfl | rfl | rfl | rfl | rfl | rfl | rfl | rfl | rfl
  all_goals
    repeat (first
      | refine brT rfl ?_
      | refine brF rfl ?_
      | (intro w' A'; have H := H.adv A'; clear A')
      | refine ckNum_step H rfl fun w' H => ?_
      | refine ckName_step H rfl fun w' H => ?_
      | refine ckFlag_step H rfl fun w' H => ?_
      | refine ckPart_step H rfl rfl fun w' H => ?_
      | refine ckMember_step H rfl rfl fun w' H => ?_
      | refine ckBatch_step (b := ⟨b1, b2, b3, b4⟩) (rs := rs) H rfl rfl rfl rfl (hop _ H.m).recs (hop _ H.m).lr fun w' H => ?_
      | refine ckNames_step (ts := ts) H rfl (hop _ H.m).topics (hop _ H.m).lt fun w' H => ?_)
    refine ⟨rfl, k _ ?_⟩
    simpa [chF, chA, chE, chO, chR, chT, ha, hasL, POp.cs, nilS, batch0, Bool.or_comm, Bool.or_left_comm, Bool.or_assoc] using H
theorem Check_ok {w : World} {o : POp} {rs ts : Sl} (h : OpAt w o rs ts) :
    Calls Tryz.prog 59 #[o.v rs ts] w fun e w' => e = .returned (.int .i64 (opE o)) ∧ Mod [] w w' := by
  refine go_of (ck_request_Check_go ?_)
  intro b1 f1
  refine brB_dec (fun q1 => ?_) fun q1 => ?_
  · intro w1 A1
    exact ⟨by rw [opE, if_pos (.inl q1)], A1.mod⟩
  refine brB_dec (fun q2 => ?_) fun q2 => ?_
  · intro w1 A1
    exact ⟨by rw [opE, if_pos (.inr (by omega))], A1.mod⟩
  have h0 : ¬ (o.kind < 0 ∨ o.kind > 12) := by omega
  intro b4 f4 w5 A5 c1 c4
  have hne : b4 ≠ b1 := by
    rintro rfl
    rw [c1] at c4; cases c4
  have l1 := A5.lt b1 (by simp)
  have l4 := A5.lt b4 (by simp)
  have hop : ∀ w', Mod [b4, b1] w5 w' → OpAt w' o rs ts := fun w' M => h.keep0 (A5.mod.go0 M (by simp; omega))
  refine ckVisit_step (o := o) (rs := rs) (ts := ts) ⟨c4, c1, (Mod.refl _).less (by simp), hne⟩ h0 hop fun w6 H => ?_
  have M6 : Mod [] w w6 := A5.mod.go0 H.m (by simp; omega)
  refine ⟨_, _, _, _, _, _, _, _, _, _, _, _, _, _, _, _, _, _, H.o, _, _, _, H.c, ?_⟩
  have law := check_law o h0
  refine brB_of (fun q3 => ?_) fun q3 => ?_
  · intro w7 A7 _ _
    exact ⟨by rw [law, q3]; rfl, M6.go0 A7.mod (by simpa using f1)⟩
  intro w7 A7 d1 d4
  have M7 : Mod [] w w7 := M6.go0 A7.mod (by simpa using f1)
  have hop7 := h.keep0 M7
  have hA : OpAt w7 { chO o with kind := 0 } (chR o rs) (chT o ts) := by
    refine ⟨?_, ?_, ?_, ?_⟩
    · unfold chR chO; simp only; split
      · exact ⟨rfl, fun i x hx => by simp [batch0] at hx⟩
      · exact hop7.recs
    · unfold chT chO; simp only; split
      · exact ⟨rfl, fun i x hx => by simp at hx⟩
      · exact hop7.topics
    · unfold chO; simp only; split
      · simp [batch0]
      · exact hop7.lr
    · unfold chO; simp only; split
      · simp
      · exact hop7.lt
  have h00 : OpAt w7 op0 nilS nilS := (op0_own w7 0).at
  refine (OpSame_ok (x := { chO o with kind := 0 }) (y := op0) hA h00).mono ?_
  rintro e w8 ⟨rfl, M8⟩
  have c8 := M8.keep0 d1
  have e8 := M8.keep0 d4
  refine ⟨_, rfl, _, _, _, _, _, _, _, _, _, _, _, _, _, _, _, _, _, _, c8, _, _, _, e8, ?_⟩
  have M9 := M7.go0 M8 (by simp)
  refine brB_of (fun q4 => ?_) fun q4 => ?_
  · exact ⟨by rw [law, q3, q4]; rfl, M9⟩
  refine brB_of (fun q5 => ?_) fun q5 => ?_
  · exact ⟨by rw [law, q3, q4, q5]; rfl, M9⟩
  · exact ⟨by rw [law, q3, q4, q5]; rfl, M9⟩
end Go.Proofs.YtohgihgddknmmaaGreat
