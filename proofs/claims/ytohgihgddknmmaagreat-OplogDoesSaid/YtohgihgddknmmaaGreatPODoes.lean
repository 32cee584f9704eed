/- OplogDoes, for every input. No conditions. -/
import Derived.WalkKit
import Derived.WalkSpells
import Derived.WalkLawsBesides
import Derived.Deep.Quiet
import Derived.Test.YtohgihgddknmmaaGreatRows
import Derived.KernelRfl
import Derived.Maps.Keyed
import Derived.Maps.RangeRun
import Derived.DeepKeys4
import Derived.Lib.Strings
import Derived.Shelf.RegionOpenPlain
import Derived.Lib.Slices
import Derived.Lib.Walk
import Derived.Lib.Builder
import Derived.Lib.FrozenHead
import Derived.Lib.OthersKept
import Derived.Lib.AppendStr
import Derived.Lib.UnsafeStr
import Derived.Lib.MakeNoZero
import Derived.Laws.Externs
import Derived.Laws.IdiomCopy
import Derived.Laws.BitsLemmas
import Derived.RangeFuncBox
import Derived.RangeFuncLeaves
import Derived.RangeFuncNested
import Derived.Shelf.Abstract
import Derived.OwnWalkIn
import Derived.TacticsInMore
import Derived.LoopNIn
import Derived.LoopIn
import Derived.Maps.AppendAt
import Derived.Sort.LoopGhostIn
import Derived.Laws.Bits64b
import Derived.Laws.IdiomStrings
import Derived.Test.YtohgihgddknmmaaGreatProg
import Derived.Shelf.Lay
import Derived.Shelf.Strings.FuncGrows
import Derived.Laws.RangeAny
import Derived.Ground.GgwProg
import Derived.Ground.NamesProg
import Derived.ArgAppend
import Derived.ProofKit
import Derived.OpenShut
import Derived.ShutString
import Derived.ChangeOld
import Derived.Below
import Derived.Deep.Slices
import Derived.Test.YtohgihgddknmmaaGreatPODoesK6
/- The conditions of Go functions' bodies, printed by gen2.py. -/
namespace Go.Proofs.YtohgihgddknmmaaGreat
open Go Go.RowKit
set_option linter.unusedVariables false
set_option maxRecDepth 100000

def ref16_number_an : List LA := []
/-- stagecoach/stagecoachref16.number -/
def ref16_number_T (a0_n : Int) (R : Value → World → Prop) (w : World) : Prop :=
  brB (decide (a0_n ≥ 1)) (
    R (.bool (decide (a0_n ≤ 1099511627776))) w)
  (
    R (.bool false) w)
theorem ref16_number_eq (a0_n : Int) (R : Value → World → Prop) (w : World) :
    dnF Tryz.prog ref16_number_an (code Tryz.f130) 400 [] (post3 Tryz.prog Tryz.f130 [] R) ⟨args0 0 [(.int .i64 a0_n)], fun _ => undef⟩ ⟨[], w, [], [], true⟩ = ref16_number_T a0_n R w := by kernel_rfl
theorem ref16_number_go {a0_n : Int} {R : Value → World → Prop} {w : World} (h : ref16_number_T a0_n R w) :
    Calls Tryz.prog 130 #[(.int .i64 a0_n)] w fun e w' => ∃ v, e = .returned v ∧ R v w' :=
  calls_none Tryz.wide_mixed (f := 130) (args := [(.int .i64 a0_n)]) Tryz.func130 rfl rfl (by kernel_rfl) rfl (Eq.mpr (ref16_number_eq a0_n R w) h)
def ref16_Check_la1 : LA := ⟨[0, 0, 1, 0, 1], [0, 3], [], 0, []⟩
def ref16_Check_la2 : LA := ⟨[0, 0, 1, 0, 1, 1], [0, 4], [], 0, []⟩
def ref16_Check_an : List LA := [ref16_Check_la1, ref16_Check_la2]
def ref16_Check_v1 (a_0 : Option Addr) (n_0 : Nat) (c_0 : Nat) (x_3 : Int) : List Value := [(.slice a_0 n_0 c_0), (.int .i64 x_3)]
def ref16_Check_m1 : List TB := []
def ref16_Check_v2 (a_0 : Option Addr) (n_0 : Nat) (c_0 : Nat) (x_4 : Int) : List Value := [(.slice a_0 n_0 c_0), (.int .i64 x_4)]
def ref16_Check_m2 : List TB := []
def ref16_Check_L1 (a_0 : Option Addr) (n_0 : Nat) (c_0 : Nat) (x_3 : Int) (K1 : Kh) (R : Value → World → Prop) (w : World) : Prop :=
  brB (decide (x_3 < (n_0 : Int))) (
    ixA a_0 n_0 x_3 16 fun q1 =>
    ldInt .i64 w q1 fun x2 =>
    Calls Tryz.prog 130 #[(.int .i64 x2)] w fun e w3 => ∃ t4 : Bool, e = .returned (.bool t4) ∧
    brB (!t4) (
      R (.int .i64 1) w3)
    (
      ixA a_0 n_0 x_3 16 fun q5 =>
      ldInt .i64 w3 (Addr.add q5 1) fun x6 =>
      Calls Tryz.prog 130 #[(.int .i64 x6)] w3 fun e w7 => ∃ t8 : Bool, e = .returned (.bool t8) ∧
      brB (!t8) (
        R (.int .i64 1) w7)
      (
        K1 (ref16_Check_v1 a_0 n_0 c_0 (IntKind.wrap .i64 (x_3 + 1))) (ref16_Check_m1) w7)))
  (
    loopD3 ref16_Check_la2 (dnF Tryz.prog ref16_Check_an (code Tryz.f82) 396 [0, 0, 1, 0, 1, 1]) (kont3 Tryz.prog ref16_Check_an (code Tryz.f82) [1, 1, 0, 1, 0] [] (post3 Tryz.prog Tryz.f82 [] R)) (ref16_Check_v2 a_0 n_0 c_0 0) (ref16_Check_m2) w)
theorem ref16_Check_L1_eq (a_0 : Option Addr) (n_0 : Nat) (c_0 : Nat) (x_3 : Int) (K1 : Kh) (js : Nat → Value) (R : Value → World → Prop) (w : World) :
    headA ref16_Check_la1 ((dnF Tryz.prog ref16_Check_an (code Tryz.f82) 397 [0, 0, 1, 0, 1]) (kthen3 (atA ref16_Check_la1 K1) (kont3 Tryz.prog ref16_Check_an (code Tryz.f82) [1, 0, 1, 0] [] (post3 Tryz.prog Tryz.f82 [] R)))) (ref16_Check_v1 a_0 n_0 c_0 x_3) js (ref16_Check_m1) w = ref16_Check_L1 a_0 n_0 c_0 x_3 K1 R w := by kernel_rfl
def ref16_Check_K1 (a_0 : Option Addr) (n_0 : Nat) (c_0 : Nat) (I : Nat → Int → World → Prop) (m : Nat) (vals : List Value) (mem : List TB) (w : World) : Prop := ∃ m', m' < m ∧ ∃ x_3, vals = (ref16_Check_v1 a_0 n_0 c_0 x_3) ∧ mem = (ref16_Check_m1) ∧ I m' x_3 w
theorem ref16_Check_leaf1 {a_0 : Option Addr} {n_0 : Nat} {c_0 : Nat} {I : Nat → Int → World → Prop} {m : Nat} {x_3 : Int} {w : World} (m' : Nat) (h1 : m' < m) (h2 : I m' x_3 w) : ref16_Check_K1 a_0 n_0 c_0 I m (ref16_Check_v1 a_0 n_0 c_0 x_3) (ref16_Check_m1) w := ⟨m', h1, _, rfl, rfl, h2⟩
theorem ref16_Check_rule1 {a_0 : Option Addr} {n_0 : Nat} {c_0 : Nat} {x_30 : Int} {R : Value → World → Prop} {w0 : World} (I : Nat → Int → World → Prop) (m0 : Nat) (h0 : I m0 x_30 w0)
    (hr : ∀ (m : Nat) (x_3 : Int) (w : World), I m x_3 w → ref16_Check_L1 a_0 n_0 c_0 x_3 (ref16_Check_K1 a_0 n_0 c_0 I m) R w) :
    loopD3 ref16_Check_la1 (dnF Tryz.prog ref16_Check_an (code Tryz.f82) 397 [0, 0, 1, 0, 1]) (kont3 Tryz.prog ref16_Check_an (code Tryz.f82) [1, 0, 1, 0] [] (post3 Tryz.prog Tryz.f82 [] R)) (ref16_Check_v1 a_0 n_0 c_0 x_30) (ref16_Check_m1) w0 := by
  refine ⟨fun m vals mem w => ∃ x_3, vals = (ref16_Check_v1 a_0 n_0 c_0 x_3) ∧ mem = (ref16_Check_m1) ∧ I m x_3 w, m0, ⟨_, rfl, rfl, h0⟩, ?_⟩
  rintro m vals mem w ⟨x_3, rfl, rfl, hI⟩
  refine ⟨rfl, rfl, fun js => ?_⟩
  have h := hr m x_3 w hI
  rw [← ref16_Check_L1_eq _ _ _ _ _ js] at h
  exact h
def ref16_Check_L2 (a_0 : Option Addr) (n_0 : Nat) (c_0 : Nat) (x_4 : Int) (K2 : Kh) (R : Value → World → Prop) (w : World) : Prop :=
  brB (decide (x_4 < (n_0 : Int))) (
    ixA a_0 n_0 x_4 16 fun q9 =>
    ldInt .i64 w (Addr.add q9 2) fun x10 => ldStr w (Addr.add (Addr.add q9 2) 1) fun s11 => ldInt .i64 w (Addr.add (Addr.add q9 2) 2) fun x12 => ldInt .i64 w (Addr.add (Addr.add q9 2) 3) fun x13 => ldInt .i64 w (Addr.add (Addr.add q9 2) 4) fun x14 => ldInt .i64 w (Addr.add (Addr.add q9 2) 5) fun x15 => ldInt .i64 w (Addr.add (Addr.add q9 2) 6) fun x16 => ldInt .i64 w (Addr.add (Addr.add q9 2) 7) fun x17 => ldSlice w (Addr.add (Addr.add q9 2) 8) fun a18 n19 c20 => ldStr w (Addr.add (Addr.add q9 2) 9) fun s21 => ldStr w (Addr.add (Addr.add q9 2) 10) fun s22 => ldInt .i64 w (Addr.add (Addr.add q9 2) 11) fun x23 => ldBool w (Addr.add (Addr.add q9 2) 12) fun t24 => ldSlice w (Addr.add (Addr.add q9 2) 13) fun a25 n26 c27 =>
    Calls Tryz.prog 63 #[(.agg #[(.int .i64 x10), (.string s11), (.int .i64 x12), (.int .i64 x13), (.int .i64 x14), (.int .i64 x15), (.int .i64 x16), (.int .i64 x17), (.slice a18 n19 c20), (.string s21), (.string s22), (.int .i64 x23), (.bool t24), (.slice a25 n26 c27)])] w fun e w28 => ∃ x29 : Int, e = .returned (.int .i64 x29) ∧
    brB (x29 != 0) (
      R (.int .i64 x29) w28)
    (
      K2 (ref16_Check_v2 a_0 n_0 c_0 (IntKind.wrap .i64 (x_4 + 1))) (ref16_Check_m2) w28))
  (
    R (.int .i64 0) w)
theorem ref16_Check_L2_eq (a_0 : Option Addr) (n_0 : Nat) (c_0 : Nat) (x_4 : Int) (K2 : Kh) (js : Nat → Value) (R : Value → World → Prop) (w : World) :
    headA ref16_Check_la2 ((dnF Tryz.prog ref16_Check_an (code Tryz.f82) 396 [0, 0, 1, 0, 1, 1]) (kthen3 (atA ref16_Check_la2 K2) (kont3 Tryz.prog ref16_Check_an (code Tryz.f82) [1, 1, 0, 1, 0] [] (post3 Tryz.prog Tryz.f82 [] R)))) (ref16_Check_v2 a_0 n_0 c_0 x_4) js (ref16_Check_m2) w = ref16_Check_L2 a_0 n_0 c_0 x_4 K2 R w := by kernel_rfl
def ref16_Check_K2 (a_0 : Option Addr) (n_0 : Nat) (c_0 : Nat) (I : Nat → Int → World → Prop) (m : Nat) (vals : List Value) (mem : List TB) (w : World) : Prop := ∃ m', m' < m ∧ ∃ x_4, vals = (ref16_Check_v2 a_0 n_0 c_0 x_4) ∧ mem = (ref16_Check_m2) ∧ I m' x_4 w
theorem ref16_Check_leaf2 {a_0 : Option Addr} {n_0 : Nat} {c_0 : Nat} {I : Nat → Int → World → Prop} {m : Nat} {x_4 : Int} {w : World} (m' : Nat) (h1 : m' < m) (h2 : I m' x_4 w) : ref16_Check_K2 a_0 n_0 c_0 I m (ref16_Check_v2 a_0 n_0 c_0 x_4) (ref16_Check_m2) w := ⟨m', h1, _, rfl, rfl, h2⟩
theorem ref16_Check_rule2 {a_0 : Option Addr} {n_0 : Nat} {c_0 : Nat} {x_40 : Int} {R : Value → World → Prop} {w0 : World} (I : Nat → Int → World → Prop) (m0 : Nat) (h0 : I m0 x_40 w0)
    (hr : ∀ (m : Nat) (x_4 : Int) (w : World), I m x_4 w → ref16_Check_L2 a_0 n_0 c_0 x_4 (ref16_Check_K2 a_0 n_0 c_0 I m) R w) :
    loopD3 ref16_Check_la2 (dnF Tryz.prog ref16_Check_an (code Tryz.f82) 396 [0, 0, 1, 0, 1, 1]) (kont3 Tryz.prog ref16_Check_an (code Tryz.f82) [1, 1, 0, 1, 0] [] (post3 Tryz.prog Tryz.f82 [] R)) (ref16_Check_v2 a_0 n_0 c_0 x_40) (ref16_Check_m2) w0 := by
  refine ⟨fun m vals mem w => ∃ x_4, vals = (ref16_Check_v2 a_0 n_0 c_0 x_4) ∧ mem = (ref16_Check_m2) ∧ I m x_4 w, m0, ⟨_, rfl, rfl, h0⟩, ?_⟩
  rintro m vals mem w ⟨x_4, rfl, rfl, hI⟩
  refine ⟨rfl, rfl, fun js => ?_⟩
  have h := hr m x_4 w hI
  rw [← ref16_Check_L2_eq _ _ _ _ _ js] at h
  exact h
/-- stagecoach/stagecoachref16.Check -/
def ref16_Check_T (a0_l_a : Option Addr) (a0_l_n : Nat) (a0_l_c : Nat) (R : Value → World → Prop) (w : World) : Prop :=
  loopD3 ref16_Check_la1 (dnF Tryz.prog ref16_Check_an (code Tryz.f82) 397 [0, 0, 1, 0, 1]) (kont3 Tryz.prog ref16_Check_an (code Tryz.f82) [1, 0, 1, 0] [] (post3 Tryz.prog Tryz.f82 [] R)) (ref16_Check_v1 a0_l_a a0_l_n a0_l_c 0) (ref16_Check_m1) w
theorem ref16_Check_eq (a0_l_a : Option Addr) (a0_l_n : Nat) (a0_l_c : Nat) (R : Value → World → Prop) (w : World) :
    dnF Tryz.prog ref16_Check_an (code Tryz.f82) 400 [] (post3 Tryz.prog Tryz.f82 [] R) ⟨args0 0 [(.slice a0_l_a a0_l_n a0_l_c)], fun _ => undef⟩ ⟨[], w, [], [], true⟩ = ref16_Check_T a0_l_a a0_l_n a0_l_c R w := by kernel_rfl
theorem ref16_Check_go {a0_l_a : Option Addr} {a0_l_n : Nat} {a0_l_c : Nat} {R : Value → World → Prop} {w : World} (h : ref16_Check_T a0_l_a a0_l_n a0_l_c R w) :
    Calls Tryz.prog 82 #[(.slice a0_l_a a0_l_n a0_l_c)] w fun e w' => ∃ v, e = .returned v ∧ R v w' :=
  calls_none Tryz.wide_mixed (f := 82) (args := [(.slice a0_l_a a0_l_n a0_l_c)]) Tryz.func82 rfl rfl (by kernel_rfl) rfl (Eq.mpr (ref16_Check_eq a0_l_a a0_l_n a0_l_c R w) h)
def ref16_Load_an : List LA := []
/-- stagecoach/stagecoachref16.Load -/
def ref16_Load_T (a0_start : Int) (a1_l_a : Option Addr) (a1_l_n : Nat) (a1_l_c : Nat) (R : Value → World → Prop) (w : World) : Prop :=
  brB (decide (a0_start < 0)) (
    R (.tuple #[(.pointer none), (.int .i64 1)]) w)
  (
    brB (decide (a0_start > 1099511627776)) (
      R (.tuple #[(.pointer none), (.int .i64 1)]) w)
    (
      brB (decide ((IntKind.wrap .i64 (a0_start + (a1_l_n : Int))) > 1099511627776)) (
        R (.tuple #[(.pointer none), (.int .i64 1)]) w)
      (
        Calls Tryz.prog 82 #[(.slice a1_l_a a1_l_n a1_l_c)] w fun e w1 => ∃ x2 : Int, e = .returned (.int .i64 x2) ∧
        brB (x2 != 0) (
          R (.tuple #[(.pointer none), (.int .i64 x2)]) w1)
        (
          al w1 (.cells #[] 57) fun b3 w4 =>
          effSl Tryz.prog (Builtin.append_ #[39, 39] 39 #[(.slice (some ⟨b3, 0, none⟩) 0 0), (.slice a1_l_a a1_l_n a1_l_c)]) w4 fun a6 n7 c8 w5 =>
          ∀ b9, w5.heap.size ≤ b9 →
          ∀ w10, Adv [] [b9] w5 w10 → w10.heap[b9]? = some (.cells #[(.int .i64 a0_start), (.slice a6 n7 c8)] 146) →
          R (.tuple #[(.pointer (some ⟨b9, 0, none⟩)), (.int .i64 0)]) w10))))
theorem ref16_Load_eq (a0_start : Int) (a1_l_a : Option Addr) (a1_l_n : Nat) (a1_l_c : Nat) (R : Value → World → Prop) (w : World) :
    dnF Tryz.prog ref16_Load_an (code Tryz.f46) 400 [] (post3 Tryz.prog Tryz.f46 [] R) ⟨args0 0 [(.int .i64 a0_start), (.slice a1_l_a a1_l_n a1_l_c)], fun _ => undef⟩ ⟨[], w, [], [], true⟩ = ref16_Load_T a0_start a1_l_a a1_l_n a1_l_c R w := by kernel_rfl
theorem ref16_Load_go {a0_start : Int} {a1_l_a : Option Addr} {a1_l_n : Nat} {a1_l_c : Nat} {R : Value → World → Prop} {w : World} (h : ref16_Load_T a0_start a1_l_a a1_l_n a1_l_c R w) :
    Calls Tryz.prog 46 #[(.int .i64 a0_start), (.slice a1_l_a a1_l_n a1_l_c)] w fun e w' => ∃ v, e = .returned v ∧ R v w' :=
  calls_none Tryz.wide_mixed (f := 46) (args := [(.int .i64 a0_start), (.slice a1_l_a a1_l_n a1_l_c)]) Tryz.func46 rfl rfl (by kernel_rfl) rfl (Eq.mpr (ref16_Load_eq a0_start a1_l_a a1_l_n a1_l_c R w) h)
def ref16_Log_Last_an : List LA := []
/-- (*stagecoach/stagecoachref16.Log).Last -/
def ref16_Log_Last_T (b0 : Nat) (o0 : Int) (o1_a : Option Addr) (o1_n : Nat) (o1_c : Nat) (R : Value → World → Prop) (w : World) : Prop :=
  ∀ w1, Adv [] [] w w1 → w1.heap[b0]? = some (.cells #[(.int .i64 o0), (.slice o1_a o1_n o1_c)] 146) →
  R (.int .i64 (IntKind.wrap .i64 (o0 + (o1_n : Int)))) w1
theorem ref16_Log_Last_eq (b0 : Nat) (o0 : Int) (o1_a : Option Addr) (o1_n : Nat) (o1_c : Nat) (R : Value → World → Prop) (w : World) :
    dnF Tryz.prog ref16_Log_Last_an (code Tryz.f101) 400 [] (post3 Tryz.prog Tryz.f101 [0] R) ⟨(0, .pointer (some ⟨b0, 0, none⟩), some (0, 0)) :: args0 1 [], fun _ => undef⟩ ⟨[⟨b0, 146, [(.int .i64 o0), (.slice o1_a o1_n o1_c)], false⟩], w, [], [], true⟩ = ref16_Log_Last_T b0 o0 o1_a o1_n o1_c R w := by kernel_rfl
theorem ref16_Log_Last_go {b0 : Nat} {o0 : Int} {o1_a : Option Addr} {o1_n : Nat} {o1_c : Nat} {R : Value → World → Prop} {w : World} (hb : w.heap[b0]? = some (.cells #[(.int .i64 o0), (.slice o1_a o1_n o1_c)] 146)) (h : ref16_Log_Last_T b0 o0 o1_a o1_n o1_c R w) :
    Calls Tryz.prog 101 #[(.pointer (some ⟨b0, 0, none⟩))] w fun e w' => ∃ v, e = .returned v ∧ R v w' :=
  calls_one Tryz.wide_mixed (f := 101) (args := []) Tryz.func101 rfl rfl (by kernel_rfl) rfl hb (Eq.mpr (ref16_Log_Last_eq b0 o0 o1_a o1_n o1_c R w) h)
def ref16_Log_Put_an : List LA := []
/-- (*stagecoach/stagecoachref16.Log).Put -/
def ref16_Log_Put_T (b0 : Nat) (o0 : Int) (o1_a : Option Addr) (o1_n : Nat) (o1_c : Nat) (a1_c_0 : Int) (a1_c_1 : Int) (a1_c_2 : Int) (a1_c_3 : ByteArray) (a1_c_4 : Int) (a1_c_5 : Int) (a1_c_6 : Int) (a1_c_7 : Int) (a1_c_8 : Int) (a1_c_9 : Int) (a1_c_10_a : Option Addr) (a1_c_10_n : Nat) (a1_c_10_c : Nat) (a1_c_11 : ByteArray) (a1_c_12 : ByteArray) (a1_c_13 : Int) (a1_c_14 : Bool) (a1_c_15_a : Option Addr) (a1_c_15_n : Nat) (a1_c_15_c : Nat) (R : Value → World → Prop) (w : World) : Prop :=
  ∀ b1, w.heap.size ≤ b1 →
  ∀ w2, Adv [] [b1] w w2 →
  al w2 (.cells #[(.int .i64 a1_c_0), (.int .i64 a1_c_1), (.int .i64 a1_c_2), (.string a1_c_3), (.int .i64 a1_c_4), (.int .i64 a1_c_5), (.int .i64 a1_c_6), (.int .i64 a1_c_7), (.int .i64 a1_c_8), (.int .i64 a1_c_9), (.slice a1_c_10_a a1_c_10_n a1_c_10_c), (.string a1_c_11), (.string a1_c_12), (.int .i64 a1_c_13), (.bool a1_c_14), (.slice a1_c_15_a a1_c_15_n a1_c_15_c)] 57) fun b3 w4 =>
  Calls Tryz.prog 82 #[(.slice (some ⟨b3, 0, none⟩) 1 1)] w4 fun e w5 => ∃ x6 : Int, e = .returned (.int .i64 x6) ∧ Keep [b0, b1] w4 w5 ∧
  brB (x6 != 0) (
    ∀ w7, Adv [] [] w5 w7 → w7.heap[b0]? = some (.cells #[(.int .i64 o0), (.slice o1_a o1_n o1_c)] 146) →
    R (.tuple #[(.int .i64 0), (.int .i64 x6)]) w7)
  (
    ∀ w8, Adv [] [] w5 w8 → w8.heap[b0]? = some (.cells #[(.int .i64 o0), (.slice o1_a o1_n o1_c)] 146) →
    Calls Tryz.prog 101 #[(.pointer (some ⟨b0, 0, none⟩))] w8 fun e w9 => ∃ x10 : Int, e = .returned (.int .i64 x10) ∧ KeepE [b0] [(b1, 57)] [b1] w8 w9 ∧ ∃ x11 : Int, ∃ (a12 : Option Addr) (n13 c14 : Nat), w9.heap[b0]? = some (.cells #[(.int .i64 x11), (.slice a12 n13 c14)] 146) ∧
    brB (x10 == 1099511627776) (
      R (.tuple #[(.int .i64 0), (.int .i64 2)]) w9)
    (
      ∀ w15, Adv [] [] w9 w15 → w15.heap[b0]? = some (.cells #[(.int .i64 x11), (.slice a12 n13 c14)] 146) →
      al w15 (.cells #[(.int .i64 a1_c_0), (.int .i64 a1_c_1), (.int .i64 a1_c_2), (.string a1_c_3), (.int .i64 a1_c_4), (.int .i64 a1_c_5), (.int .i64 a1_c_6), (.int .i64 a1_c_7), (.int .i64 a1_c_8), (.int .i64 a1_c_9), (.slice a1_c_10_a a1_c_10_n a1_c_10_c), (.string a1_c_11), (.string a1_c_12), (.int .i64 a1_c_13), (.bool a1_c_14), (.slice a1_c_15_a a1_c_15_n a1_c_15_c)] 57) fun b16 w17 =>
      effSl Tryz.prog (Builtin.append_ #[39, 39] 39 #[(.slice a12 n13 c14), (.slice (some ⟨b16, 0, none⟩) 1 1)]) w17 fun a19 n20 c21 w18 => Keep [b0, b1] w17 w18 ∧
      ∀ w22, Adv [b0] [] w18 w22 → w22.heap[b0]? = some (.cells #[(.int .i64 x11), (.slice a19 n20 c21)] 146) →
      Calls Tryz.prog 101 #[(.pointer (some ⟨b0, 0, none⟩))] w22 fun e w23 => ∃ x24 : Int, e = .returned (.int .i64 x24) ∧ KeepE [b0] [(b1, 57)] [b1] w22 w23 ∧ ∃ x25 : Int, ∃ (a26 : Option Addr) (n27 c28 : Nat), w23.heap[b0]? = some (.cells #[(.int .i64 x25), (.slice a26 n27 c28)] 146) ∧
      R (.tuple #[(.int .i64 x24), (.int .i64 0)]) w23))
theorem ref16_Log_Put_eq (b0 : Nat) (o0 : Int) (o1_a : Option Addr) (o1_n : Nat) (o1_c : Nat) (a1_c_0 : Int) (a1_c_1 : Int) (a1_c_2 : Int) (a1_c_3 : ByteArray) (a1_c_4 : Int) (a1_c_5 : Int) (a1_c_6 : Int) (a1_c_7 : Int) (a1_c_8 : Int) (a1_c_9 : Int) (a1_c_10_a : Option Addr) (a1_c_10_n : Nat) (a1_c_10_c : Nat) (a1_c_11 : ByteArray) (a1_c_12 : ByteArray) (a1_c_13 : Int) (a1_c_14 : Bool) (a1_c_15_a : Option Addr) (a1_c_15_n : Nat) (a1_c_15_c : Nat) (R : Value → World → Prop) (w : World) :
    dnF Tryz.prog ref16_Log_Put_an (code Tryz.f47) 400 [] (post3 Tryz.prog Tryz.f47 [0] R) ⟨(0, .pointer (some ⟨b0, 0, none⟩), some (0, 0)) :: args0 1 [(.agg #[(.int .i64 a1_c_0), (.int .i64 a1_c_1), (.int .i64 a1_c_2), (.string a1_c_3), (.int .i64 a1_c_4), (.int .i64 a1_c_5), (.int .i64 a1_c_6), (.int .i64 a1_c_7), (.int .i64 a1_c_8), (.int .i64 a1_c_9), (.slice a1_c_10_a a1_c_10_n a1_c_10_c), (.string a1_c_11), (.string a1_c_12), (.int .i64 a1_c_13), (.bool a1_c_14), (.slice a1_c_15_a a1_c_15_n a1_c_15_c)])], fun _ => undef⟩ ⟨[⟨b0, 146, [(.int .i64 o0), (.slice o1_a o1_n o1_c)], false⟩], w, [], [], true⟩ = ref16_Log_Put_T b0 o0 o1_a o1_n o1_c a1_c_0 a1_c_1 a1_c_2 a1_c_3 a1_c_4 a1_c_5 a1_c_6 a1_c_7 a1_c_8 a1_c_9 a1_c_10_a a1_c_10_n a1_c_10_c a1_c_11 a1_c_12 a1_c_13 a1_c_14 a1_c_15_a a1_c_15_n a1_c_15_c R w := by kernel_rfl
theorem ref16_Log_Put_go {b0 : Nat} {o0 : Int} {o1_a : Option Addr} {o1_n : Nat} {o1_c : Nat} {a1_c_0 : Int} {a1_c_1 : Int} {a1_c_2 : Int} {a1_c_3 : ByteArray} {a1_c_4 : Int} {a1_c_5 : Int} {a1_c_6 : Int} {a1_c_7 : Int} {a1_c_8 : Int} {a1_c_9 : Int} {a1_c_10_a : Option Addr} {a1_c_10_n : Nat} {a1_c_10_c : Nat} {a1_c_11 : ByteArray} {a1_c_12 : ByteArray} {a1_c_13 : Int} {a1_c_14 : Bool} {a1_c_15_a : Option Addr} {a1_c_15_n : Nat} {a1_c_15_c : Nat} {R : Value → World → Prop} {w : World} (hb : w.heap[b0]? = some (.cells #[(.int .i64 o0), (.slice o1_a o1_n o1_c)] 146)) (h : ref16_Log_Put_T b0 o0 o1_a o1_n o1_c a1_c_0 a1_c_1 a1_c_2 a1_c_3 a1_c_4 a1_c_5 a1_c_6 a1_c_7 a1_c_8 a1_c_9 a1_c_10_a a1_c_10_n a1_c_10_c a1_c_11 a1_c_12 a1_c_13 a1_c_14 a1_c_15_a a1_c_15_n a1_c_15_c R w) :
    Calls Tryz.prog 47 #[(.pointer (some ⟨b0, 0, none⟩)), (.agg #[(.int .i64 a1_c_0), (.int .i64 a1_c_1), (.int .i64 a1_c_2), (.string a1_c_3), (.int .i64 a1_c_4), (.int .i64 a1_c_5), (.int .i64 a1_c_6), (.int .i64 a1_c_7), (.int .i64 a1_c_8), (.int .i64 a1_c_9), (.slice a1_c_10_a a1_c_10_n a1_c_10_c), (.string a1_c_11), (.string a1_c_12), (.int .i64 a1_c_13), (.bool a1_c_14), (.slice a1_c_15_a a1_c_15_n a1_c_15_c)])] w fun e w' => ∃ v, e = .returned v ∧ R v w' :=
  calls_one Tryz.wide_mixed (f := 47) (args := [(.agg #[(.int .i64 a1_c_0), (.int .i64 a1_c_1), (.int .i64 a1_c_2), (.string a1_c_3), (.int .i64 a1_c_4), (.int .i64 a1_c_5), (.int .i64 a1_c_6), (.int .i64 a1_c_7), (.int .i64 a1_c_8), (.int .i64 a1_c_9), (.slice a1_c_10_a a1_c_10_n a1_c_10_c), (.string a1_c_11), (.string a1_c_12), (.int .i64 a1_c_13), (.bool a1_c_14), (.slice a1_c_15_a a1_c_15_n a1_c_15_c)])]) Tryz.func47 rfl rfl (by kernel_rfl) rfl hb (Eq.mpr (ref16_Log_Put_eq b0 o0 o1_a o1_n o1_c a1_c_0 a1_c_1 a1_c_2 a1_c_3 a1_c_4 a1_c_5 a1_c_6 a1_c_7 a1_c_8 a1_c_9 a1_c_10_a a1_c_10_n a1_c_10_c a1_c_11 a1_c_12 a1_c_13 a1_c_14 a1_c_15_a a1_c_15_n a1_c_15_c R w) h)
def ref16_Log_Cut_an : List LA := []
/-- (*stagecoach/stagecoachref16.Log).Cut -/
def ref16_Log_Cut_T (b0 : Nat) (o0 : Int) (o1_a : Option Addr) (o1_n : Nat) (o1_c : Nat) (a1_n : Int) (R : Value → World → Prop) (w : World) : Prop :=
  ∀ w1, Adv [] [] w w1 → w1.heap[b0]? = some (.cells #[(.int .i64 o0), (.slice o1_a o1_n o1_c)] 146) →
  Calls Tryz.prog 54 #[(.pointer (some ⟨b0, 0, none⟩)), (.int .i64 a1_n)] w1 fun e w2 => ∃ (a3 : Option Addr) (n4 c5 : Nat), ∃ x6 : Int, e = .returned (.tuple #[(.slice a3 n4 c5), (.int .i64 x6)]) ∧ ∃ x7 : Int, ∃ (a8 : Option Addr) (n9 c10 : Nat), w2.heap[b0]? = some (.cells #[(.int .i64 x7), (.slice a8 n9 c10)] 146) ∧
  brB (x6 == 0) (
    slV a8 c10 0 (IntKind.wrap .i64 (a1_n - x7)) c10 16 fun a11 n12 c13 =>
    ∀ w14, Adv [] [] w2 w14 → w14.heap[b0]? = some (.cells #[(.int .i64 x7), (.slice a8 n9 c10)] 146) →
    al w14 (.cells #[] 57) fun b15 w16 =>
    effSl Tryz.prog (Builtin.append_ #[39, 39] 39 #[(.slice (some ⟨b15, 0, none⟩) 0 0), (.slice a11 n12 c13)]) w16 fun a18 n19 c20 w17 => Keep [b0] w16 w17 ∧
    ∀ w21, Adv [b0] [] w17 w21 → w21.heap[b0]? = some (.cells #[(.int .i64 x7), (.slice a18 n19 c20)] 146) →
    R (.int .i64 x6) w21)
  (
    R (.int .i64 x6) w2)
theorem ref16_Log_Cut_eq (b0 : Nat) (o0 : Int) (o1_a : Option Addr) (o1_n : Nat) (o1_c : Nat) (a1_n : Int) (R : Value → World → Prop) (w : World) :
    dnF Tryz.prog ref16_Log_Cut_an (code Tryz.f48) 400 [] (post3 Tryz.prog Tryz.f48 [0] R) ⟨(0, .pointer (some ⟨b0, 0, none⟩), some (0, 0)) :: args0 1 [(.int .i64 a1_n)], fun _ => undef⟩ ⟨[⟨b0, 146, [(.int .i64 o0), (.slice o1_a o1_n o1_c)], false⟩], w, [], [], true⟩ = ref16_Log_Cut_T b0 o0 o1_a o1_n o1_c a1_n R w := by kernel_rfl
theorem ref16_Log_Cut_go {b0 : Nat} {o0 : Int} {o1_a : Option Addr} {o1_n : Nat} {o1_c : Nat} {a1_n : Int} {R : Value → World → Prop} {w : World} (hb : w.heap[b0]? = some (.cells #[(.int .i64 o0), (.slice o1_a o1_n o1_c)] 146)) (h : ref16_Log_Cut_T b0 o0 o1_a o1_n o1_c a1_n R w) :
    Calls Tryz.prog 48 #[(.pointer (some ⟨b0, 0, none⟩)), (.int .i64 a1_n)] w fun e w' => ∃ v, e = .returned v ∧ R v w' :=
  calls_one Tryz.wide_mixed (f := 48) (args := [(.int .i64 a1_n)]) Tryz.func48 rfl rfl (by kernel_rfl) rfl hb (Eq.mpr (ref16_Log_Cut_eq b0 o0 o1_a o1_n o1_c a1_n R w) h)
def ref16_Log_Drop_an : List LA := []
/-- (*stagecoach/stagecoachref16.Log).Drop -/
def ref16_Log_Drop_T (b0 : Nat) (o0 : Int) (o1_a : Option Addr) (o1_n : Nat) (o1_c : Nat) (a1_n : Int) (R : Value → World → Prop) (w : World) : Prop :=
  ∀ w1, Adv [] [] w w1 → w1.heap[b0]? = some (.cells #[(.int .i64 o0), (.slice o1_a o1_n o1_c)] 146) →
  Calls Tryz.prog 54 #[(.pointer (some ⟨b0, 0, none⟩)), (.int .i64 a1_n)] w1 fun e w2 => ∃ (a3 : Option Addr) (n4 c5 : Nat), ∃ x6 : Int, e = .returned (.tuple #[(.slice a3 n4 c5), (.int .i64 x6)]) ∧ ∃ x7 : Int, ∃ (a8 : Option Addr) (n9 c10 : Nat), w2.heap[b0]? = some (.cells #[(.int .i64 x7), (.slice a8 n9 c10)] 146) ∧
  brB (x6 == 0) (
    ∀ w11, Adv [b0] [] w2 w11 → w11.heap[b0]? = some (.cells #[(.int .i64 a1_n), (.slice a3 n4 c5)] 146) →
    R (.int .i64 x6) w11)
  (
    R (.int .i64 x6) w2)
theorem ref16_Log_Drop_eq (b0 : Nat) (o0 : Int) (o1_a : Option Addr) (o1_n : Nat) (o1_c : Nat) (a1_n : Int) (R : Value → World → Prop) (w : World) :
    dnF Tryz.prog ref16_Log_Drop_an (code Tryz.f49) 400 [] (post3 Tryz.prog Tryz.f49 [0] R) ⟨(0, .pointer (some ⟨b0, 0, none⟩), some (0, 0)) :: args0 1 [(.int .i64 a1_n)], fun _ => undef⟩ ⟨[⟨b0, 146, [(.int .i64 o0), (.slice o1_a o1_n o1_c)], false⟩], w, [], [], true⟩ = ref16_Log_Drop_T b0 o0 o1_a o1_n o1_c a1_n R w := by kernel_rfl
theorem ref16_Log_Drop_go {b0 : Nat} {o0 : Int} {o1_a : Option Addr} {o1_n : Nat} {o1_c : Nat} {a1_n : Int} {R : Value → World → Prop} {w : World} (hb : w.heap[b0]? = some (.cells #[(.int .i64 o0), (.slice o1_a o1_n o1_c)] 146)) (h : ref16_Log_Drop_T b0 o0 o1_a o1_n o1_c a1_n R w) :
    Calls Tryz.prog 49 #[(.pointer (some ⟨b0, 0, none⟩)), (.int .i64 a1_n)] w fun e w' => ∃ v, e = .returned v ∧ R v w' :=
  calls_one Tryz.wide_mixed (f := 49) (args := [(.int .i64 a1_n)]) Tryz.func49 rfl rfl (by kernel_rfl) rfl hb (Eq.mpr (ref16_Log_Drop_eq b0 o0 o1_a o1_n o1_c a1_n R w) h)
def ref16_Log_Join_an : List LA := []
/-- (*stagecoach/stagecoachref16.Log).Join -/
def ref16_Log_Join_T (b0 : Nat) (o0 : Int) (o1_a : Option Addr) (o1_n : Nat) (o1_c : Nat) (a1_n : Int) (a2_l_a : Option Addr) (a2_l_n : Nat) (a2_l_c : Nat) (R : Value → World → Prop) (w : World) : Prop :=
  ∀ w1, Adv [] [] w w1 → w1.heap[b0]? = some (.cells #[(.int .i64 o0), (.slice o1_a o1_n o1_c)] 146) →
  Calls Tryz.prog 54 #[(.pointer (some ⟨b0, 0, none⟩)), (.int .i64 a1_n)] w1 fun e w2 => ∃ (a3 : Option Addr) (n4 c5 : Nat), ∃ x6 : Int, e = .returned (.tuple #[(.slice a3 n4 c5), (.int .i64 x6)]) ∧ ∃ x7 : Int, ∃ (a8 : Option Addr) (n9 c10 : Nat), w2.heap[b0]? = some (.cells #[(.int .i64 x7), (.slice a8 n9 c10)] 146) ∧
  brB (x6 != 0) (
    R (.int .i64 x6) w2)
  (
    Calls Tryz.prog 46 #[(.int .i64 a1_n), (.slice a2_l_a a2_l_n a2_l_c)] w2 fun e w11 => ∃ p12 : Option Addr, ∃ x13 : Int, e = .returned (.tuple #[(.pointer p12), (.int .i64 x13)]) ∧ ∃ x14 : Int, ∃ (a15 : Option Addr) (n16 c17 : Nat), w11.heap[b0]? = some (.cells #[(.int .i64 x14), (.slice a15 n16 c17)] 146) ∧
    brB (x13 != 0) (
      R (.int .i64 x13) w11)
    (
      slV a15 c17 0 (IntKind.wrap .i64 (a1_n - x14)) c17 16 fun a18 n19 c20 =>
      ∀ w21, Adv [] [] w11 w21 → w21.heap[b0]? = some (.cells #[(.int .i64 x14), (.slice a15 n16 c17)] 146) →
      al w21 (.cells #[] 57) fun b22 w23 =>
      effSl Tryz.prog (Builtin.append_ #[39, 39] 39 #[(.slice (some ⟨b22, 0, none⟩) 0 0), (.slice a18 n19 c20)]) w23 fun a25 n26 c27 w24 => Keep [b0] w23 w24 ∧
      effSl Tryz.prog (Builtin.append_ #[39, 39] 39 #[(.slice a25 n26 c27), (.slice a2_l_a a2_l_n a2_l_c)]) w24 fun a29 n30 c31 w28 => Keep [b0] w24 w28 ∧
      ∀ w32, Adv [b0] [] w28 w32 → w32.heap[b0]? = some (.cells #[(.int .i64 x14), (.slice a29 n30 c31)] 146) →
      R (.int .i64 0) w32))
theorem ref16_Log_Join_eq (b0 : Nat) (o0 : Int) (o1_a : Option Addr) (o1_n : Nat) (o1_c : Nat) (a1_n : Int) (a2_l_a : Option Addr) (a2_l_n : Nat) (a2_l_c : Nat) (R : Value → World → Prop) (w : World) :
    dnF Tryz.prog ref16_Log_Join_an (code Tryz.f50) 400 [] (post3 Tryz.prog Tryz.f50 [0] R) ⟨(0, .pointer (some ⟨b0, 0, none⟩), some (0, 0)) :: args0 1 [(.int .i64 a1_n), (.slice a2_l_a a2_l_n a2_l_c)], fun _ => undef⟩ ⟨[⟨b0, 146, [(.int .i64 o0), (.slice o1_a o1_n o1_c)], false⟩], w, [], [], true⟩ = ref16_Log_Join_T b0 o0 o1_a o1_n o1_c a1_n a2_l_a a2_l_n a2_l_c R w := by kernel_rfl
theorem ref16_Log_Join_go {b0 : Nat} {o0 : Int} {o1_a : Option Addr} {o1_n : Nat} {o1_c : Nat} {a1_n : Int} {a2_l_a : Option Addr} {a2_l_n : Nat} {a2_l_c : Nat} {R : Value → World → Prop} {w : World} (hb : w.heap[b0]? = some (.cells #[(.int .i64 o0), (.slice o1_a o1_n o1_c)] 146)) (h : ref16_Log_Join_T b0 o0 o1_a o1_n o1_c a1_n a2_l_a a2_l_n a2_l_c R w) :
    Calls Tryz.prog 50 #[(.pointer (some ⟨b0, 0, none⟩)), (.int .i64 a1_n), (.slice a2_l_a a2_l_n a2_l_c)] w fun e w' => ∃ v, e = .returned v ∧ R v w' :=
  calls_one Tryz.wide_mixed (f := 50) (args := [(.int .i64 a1_n), (.slice a2_l_a a2_l_n a2_l_c)]) Tryz.func50 rfl rfl (by kernel_rfl) rfl hb (Eq.mpr (ref16_Log_Join_eq b0 o0 o1_a o1_n o1_c a1_n a2_l_a a2_l_n a2_l_c R w) h)
def ref16_Log_Since_an : List LA := []
/-- (*stagecoach/stagecoachref16.Log).Since -/
def ref16_Log_Since_T (b0 : Nat) (o0 : Int) (o1_a : Option Addr) (o1_n : Nat) (o1_c : Nat) (a1_n : Int) (R : Value → World → Prop) (w : World) : Prop :=
  brB (decide (a1_n < o0)) (
    ∀ w1, Adv [] [] w w1 → w1.heap[b0]? = some (.cells #[(.int .i64 o0), (.slice o1_a o1_n o1_c)] 146) →
    R (.tuple #[(.slice none 0 0), (.int .i64 161)]) w1)
  (
    ∀ w2, Adv [] [] w w2 → w2.heap[b0]? = some (.cells #[(.int .i64 o0), (.slice o1_a o1_n o1_c)] 146) →
    Calls Tryz.prog 101 #[(.pointer (some ⟨b0, 0, none⟩))] w2 fun e w3 => ∃ x4 : Int, e = .returned (.int .i64 x4) ∧ ∃ x5 : Int, ∃ (a6 : Option Addr) (n7 c8 : Nat), w3.heap[b0]? = some (.cells #[(.int .i64 x5), (.slice a6 n7 c8)] 146) ∧
    brB (decide (a1_n > x4)) (
      R (.tuple #[(.slice none 0 0), (.int .i64 160)]) w3)
    (
      slV a6 c8 (IntKind.wrap .i64 (a1_n - x5)) n7 c8 16 fun a9 n10 c11 =>
      ∀ w12, Adv [] [] w3 w12 → w12.heap[b0]? = some (.cells #[(.int .i64 x5), (.slice a6 n7 c8)] 146) →
      al w12 (.cells #[] 57) fun b13 w14 =>
      effSl Tryz.prog (Builtin.append_ #[39, 39] 39 #[(.slice (some ⟨b13, 0, none⟩) 0 0), (.slice a9 n10 c11)]) w14 fun a16 n17 c18 w15 => Keep [b0] w14 w15 ∧
      R (.tuple #[(.slice a16 n17 c18), (.int .i64 0)]) w15))
theorem ref16_Log_Since_eq (b0 : Nat) (o0 : Int) (o1_a : Option Addr) (o1_n : Nat) (o1_c : Nat) (a1_n : Int) (R : Value → World → Prop) (w : World) :
    dnF Tryz.prog ref16_Log_Since_an (code Tryz.f54) 400 [] (post3 Tryz.prog Tryz.f54 [0] R) ⟨(0, .pointer (some ⟨b0, 0, none⟩), some (0, 0)) :: args0 1 [(.int .i64 a1_n)], fun _ => undef⟩ ⟨[⟨b0, 146, [(.int .i64 o0), (.slice o1_a o1_n o1_c)], false⟩], w, [], [], true⟩ = ref16_Log_Since_T b0 o0 o1_a o1_n o1_c a1_n R w := by kernel_rfl
theorem ref16_Log_Since_go {b0 : Nat} {o0 : Int} {o1_a : Option Addr} {o1_n : Nat} {o1_c : Nat} {a1_n : Int} {R : Value → World → Prop} {w : World} (hb : w.heap[b0]? = some (.cells #[(.int .i64 o0), (.slice o1_a o1_n o1_c)] 146)) (h : ref16_Log_Since_T b0 o0 o1_a o1_n o1_c a1_n R w) :
    Calls Tryz.prog 54 #[(.pointer (some ⟨b0, 0, none⟩)), (.int .i64 a1_n)] w fun e w' => ∃ v, e = .returned v ∧ R v w' :=
  calls_one Tryz.wide_mixed (f := 54) (args := [(.int .i64 a1_n)]) Tryz.func54 rfl rfl (by kernel_rfl) rfl hb (Eq.mpr (ref16_Log_Since_eq b0 o0 o1_a o1_n o1_c a1_n R w) h)
def ref16_Log_Get_an : List LA := []
/-- (*stagecoach/stagecoachref16.Log).Get -/
def ref16_Log_Get_T (b0 : Nat) (o0 : Int) (o1_a : Option Addr) (o1_n : Nat) (o1_c : Nat) (a1_n : Int) (R : Value → World → Prop) (w : World) : Prop :=
  ∀ b1, w.heap.size ≤ b1 →
  brB (decide (a1_n ≤ o0)) (
    ∀ w2, Adv [] [b1] w w2 → w2.heap[b0]? = some (.cells #[(.int .i64 o0), (.slice o1_a o1_n o1_c)] 146) →
    R (.tuple #[(.agg #[(.int .i64 0), (.int .i64 0), (.int .i64 0), (.string ByteArray.empty), (.int .i64 0), (.int .i64 0), (.int .i64 0), (.int .i64 0), (.int .i64 0), (.int .i64 0), (.slice none 0 0), (.string ByteArray.empty), (.string ByteArray.empty), (.int .i64 0), (.bool false), (.slice none 0 0)]), (.int .i64 161)]) w2)
  (
    ∀ w3, Adv [] [b1] w w3 → w3.heap[b0]? = some (.cells #[(.int .i64 o0), (.slice o1_a o1_n o1_c)] 146) →
    Calls Tryz.prog 101 #[(.pointer (some ⟨b0, 0, none⟩))] w3 fun e w4 => ∃ x5 : Int, e = .returned (.int .i64 x5) ∧ KeepE [b0] [(b1, 57)] [b1] w3 w4 ∧ ∃ x6 : Int, ∃ (a7 : Option Addr) (n8 c9 : Nat), w4.heap[b0]? = some (.cells #[(.int .i64 x6), (.slice a7 n8 c9)] 146) ∧
    brB (decide (a1_n > x5)) (
      ∀ w10, Adv [b1] [] w4 w10 → w10.heap[b0]? = some (.cells #[(.int .i64 x6), (.slice a7 n8 c9)] 146) →
      R (.tuple #[(.agg #[(.int .i64 0), (.int .i64 0), (.int .i64 0), (.string ByteArray.empty), (.int .i64 0), (.int .i64 0), (.int .i64 0), (.int .i64 0), (.int .i64 0), (.int .i64 0), (.slice none 0 0), (.string ByteArray.empty), (.string ByteArray.empty), (.int .i64 0), (.bool false), (.slice none 0 0)]), (.int .i64 160)]) w10)
    (
      ixA a7 n8 (IntKind.wrap .i64 ((IntKind.wrap .i64 (a1_n - x6)) - 1)) 16 fun q11 =>
      ∀ w12, Adv [] [] w4 w12 → w12.heap[b0]? = some (.cells #[(.int .i64 x6), (.slice a7 n8 c9)] 146) →
      ldInt .i64 w12 q11 fun x13 => ldInt .i64 w12 (Addr.add q11 1) fun x14 => ldInt .i64 w12 (Addr.add q11 2) fun x15 => ldStr w12 (Addr.add q11 3) fun s16 => ldInt .i64 w12 (Addr.add q11 4) fun x17 => ldInt .i64 w12 (Addr.add q11 5) fun x18 => ldInt .i64 w12 (Addr.add q11 6) fun x19 => ldInt .i64 w12 (Addr.add q11 7) fun x20 => ldInt .i64 w12 (Addr.add q11 8) fun x21 => ldInt .i64 w12 (Addr.add q11 9) fun x22 => ldSlice w12 (Addr.add q11 10) fun a23 n24 c25 => ldStr w12 (Addr.add q11 11) fun s26 => ldStr w12 (Addr.add q11 12) fun s27 => ldInt .i64 w12 (Addr.add q11 13) fun x28 => ldBool w12 (Addr.add q11 14) fun t29 => ldSlice w12 (Addr.add q11 15) fun a30 n31 c32 =>
      ∀ w33, Adv [b1] [] w12 w33 → w33.heap[b0]? = some (.cells #[(.int .i64 x6), (.slice a7 n8 c9)] 146) →
      R (.tuple #[(.agg #[(.int .i64 x13), (.int .i64 x14), (.int .i64 x15), (.string s16), (.int .i64 x17), (.int .i64 x18), (.int .i64 x19), (.int .i64 x20), (.int .i64 x21), (.int .i64 x22), (.slice a23 n24 c25), (.string s26), (.string s27), (.int .i64 x28), (.bool t29), (.slice a30 n31 c32)]), (.int .i64 0)]) w33))
theorem ref16_Log_Get_eq (b0 : Nat) (o0 : Int) (o1_a : Option Addr) (o1_n : Nat) (o1_c : Nat) (a1_n : Int) (R : Value → World → Prop) (w : World) :
    dnF Tryz.prog ref16_Log_Get_an (code Tryz.f55) 400 [] (post3 Tryz.prog Tryz.f55 [0] R) ⟨(0, .pointer (some ⟨b0, 0, none⟩), some (0, 0)) :: args0 1 [(.int .i64 a1_n)], fun _ => undef⟩ ⟨[⟨b0, 146, [(.int .i64 o0), (.slice o1_a o1_n o1_c)], false⟩], w, [], [], true⟩ = ref16_Log_Get_T b0 o0 o1_a o1_n o1_c a1_n R w := by kernel_rfl
theorem ref16_Log_Get_go {b0 : Nat} {o0 : Int} {o1_a : Option Addr} {o1_n : Nat} {o1_c : Nat} {a1_n : Int} {R : Value → World → Prop} {w : World} (hb : w.heap[b0]? = some (.cells #[(.int .i64 o0), (.slice o1_a o1_n o1_c)] 146)) (h : ref16_Log_Get_T b0 o0 o1_a o1_n o1_c a1_n R w) :
    Calls Tryz.prog 55 #[(.pointer (some ⟨b0, 0, none⟩)), (.int .i64 a1_n)] w fun e w' => ∃ v, e = .returned v ∧ R v w' :=
  calls_one Tryz.wide_mixed (f := 55) (args := [(.int .i64 a1_n)]) Tryz.func55 rfl rfl (by kernel_rfl) rfl hb (Eq.mpr (ref16_Log_Get_eq b0 o0 o1_a o1_n o1_c a1_n R w) h)
def law16_same_an : List LA := []
/-- stagecoach/stagecoachlaw16.same -/
def law16_same_T (a0_g : Addr) (a1_k : Addr) (R : Value → World → Prop) (w : World) : Prop :=
  Calls Tryz.prog 40 #[(.pointer (some a0_g))] w fun e w1 => ∃ x2 : Int, ∃ x3 : Int, e = .returned (.tuple #[(.int .i64 x2), (.int .i64 x3)]) ∧
  Calls Tryz.prog 38 #[(.pointer (some a0_g)), (.int .i64 x2)] w1 fun e w4 => ∃ (a5 : Option Addr) (n6 c7 : Nat), ∃ x8 : Int, e = .returned (.tuple #[(.slice a5 n6 c7), (.int .i64 x8)]) ∧
  ldInt .i64 w4 a1_k fun x9 =>
  brB (x2 == x9) (
    Calls Tryz.prog 101 #[(.pointer (some a1_k))] w4 fun e w10 => ∃ x11 : Int, e = .returned (.int .i64 x11) ∧
    brB (x3 == x11) (
      brB (x8 == 0) (
        ldSlice w10 (Addr.add a1_k 1) fun a12 n13 c14 =>
        Calls Tryz.prog 28 #[(.slice a5 n6 c7), (.slice a12 n13 c14)] w10 fun e w15 => ∃ t16 : Bool, e = .returned (.bool t16) ∧
        R (.bool t16) w15)
      (
        R (.bool false) w10))
    (
      R (.bool false) w10))
  (
    R (.bool false) w4)
theorem law16_same_eq (a0_g : Addr) (a1_k : Addr) (R : Value → World → Prop) (w : World) :
    dnF Tryz.prog law16_same_an (code Tryz.f53) 400 [] (post3 Tryz.prog Tryz.f53 [] R) ⟨args0 0 [(.pointer (some a0_g)), (.pointer (some a1_k))], fun _ => undef⟩ ⟨[], w, [], [], true⟩ = law16_same_T a0_g a1_k R w := by kernel_rfl
theorem law16_same_go {a0_g : Addr} {a1_k : Addr} {R : Value → World → Prop} {w : World} (h : law16_same_T a0_g a1_k R w) :
    Calls Tryz.prog 53 #[(.pointer (some a0_g)), (.pointer (some a1_k))] w fun e w' => ∃ v, e = .returned v ∧ R v w' :=
  calls_none Tryz.wide_mixed (f := 53) (args := [(.pointer (some a0_g)), (.pointer (some a1_k))]) Tryz.func53 rfl rfl (by kernel_rfl) rfl (Eq.mpr (law16_same_eq a0_g a1_k R w) h)
def law16_OplogDoes_la1 : LA := ⟨[0, 0, 1, 0, 1, 1, 1, 1, 1], [1, 5, 7, 9], [], 0, []⟩
def law16_OplogDoes_la2 : LA := ⟨[1, 1, 1, 1, 0, 0, 1, 0, 0, 1, 0, 1, 1, 1, 1, 1], [1, 5, 7, 9, 10, 12, 13, 14, 15], [(10, 0, 0)], 1, []⟩
def law16_OplogDoes_la3 : LA := ⟨[0, 0, 1, 1, 1, 1, 1, 1, 1, 1, 1, 1, 1, 0, 0, 1, 0, 0, 1, 0, 1, 1, 1, 1, 1], [1, 5, 7, 9, 18, 26], [], 3, []⟩
def law16_OplogDoes_la4 : LA := ⟨[0, 0, 1, 0, 0, 0, 1, 0, 0, 1, 1, 1, 1, 1, 1, 1, 1, 1, 1, 1, 0, 0, 1, 0, 0, 1, 0, 1, 1, 1, 1, 1], [1, 5, 7, 9, 18, 26, 27], [], 3, []⟩
def law16_OplogDoes_an : List LA := [law16_OplogDoes_la1, law16_OplogDoes_la2, law16_OplogDoes_la3, law16_OplogDoes_la4]
def law16_OplogDoes_v1 (a_1 : Option Addr) (n_1 : Nat) (c_1 : Nat) (p_7 : Option Addr) (p_5 : Option Addr) (x_9 : Int) : List Value := [(.slice a_1 n_1 c_1), (.pointer p_5), (.pointer p_7), (.int .i64 x_9)]
def law16_OplogDoes_m1 : List TB := []
def law16_OplogDoes_v2 (a_1 : Option Addr) (n_1 : Nat) (c_1 : Nat) (p_5 : Option Addr) (p_7 : Option Addr) (x_9 : Int) (x_12 : Int) (x_13 : Int) (x_14 : Int) (x_15 : Int) (bm0 : Nat) : List Value := [(.slice a_1 n_1 c_1), (.pointer p_5), (.pointer p_7), (.int .i64 x_9), (.pointer (some ⟨bm0, 0, none⟩)), (.int .i64 x_12), (.int .i64 x_13), (.int .i64 x_14), (.int .i64 x_15)]
def law16_OplogDoes_m2 (bm0 : Nat) (x_m0_0 : Int) (x_m0_1 : Int) (x_m0_2 : Int) (x_m0_3 : Int) (x_m0_4 : Int) (s_m0_5 : ByteArray) (x_m0_6 : Int) (x_m0_7 : Int) (x_m0_8 : Int) (x_m0_9 : Int) (x_m0_10 : Int) (x_m0_11 : Int) (a_m0_12 : Option Addr) (n_m0_12 : Nat) (c_m0_12 : Nat) (s_m0_13 : ByteArray) (s_m0_14 : ByteArray) (x_m0_15 : Int) (t_m0_16 : Bool) (a_m0_17 : Option Addr) (n_m0_17 : Nat) (c_m0_17 : Nat) (a_m0_18 : Option Addr) (n_m0_18 : Nat) (c_m0_18 : Nat) : List TB := [⟨bm0, 97, [(.int .i64 x_m0_0), (.int .i64 x_m0_1), (.int .i64 x_m0_2), (.int .i64 x_m0_3), (.int .i64 x_m0_4), (.string s_m0_5), (.int .i64 x_m0_6), (.int .i64 x_m0_7), (.int .i64 x_m0_8), (.int .i64 x_m0_9), (.int .i64 x_m0_10), (.int .i64 x_m0_11), (.slice a_m0_12 n_m0_12 c_m0_12), (.string s_m0_13), (.string s_m0_14), (.int .i64 x_m0_15), (.bool t_m0_16), (.slice a_m0_17 n_m0_17 c_m0_17), (.slice a_m0_18 n_m0_18 c_m0_18)], false⟩]
def law16_OplogDoes_v3 (a_1 : Option Addr) (n_1 : Nat) (c_1 : Nat) (p_5 : Option Addr) (p_7 : Option Addr) (x_9 : Int) (a_18 : Option Addr) (n_18 : Nat) (c_18 : Nat) (x_26 : Int) : List Value := [(.slice a_1 n_1 c_1), (.pointer p_5), (.pointer p_7), (.int .i64 x_9), (.slice a_18 n_18 c_18), (.int .i64 x_26)]
def law16_OplogDoes_m3 (bm0 : Nat) (x_m0_0 : Int) (x_m0_1 : Int) (x_m0_2 : Int) (x_m0_3 : Int) (x_m0_4 : Int) (s_m0_5 : ByteArray) (x_m0_6 : Int) (x_m0_7 : Int) (x_m0_8 : Int) (x_m0_9 : Int) (x_m0_10 : Int) (x_m0_11 : Int) (a_m0_12 : Option Addr) (n_m0_12 : Nat) (c_m0_12 : Nat) (s_m0_13 : ByteArray) (s_m0_14 : ByteArray) (x_m0_15 : Int) (t_m0_16 : Bool) (a_m0_17 : Option Addr) (n_m0_17 : Nat) (c_m0_17 : Nat) (a_m0_18 : Option Addr) (n_m0_18 : Nat) (c_m0_18 : Nat) (bm1 : Nat) (x_m1_0 : Int) (x_m1_1 : Int) (x_m1_2 : Int) (s_m1_3 : ByteArray) (x_m1_4 : Int) (x_m1_5 : Int) (x_m1_6 : Int) (x_m1_7 : Int) (x_m1_8 : Int) (x_m1_9 : Int) (a_m1_10 : Option Addr) (n_m1_10 : Nat) (c_m1_10 : Nat) (s_m1_11 : ByteArray) (s_m1_12 : ByteArray) (x_m1_13 : Int) (t_m1_14 : Bool) (a_m1_15 : Option Addr) (n_m1_15 : Nat) (c_m1_15 : Nat) (bm2 : Nat) (x_m2_0 : Int) (x_m2_1 : Int) (x_m2_2 : Int) (s_m2_3 : ByteArray) (x_m2_4 : Int) (x_m2_5 : Int) (x_m2_6 : Int) (x_m2_7 : Int) (x_m2_8 : Int) (x_m2_9 : Int) (a_m2_10 : Option Addr) (n_m2_10 : Nat) (c_m2_10 : Nat) (s_m2_11 : ByteArray) (s_m2_12 : ByteArray) (x_m2_13 : Int) (t_m2_14 : Bool) (a_m2_15 : Option Addr) (n_m2_15 : Nat) (c_m2_15 : Nat) : List TB := [⟨bm0, 97, [(.int .i64 x_m0_0), (.int .i64 x_m0_1), (.int .i64 x_m0_2), (.int .i64 x_m0_3), (.int .i64 x_m0_4), (.string s_m0_5), (.int .i64 x_m0_6), (.int .i64 x_m0_7), (.int .i64 x_m0_8), (.int .i64 x_m0_9), (.int .i64 x_m0_10), (.int .i64 x_m0_11), (.slice a_m0_12 n_m0_12 c_m0_12), (.string s_m0_13), (.string s_m0_14), (.int .i64 x_m0_15), (.bool t_m0_16), (.slice a_m0_17 n_m0_17 c_m0_17), (.slice a_m0_18 n_m0_18 c_m0_18)], false⟩, ⟨bm1, 57, [(.int .i64 x_m1_0), (.int .i64 x_m1_1), (.int .i64 x_m1_2), (.string s_m1_3), (.int .i64 x_m1_4), (.int .i64 x_m1_5), (.int .i64 x_m1_6), (.int .i64 x_m1_7), (.int .i64 x_m1_8), (.int .i64 x_m1_9), (.slice a_m1_10 n_m1_10 c_m1_10), (.string s_m1_11), (.string s_m1_12), (.int .i64 x_m1_13), (.bool t_m1_14), (.slice a_m1_15 n_m1_15 c_m1_15)], false⟩, ⟨bm2, 57, [(.int .i64 x_m2_0), (.int .i64 x_m2_1), (.int .i64 x_m2_2), (.string s_m2_3), (.int .i64 x_m2_4), (.int .i64 x_m2_5), (.int .i64 x_m2_6), (.int .i64 x_m2_7), (.int .i64 x_m2_8), (.int .i64 x_m2_9), (.slice a_m2_10 n_m2_10 c_m2_10), (.string s_m2_11), (.string s_m2_12), (.int .i64 x_m2_13), (.bool t_m2_14), (.slice a_m2_15 n_m2_15 c_m2_15)], false⟩]
def law16_OplogDoes_v4 (a_1 : Option Addr) (n_1 : Nat) (c_1 : Nat) (p_5 : Option Addr) (p_7 : Option Addr) (x_9 : Int) (a_18 : Option Addr) (n_18 : Nat) (c_18 : Nat) (x_26 : Int) (x_27 : Int) : List Value := [(.slice a_1 n_1 c_1), (.pointer p_5), (.pointer p_7), (.int .i64 x_9), (.slice a_18 n_18 c_18), (.int .i64 x_26), (.int .i64 x_27)]
def law16_OplogDoes_m4 (bm0 : Nat) (x_m0_0 : Int) (x_m0_1 : Int) (x_m0_2 : Int) (x_m0_3 : Int) (x_m0_4 : Int) (s_m0_5 : ByteArray) (x_m0_6 : Int) (x_m0_7 : Int) (x_m0_8 : Int) (x_m0_9 : Int) (x_m0_10 : Int) (x_m0_11 : Int) (a_m0_12 : Option Addr) (n_m0_12 : Nat) (c_m0_12 : Nat) (s_m0_13 : ByteArray) (s_m0_14 : ByteArray) (x_m0_15 : Int) (t_m0_16 : Bool) (a_m0_17 : Option Addr) (n_m0_17 : Nat) (c_m0_17 : Nat) (a_m0_18 : Option Addr) (n_m0_18 : Nat) (c_m0_18 : Nat) (bm1 : Nat) (x_m1_0 : Int) (x_m1_1 : Int) (x_m1_2 : Int) (s_m1_3 : ByteArray) (x_m1_4 : Int) (x_m1_5 : Int) (x_m1_6 : Int) (x_m1_7 : Int) (x_m1_8 : Int) (x_m1_9 : Int) (a_m1_10 : Option Addr) (n_m1_10 : Nat) (c_m1_10 : Nat) (s_m1_11 : ByteArray) (s_m1_12 : ByteArray) (x_m1_13 : Int) (t_m1_14 : Bool) (a_m1_15 : Option Addr) (n_m1_15 : Nat) (c_m1_15 : Nat) (bm2 : Nat) (x_m2_0 : Int) (x_m2_1 : Int) (x_m2_2 : Int) (s_m2_3 : ByteArray) (x_m2_4 : Int) (x_m2_5 : Int) (x_m2_6 : Int) (x_m2_7 : Int) (x_m2_8 : Int) (x_m2_9 : Int) (a_m2_10 : Option Addr) (n_m2_10 : Nat) (c_m2_10 : Nat) (s_m2_11 : ByteArray) (s_m2_12 : ByteArray) (x_m2_13 : Int) (t_m2_14 : Bool) (a_m2_15 : Option Addr) (n_m2_15 : Nat) (c_m2_15 : Nat) : List TB := [⟨bm0, 97, [(.int .i64 x_m0_0), (.int .i64 x_m0_1), (.int .i64 x_m0_2), (.int .i64 x_m0_3), (.int .i64 x_m0_4), (.string s_m0_5), (.int .i64 x_m0_6), (.int .i64 x_m0_7), (.int .i64 x_m0_8), (.int .i64 x_m0_9), (.int .i64 x_m0_10), (.int .i64 x_m0_11), (.slice a_m0_12 n_m0_12 c_m0_12), (.string s_m0_13), (.string s_m0_14), (.int .i64 x_m0_15), (.bool t_m0_16), (.slice a_m0_17 n_m0_17 c_m0_17), (.slice a_m0_18 n_m0_18 c_m0_18)], false⟩, ⟨bm1, 57, [(.int .i64 x_m1_0), (.int .i64 x_m1_1), (.int .i64 x_m1_2), (.string s_m1_3), (.int .i64 x_m1_4), (.int .i64 x_m1_5), (.int .i64 x_m1_6), (.int .i64 x_m1_7), (.int .i64 x_m1_8), (.int .i64 x_m1_9), (.slice a_m1_10 n_m1_10 c_m1_10), (.string s_m1_11), (.string s_m1_12), (.int .i64 x_m1_13), (.bool t_m1_14), (.slice a_m1_15 n_m1_15 c_m1_15)], false⟩, ⟨bm2, 57, [(.int .i64 x_m2_0), (.int .i64 x_m2_1), (.int .i64 x_m2_2), (.string s_m2_3), (.int .i64 x_m2_4), (.int .i64 x_m2_5), (.int .i64 x_m2_6), (.int .i64 x_m2_7), (.int .i64 x_m2_8), (.int .i64 x_m2_9), (.slice a_m2_10 n_m2_10 c_m2_10), (.string s_m2_11), (.string s_m2_12), (.int .i64 x_m2_13), (.bool t_m2_14), (.slice a_m2_15 n_m2_15 c_m2_15)], false⟩]
def law16_OplogDoes_L1 (a_1 : Option Addr) (n_1 : Nat) (c_1 : Nat) (p_7 : Option Addr) (p_5 : Option Addr) (x_9 : Int) (K1 : Kh) (R : Value → World → Prop) (w : World) : Prop :=
  brB (decide (x_9 < (n_1 : Int))) (
    brB (decide (x_9 < 40)) (
      ixA a_1 n_1 x_9 19 fun q11 =>
      ldInt .i64 w q11 fun x12 => ldInt .i64 w (Addr.add q11 1) fun x13 => ldInt .i64 w (Addr.add q11 2) fun x14 => ldInt .i64 w (Addr.add q11 3) fun x15 => ldInt .i64 w (Addr.add q11 4) fun x16 => ldStr w (Addr.add q11 5) fun s17 => ldInt .i64 w (Addr.add q11 6) fun x18 => ldInt .i64 w (Addr.add q11 7) fun x19 => ldInt .i64 w (Addr.add q11 8) fun x20 => ldInt .i64 w (Addr.add q11 9) fun x21 => ldInt .i64 w (Addr.add q11 10) fun x22 => ldInt .i64 w (Addr.add q11 11) fun x23 => ldSlice w (Addr.add q11 12) fun a24 n25 c26 => ldStr w (Addr.add q11 13) fun s27 => ldStr w (Addr.add q11 14) fun s28 => ldInt .i64 w (Addr.add q11 15) fun x29 => ldBool w (Addr.add q11 16) fun t30 => ldSlice w (Addr.add q11 17) fun a31 n32 c33 => ldSlice w (Addr.add q11 18) fun a34 n35 c36 =>
      ∀ b37, w.heap.size ≤ b37 →
      ∀ w38, Adv [] [b37] w w38 →
      Calls Tryz.prog 30 #[(.slice a34 n35 c36)] w38 fun e w39 => ∃ (a40 : Option Addr) (n41 c42 : Nat), e = .returned (.slice a40 n41 c42) ∧ Keep [b37] w38 w39 ∧
      brB (x12 == 0) (
        al w39 (.cells #[(.int .i64 x14), (.int .i64 x15), (.int .i64 x16), (.string s17), (.int .i64 x18), (.int .i64 x19), (.int .i64 x20), (.int .i64 x21), (.int .i64 x22), (.int .i64 x23), (.slice a24 n25 c26), (.string s27), (.string s28), (.int .i64 x29), (.bool t30), (.slice a31 n32 c33)] 57) fun b43 w44 =>
        Calls Tryz.prog 30 #[(.slice (some ⟨b43, 0, none⟩) 1 1)] w44 fun e w45 => ∃ (a46 : Option Addr) (n47 c48 : Nat), e = .returned (.slice a46 n47 c48) ∧ Keep [b37] w44 w45 ∧
        brB ((n47 : Int) != 1) (
          R (.bool false) w45)
        (
          ixA a46 n47 0 16 fun q49 =>
          ldInt .i64 w45 q49 fun x50 => ldInt .i64 w45 (Addr.add q49 1) fun x51 => ldInt .i64 w45 (Addr.add q49 2) fun x52 => ldStr w45 (Addr.add q49 3) fun s53 => ldInt .i64 w45 (Addr.add q49 4) fun x54 => ldInt .i64 w45 (Addr.add q49 5) fun x55 => ldInt .i64 w45 (Addr.add q49 6) fun x56 => ldInt .i64 w45 (Addr.add q49 7) fun x57 => ldInt .i64 w45 (Addr.add q49 8) fun x58 => ldInt .i64 w45 (Addr.add q49 9) fun x59 => ldSlice w45 (Addr.add q49 10) fun a60 n61 c62 => ldStr w45 (Addr.add q49 11) fun s63 => ldStr w45 (Addr.add q49 12) fun s64 => ldInt .i64 w45 (Addr.add q49 13) fun x65 => ldBool w45 (Addr.add q49 14) fun t66 => ldSlice w45 (Addr.add q49 15) fun a67 n68 c69 =>
          Calls Tryz.prog 42 #[(.pointer p_5), (.agg #[(.int .i64 x50), (.int .i64 x51), (.int .i64 x52), (.string s53), (.int .i64 x54), (.int .i64 x55), (.int .i64 x56), (.int .i64 x57), (.int .i64 x58), (.int .i64 x59), (.slice a60 n61 c62), (.string s63), (.string s64), (.int .i64 x65), (.bool t66), (.slice a67 n68 c69)])] w45 fun e w70 => ∃ x71 : Int, ∃ x72 : Int, e = .returned (.tuple #[(.int .i64 x71), (.int .i64 x72)]) ∧ Keep [b37] w45 w70 ∧
          ixA a46 n47 0 16 fun q73 =>
          ldInt .i64 w70 q73 fun x74 => ldInt .i64 w70 (Addr.add q73 1) fun x75 => ldInt .i64 w70 (Addr.add q73 2) fun x76 => ldStr w70 (Addr.add q73 3) fun s77 => ldInt .i64 w70 (Addr.add q73 4) fun x78 => ldInt .i64 w70 (Addr.add q73 5) fun x79 => ldInt .i64 w70 (Addr.add q73 6) fun x80 => ldInt .i64 w70 (Addr.add q73 7) fun x81 => ldInt .i64 w70 (Addr.add q73 8) fun x82 => ldInt .i64 w70 (Addr.add q73 9) fun x83 => ldSlice w70 (Addr.add q73 10) fun a84 n85 c86 => ldStr w70 (Addr.add q73 11) fun s87 => ldStr w70 (Addr.add q73 12) fun s88 => ldInt .i64 w70 (Addr.add q73 13) fun x89 => ldBool w70 (Addr.add q73 14) fun t90 => ldSlice w70 (Addr.add q73 15) fun a91 n92 c93 =>
          Calls Tryz.prog 47 #[(.pointer p_7), (.agg #[(.int .i64 x74), (.int .i64 x75), (.int .i64 x76), (.string s77), (.int .i64 x78), (.int .i64 x79), (.int .i64 x80), (.int .i64 x81), (.int .i64 x82), (.int .i64 x83), (.slice a84 n85 c86), (.string s87), (.string s88), (.int .i64 x89), (.bool t90), (.slice a91 n92 c93)])] w70 fun e w94 => ∃ x95 : Int, ∃ x96 : Int, e = .returned (.tuple #[(.int .i64 x95), (.int .i64 x96)]) ∧ Keep [b37] w70 w94 ∧
          cutD3 law16_OplogDoes_la2 ((dnF Tryz.prog law16_OplogDoes_an (code Tryz.f9) 388 [1, 1, 1, 1, 0, 0, 1, 0, 0, 1, 0, 1, 1, 1, 1, 1]) (kont3 Tryz.prog law16_OplogDoes_an (code Tryz.f9) [1, 1, 1, 1, 1, 0, 1, 0, 0, 1, 0, 0, 1, 1, 1] [K1] (post3 Tryz.prog Tryz.f9 [] R))) (law16_OplogDoes_v2 a_1 n_1 c_1 p_5 p_7 x_9 x71 x95 x72 x96 b37) (law16_OplogDoes_m2 b37 x12 x13 x14 x15 x16 s17 x18 x19 x20 x21 x22 x23 a24 n25 c26 s27 s28 x29 t30 a31 n32 c33 a34 n35 c36) w94))
      (
        brB (x12 == 1) (
          Calls Tryz.prog 45 #[(.pointer p_5), (.int .i64 x13)] w39 fun e w177 => ∃ x178 : Int, e = .returned (.int .i64 x178) ∧ Keep [b37] w39 w177 ∧
          Calls Tryz.prog 48 #[(.pointer p_7), (.int .i64 x13)] w177 fun e w179 => ∃ x180 : Int, e = .returned (.int .i64 x180) ∧ Keep [b37] w177 w179 ∧
          cutD3 law16_OplogDoes_la2 ((dnF Tryz.prog law16_OplogDoes_an (code Tryz.f9) 388 [1, 1, 1, 1, 0, 0, 1, 0, 0, 1, 0, 1, 1, 1, 1, 1]) (kont3 Tryz.prog law16_OplogDoes_an (code Tryz.f9) [1, 1, 1, 1, 1, 0, 1, 0, 0, 1, 0, 0, 1, 1, 1] [K1] (post3 Tryz.prog Tryz.f9 [] R))) (law16_OplogDoes_v2 a_1 n_1 c_1 p_5 p_7 x_9 0 0 x178 x180 b37) (law16_OplogDoes_m2 b37 x12 x13 x14 x15 x16 s17 x18 x19 x20 x21 x22 x23 a24 n25 c26 s27 s28 x29 t30 a31 n32 c33 a34 n35 c36) w179)
        (
          brB (x12 == 2) (
            Calls Tryz.prog 43 #[(.pointer p_5), (.int .i64 x13)] w39 fun e w181 => ∃ x182 : Int, e = .returned (.int .i64 x182) ∧ Keep [b37] w39 w181 ∧
            Calls Tryz.prog 49 #[(.pointer p_7), (.int .i64 x13)] w181 fun e w183 => ∃ x184 : Int, e = .returned (.int .i64 x184) ∧ Keep [b37] w181 w183 ∧
            cutD3 law16_OplogDoes_la2 ((dnF Tryz.prog law16_OplogDoes_an (code Tryz.f9) 388 [1, 1, 1, 1, 0, 0, 1, 0, 0, 1, 0, 1, 1, 1, 1, 1]) (kont3 Tryz.prog law16_OplogDoes_an (code Tryz.f9) [1, 1, 1, 1, 1, 0, 1, 0, 0, 1, 0, 0, 1, 1, 1] [K1] (post3 Tryz.prog Tryz.f9 [] R))) (law16_OplogDoes_v2 a_1 n_1 c_1 p_5 p_7 x_9 0 0 x182 x184 b37) (law16_OplogDoes_m2 b37 x12 x13 x14 x15 x16 s17 x18 x19 x20 x21 x22 x23 a24 n25 c26 s27 s28 x29 t30 a31 n32 c33 a34 n35 c36) w183)
          (
            brB (x12 == 3) (
              Calls Tryz.prog 39 #[(.pointer p_5), (.int .i64 x13), (.slice a40 n41 c42)] w39 fun e w185 => ∃ x186 : Int, e = .returned (.int .i64 x186) ∧ Keep [b37] w39 w185 ∧
              Calls Tryz.prog 50 #[(.pointer p_7), (.int .i64 x13), (.slice a40 n41 c42)] w185 fun e w187 => ∃ x188 : Int, e = .returned (.int .i64 x188) ∧ Keep [b37] w185 w187 ∧
              cutD3 law16_OplogDoes_la2 ((dnF Tryz.prog law16_OplogDoes_an (code Tryz.f9) 388 [1, 1, 1, 1, 0, 0, 1, 0, 0, 1, 0, 1, 1, 1, 1, 1]) (kont3 Tryz.prog law16_OplogDoes_an (code Tryz.f9) [1, 1, 1, 1, 1, 0, 1, 0, 0, 1, 0, 0, 1, 1, 1] [K1] (post3 Tryz.prog Tryz.f9 [] R))) (law16_OplogDoes_v2 a_1 n_1 c_1 p_5 p_7 x_9 0 0 x186 x188 b37) (law16_OplogDoes_m2 b37 x12 x13 x14 x15 x16 s17 x18 x19 x20 x21 x22 x23 a24 n25 c26 s27 s28 x29 t30 a31 n32 c33 a34 n35 c36) w187)
            (
              brB (x12 == 4) (
                Calls Tryz.prog 51 #[(.pointer p_5)] w39 fun e w189 => ∃ p190 : Option Addr, e = .returned (.pointer p190) ∧ Keep [b37] w39 w189 ∧
                Calls Tryz.prog 52 #[(.int .i64 9), (.int .i64 9)] w189 fun e w191 => ∃ x192 : Int, ∃ x193 : Int, ∃ x194 : Int, ∃ s195 : ByteArray, ∃ x196 : Int, ∃ x197 : Int, ∃ x198 : Int, ∃ x199 : Int, ∃ x200 : Int, ∃ x201 : Int, ∃ (a202 : Option Addr) (n203 c204 : Nat), ∃ s205 : ByteArray, ∃ s206 : ByteArray, ∃ x207 : Int, ∃ t208 : Bool, ∃ (a209 : Option Addr) (n210 c211 : Nat), e = .returned (.agg #[(.int .i64 x192), (.int .i64 x193), (.int .i64 x194), (.string s195), (.int .i64 x196), (.int .i64 x197), (.int .i64 x198), (.int .i64 x199), (.int .i64 x200), (.int .i64 x201), (.slice a202 n203 c204), (.string s205), (.string s206), (.int .i64 x207), (.bool t208), (.slice a209 n210 c211)]) ∧ Keep [b37] w189 w191 ∧
                Calls Tryz.prog 42 #[(.pointer p_5), (.agg #[(.int .i64 x192), (.int .i64 x193), (.int .i64 x194), (.string s195), (.int .i64 x196), (.int .i64 x197), (.int .i64 x198), (.int .i64 x199), (.int .i64 x200), (.int .i64 x201), (.slice a202 n203 c204), (.string s205), (.string s206), (.int .i64 x207), (.bool t208), (.slice a209 n210 c211)])] w191 fun e w212 => ∃ x213 : Int, ∃ x214 : Int, e = .returned (.tuple #[(.int .i64 x213), (.int .i64 x214)]) ∧ Keep [b37] w191 w212 ∧
                Calls Tryz.prog 45 #[(.pointer p_5), (.int .i64 x13)] w212 fun e w215 => ∃ x216 : Int, e = .returned (.int .i64 x216) ∧ Keep [b37] w212 w215 ∧
                brB (Option.isNone p190) (
                  R (.bool false) w215)
                (
                  cutD3 law16_OplogDoes_la2 ((dnF Tryz.prog law16_OplogDoes_an (code Tryz.f9) 388 [1, 1, 1, 1, 0, 0, 1, 0, 0, 1, 0, 1, 1, 1, 1, 1]) (kont3 Tryz.prog law16_OplogDoes_an (code Tryz.f9) [1, 1, 1, 1, 1, 0, 1, 0, 0, 1, 0, 0, 1, 1, 1] [K1] (post3 Tryz.prog Tryz.f9 [] R))) (law16_OplogDoes_v2 a_1 n_1 c_1 p190 p_7 x_9 0 0 0 0 b37) (law16_OplogDoes_m2 b37 x12 x13 x14 x15 x16 s17 x18 x19 x20 x21 x22 x23 a24 n25 c26 s27 s28 x29 t30 a31 n32 c33 a34 n35 c36) w215))
              (
                cutD3 law16_OplogDoes_la2 ((dnF Tryz.prog law16_OplogDoes_an (code Tryz.f9) 388 [1, 1, 1, 1, 0, 0, 1, 0, 0, 1, 0, 1, 1, 1, 1, 1]) (kont3 Tryz.prog law16_OplogDoes_an (code Tryz.f9) [1, 1, 1, 1, 1, 0, 1, 0, 0, 1, 0, 0, 1, 1, 1] [K1] (post3 Tryz.prog Tryz.f9 [] R))) (law16_OplogDoes_v2 a_1 n_1 c_1 p_5 p_7 x_9 0 0 0 0 b37) (law16_OplogDoes_m2 b37 x12 x13 x14 x15 x16 s17 x18 x19 x20 x21 x22 x23 a24 n25 c26 s27 s28 x29 t30 a31 n32 c33 a34 n35 c36) w39))))))
    (
      Calls Tryz.prog 36 #[] w fun e w217 => ∃ t218 : Bool, e = .returned (.bool t218) ∧
      R (.bool t218) w217))
  (
    Calls Tryz.prog 36 #[] w fun e w219 => ∃ t220 : Bool, e = .returned (.bool t220) ∧
    R (.bool t220) w219)
theorem law16_OplogDoes_L1_eq (a_1 : Option Addr) (n_1 : Nat) (c_1 : Nat) (p_7 : Option Addr) (p_5 : Option Addr) (x_9 : Int) (K1 : Kh) (js : Nat → Value) (R : Value → World → Prop) (w : World) :
    headA law16_OplogDoes_la1 ((dnF Tryz.prog law16_OplogDoes_an (code Tryz.f9) 393 [0, 0, 1, 0, 1, 1, 1, 1, 1]) (kthen3 (atA law16_OplogDoes_la1 K1) (kont3 Tryz.prog law16_OplogDoes_an (code Tryz.f9) [1, 1, 1, 1, 1, 0, 1, 0] [] (post3 Tryz.prog Tryz.f9 [] R)))) (law16_OplogDoes_v1 a_1 n_1 c_1 p_7 p_5 x_9) js (law16_OplogDoes_m1) w = law16_OplogDoes_L1 a_1 n_1 c_1 p_7 p_5 x_9 K1 R w := by kernel_rfl
def law16_OplogDoes_K1 (a_1 : Option Addr) (n_1 : Nat) (c_1 : Nat) (p_7 : Option Addr) (I : Nat → Option Addr → Int → World → Prop) (m : Nat) (vals : List Value) (mem : List TB) (w : World) : Prop := ∃ m', m' < m ∧ ∃ p_5 x_9, vals = (law16_OplogDoes_v1 a_1 n_1 c_1 p_7 p_5 x_9) ∧ mem = (law16_OplogDoes_m1) ∧ I m' p_5 x_9 w
theorem law16_OplogDoes_leaf1 {a_1 : Option Addr} {n_1 : Nat} {c_1 : Nat} {p_7 : Option Addr} {I : Nat → Option Addr → Int → World → Prop} {m : Nat} {p_5 : Option Addr} {x_9 : Int} {w : World} (m' : Nat) (h1 : m' < m) (h2 : I m' p_5 x_9 w) : law16_OplogDoes_K1 a_1 n_1 c_1 p_7 I m (law16_OplogDoes_v1 a_1 n_1 c_1 p_7 p_5 x_9) (law16_OplogDoes_m1) w := ⟨m', h1, _, _, rfl, rfl, h2⟩
theorem law16_OplogDoes_rule1 {a_1 : Option Addr} {n_1 : Nat} {c_1 : Nat} {p_7 : Option Addr} {p_50 : Option Addr} {x_90 : Int} {R : Value → World → Prop} {w0 : World} (I : Nat → Option Addr → Int → World → Prop) (m0 : Nat) (h0 : I m0 p_50 x_90 w0)
    (hr : ∀ (m : Nat) (p_5 : Option Addr) (x_9 : Int) (w : World), I m p_5 x_9 w → law16_OplogDoes_L1 a_1 n_1 c_1 p_7 p_5 x_9 (law16_OplogDoes_K1 a_1 n_1 c_1 p_7 I m) R w) :
    loopD3 law16_OplogDoes_la1 (dnF Tryz.prog law16_OplogDoes_an (code Tryz.f9) 393 [0, 0, 1, 0, 1, 1, 1, 1, 1]) (kont3 Tryz.prog law16_OplogDoes_an (code Tryz.f9) [1, 1, 1, 1, 1, 0, 1, 0] [] (post3 Tryz.prog Tryz.f9 [] R)) (law16_OplogDoes_v1 a_1 n_1 c_1 p_7 p_50 x_90) (law16_OplogDoes_m1) w0 := by
  refine ⟨fun m vals mem w => ∃ p_5 x_9, vals = (law16_OplogDoes_v1 a_1 n_1 c_1 p_7 p_5 x_9) ∧ mem = (law16_OplogDoes_m1) ∧ I m p_5 x_9 w, m0, ⟨_, _, rfl, rfl, h0⟩, ?_⟩
  rintro m vals mem w ⟨p_5, x_9, rfl, rfl, hI⟩
  refine ⟨rfl, rfl, fun js => ?_⟩
  have h := hr m p_5 x_9 w hI
  rw [← law16_OplogDoes_L1_eq _ _ _ _ _ _ _ js] at h
  exact h
def law16_OplogDoes_C2 (a_1 : Option Addr) (n_1 : Nat) (c_1 : Nat) (p_5 : Option Addr) (p_7 : Option Addr) (x_9 : Int) (x_12 : Int) (x_13 : Int) (x_14 : Int) (x_15 : Int) (bm0 : Nat) (x_m0_0 : Int) (x_m0_1 : Int) (x_m0_2 : Int) (x_m0_3 : Int) (x_m0_4 : Int) (s_m0_5 : ByteArray) (x_m0_6 : Int) (x_m0_7 : Int) (x_m0_8 : Int) (x_m0_9 : Int) (x_m0_10 : Int) (x_m0_11 : Int) (a_m0_12 : Option Addr) (n_m0_12 : Nat) (c_m0_12 : Nat) (s_m0_13 : ByteArray) (s_m0_14 : ByteArray) (x_m0_15 : Int) (t_m0_16 : Bool) (a_m0_17 : Option Addr) (n_m0_17 : Nat) (c_m0_17 : Nat) (a_m0_18 : Option Addr) (n_m0_18 : Nat) (c_m0_18 : Nat) (K1 : Kh) (R : Value → World → Prop) (w : World) : Prop :=
  brB (x_12 != x_13) (
    R (.bool false) w)
  (
    brB (x_14 != x_15) (
      R (.bool false) w)
    (
      Calls Tryz.prog 53 #[(.pointer p_5), (.pointer p_7)] w fun e w97 => ∃ t98 : Bool, e = .returned (.bool t98) ∧ Keep [bm0] w w97 ∧
      brB (!t98) (
        R (.bool false) w97)
      (
        Calls Tryz.prog 38 #[(.pointer p_5), (.int .i64 x_m0_1)] w97 fun e w99 => ∃ (a100 : Option Addr) (n101 c102 : Nat), ∃ x103 : Int, e = .returned (.tuple #[(.slice a100 n101 c102), (.int .i64 x103)]) ∧ Keep [bm0] w97 w99 ∧
        Calls Tryz.prog 54 #[(.pointer p_7), (.int .i64 x_m0_1)] w99 fun e w104 => ∃ (a105 : Option Addr) (n106 c107 : Nat), ∃ x108 : Int, e = .returned (.tuple #[(.slice a105 n106 c107), (.int .i64 x108)]) ∧ Keep [bm0] w99 w104 ∧
        Calls Tryz.prog 44 #[(.pointer p_5), (.int .i64 x_m0_1)] w104 fun e w109 => ∃ x110 : Int, ∃ x111 : Int, ∃ x112 : Int, ∃ s113 : ByteArray, ∃ x114 : Int, ∃ x115 : Int, ∃ x116 : Int, ∃ x117 : Int, ∃ x118 : Int, ∃ x119 : Int, ∃ (a120 : Option Addr) (n121 c122 : Nat), ∃ s123 : ByteArray, ∃ s124 : ByteArray, ∃ x125 : Int, ∃ t126 : Bool, ∃ (a127 : Option Addr) (n128 c129 : Nat), ∃ x130 : Int, e = .returned (.tuple #[(.agg #[(.int .i64 x110), (.int .i64 x111), (.int .i64 x112), (.string s113), (.int .i64 x114), (.int .i64 x115), (.int .i64 x116), (.int .i64 x117), (.int .i64 x118), (.int .i64 x119), (.slice a120 n121 c122), (.string s123), (.string s124), (.int .i64 x125), (.bool t126), (.slice a127 n128 c129)]), (.int .i64 x130)]) ∧ Keep [bm0] w104 w109 ∧
        ∀ b131, w109.heap.size ≤ b131 →
        ∀ w132, Adv [] [b131] w109 w132 →
        Calls Tryz.prog 55 #[(.pointer p_7), (.int .i64 x_m0_1)] w132 fun e w133 => ∃ x134 : Int, ∃ x135 : Int, ∃ x136 : Int, ∃ s137 : ByteArray, ∃ x138 : Int, ∃ x139 : Int, ∃ x140 : Int, ∃ x141 : Int, ∃ x142 : Int, ∃ x143 : Int, ∃ (a144 : Option Addr) (n145 c146 : Nat), ∃ s147 : ByteArray, ∃ s148 : ByteArray, ∃ x149 : Int, ∃ t150 : Bool, ∃ (a151 : Option Addr) (n152 c153 : Nat), ∃ x154 : Int, e = .returned (.tuple #[(.agg #[(.int .i64 x134), (.int .i64 x135), (.int .i64 x136), (.string s137), (.int .i64 x138), (.int .i64 x139), (.int .i64 x140), (.int .i64 x141), (.int .i64 x142), (.int .i64 x143), (.slice a144 n145 c146), (.string s147), (.string s148), (.int .i64 x149), (.bool t150), (.slice a151 n152 c153)]), (.int .i64 x154)]) ∧ Keep [bm0, b131] w132 w133 ∧
        ∀ b155, w133.heap.size ≤ b155 →
        ∀ w156, Adv [] [b155] w133 w156 →
        Calls Tryz.prog 28 #[(.slice a100 n101 c102), (.slice a105 n106 c107)] w156 fun e w157 => ∃ t158 : Bool, e = .returned (.bool t158) ∧ Keep [bm0, b131, b155] w156 w157 ∧
        brB (!t158) (
          R (.bool false) w157)
        (
          brB (x103 != x108) (
            R (.bool false) w157)
          (
            al w157 (.cells #[(.int .i64 x110), (.int .i64 x111), (.int .i64 x112), (.string s113), (.int .i64 x114), (.int .i64 x115), (.int .i64 x116), (.int .i64 x117), (.int .i64 x118), (.int .i64 x119), (.slice a120 n121 c122), (.string s123), (.string s124), (.int .i64 x125), (.bool t126), (.slice a127 n128 c129)] 57) fun b159 w160 =>
            al w160 (.cells #[(.int .i64 x134), (.int .i64 x135), (.int .i64 x136), (.string s137), (.int .i64 x138), (.int .i64 x139), (.int .i64 x140), (.int .i64 x141), (.int .i64 x142), (.int .i64 x143), (.slice a144 n145 c146), (.string s147), (.string s148), (.int .i64 x149), (.bool t150), (.slice a151 n152 c153)] 57) fun b161 w162 =>
            Calls Tryz.prog 28 #[(.slice (some ⟨b159, 0, none⟩) 1 1), (.slice (some ⟨b161, 0, none⟩) 1 1)] w162 fun e w163 => ∃ t164 : Bool, e = .returned (.bool t164) ∧ Keep [bm0, b131, b155] w162 w163 ∧
            brB (!t164) (
              R (.bool false) w163)
            (
              brB (x130 != x154) (
                R (.bool false) w163)
              (
                loopD3 law16_OplogDoes_la3 (dnF Tryz.prog law16_OplogDoes_an (code Tryz.f9) 380 [0, 0, 1, 1, 1, 1, 1, 1, 1, 1, 1, 1, 1, 0, 0, 1, 0, 0, 1, 0, 1, 1, 1, 1, 1]) (kont3 Tryz.prog law16_OplogDoes_an (code Tryz.f9) [1, 1, 1, 1, 1, 0, 1, 0, 0, 1, 0, 0, 1, 1, 1, 1, 1, 1, 1, 1, 1, 1, 1, 0] [K1] (post3 Tryz.prog Tryz.f9 [] R)) (law16_OplogDoes_v3 a_1 n_1 c_1 p_5 p_7 x_9 a100 n101 c102 0) (law16_OplogDoes_m3 bm0 x_m0_0 x_m0_1 x_m0_2 x_m0_3 x_m0_4 s_m0_5 x_m0_6 x_m0_7 x_m0_8 x_m0_9 x_m0_10 x_m0_11 a_m0_12 n_m0_12 c_m0_12 s_m0_13 s_m0_14 x_m0_15 t_m0_16 a_m0_17 n_m0_17 c_m0_17 a_m0_18 n_m0_18 c_m0_18 b131 x110 x111 x112 s113 x114 x115 x116 x117 x118 x119 a120 n121 c122 s123 s124 x125 t126 a127 n128 c129 b155 x134 x135 x136 s137 x138 x139 x140 x141 x142 x143 a144 n145 c146 s147 s148 x149 t150 a151 n152 c153) w163)))))))
theorem law16_OplogDoes_C2_eq (a_1 : Option Addr) (n_1 : Nat) (c_1 : Nat) (p_5 : Option Addr) (p_7 : Option Addr) (x_9 : Int) (x_12 : Int) (x_13 : Int) (x_14 : Int) (x_15 : Int) (bm0 : Nat) (x_m0_0 : Int) (x_m0_1 : Int) (x_m0_2 : Int) (x_m0_3 : Int) (x_m0_4 : Int) (s_m0_5 : ByteArray) (x_m0_6 : Int) (x_m0_7 : Int) (x_m0_8 : Int) (x_m0_9 : Int) (x_m0_10 : Int) (x_m0_11 : Int) (a_m0_12 : Option Addr) (n_m0_12 : Nat) (c_m0_12 : Nat) (s_m0_13 : ByteArray) (s_m0_14 : ByteArray) (x_m0_15 : Int) (t_m0_16 : Bool) (a_m0_17 : Option Addr) (n_m0_17 : Nat) (c_m0_17 : Nat) (a_m0_18 : Option Addr) (n_m0_18 : Nat) (c_m0_18 : Nat) (K1 : Kh) (js : Nat → Value) (R : Value → World → Prop) (w : World) :
    headA law16_OplogDoes_la2 ((dnF Tryz.prog law16_OplogDoes_an (code Tryz.f9) 388 [1, 1, 1, 1, 0, 0, 1, 0, 0, 1, 0, 1, 1, 1, 1, 1]) (kont3 Tryz.prog law16_OplogDoes_an (code Tryz.f9) [1, 1, 1, 1, 1, 0, 1, 0, 0, 1, 0, 0, 1, 1, 1] [K1] (post3 Tryz.prog Tryz.f9 [] R))) (law16_OplogDoes_v2 a_1 n_1 c_1 p_5 p_7 x_9 x_12 x_13 x_14 x_15 bm0) js (law16_OplogDoes_m2 bm0 x_m0_0 x_m0_1 x_m0_2 x_m0_3 x_m0_4 s_m0_5 x_m0_6 x_m0_7 x_m0_8 x_m0_9 x_m0_10 x_m0_11 a_m0_12 n_m0_12 c_m0_12 s_m0_13 s_m0_14 x_m0_15 t_m0_16 a_m0_17 n_m0_17 c_m0_17 a_m0_18 n_m0_18 c_m0_18) w = law16_OplogDoes_C2 a_1 n_1 c_1 p_5 p_7 x_9 x_12 x_13 x_14 x_15 bm0 x_m0_0 x_m0_1 x_m0_2 x_m0_3 x_m0_4 s_m0_5 x_m0_6 x_m0_7 x_m0_8 x_m0_9 x_m0_10 x_m0_11 a_m0_12 n_m0_12 c_m0_12 s_m0_13 s_m0_14 x_m0_15 t_m0_16 a_m0_17 n_m0_17 c_m0_17 a_m0_18 n_m0_18 c_m0_18 K1 R w := by kernel_rfl
theorem law16_OplogDoes_cut2 {a_10 : Option Addr} {n_10 : Nat} {c_10 : Nat} {p_50 : Option Addr} {p_70 : Option Addr} {x_90 : Int} {x_120 : Int} {x_130 : Int} {x_140 : Int} {x_150 : Int} {bm00 : Nat} {x_m0_00 : Int} {x_m0_10 : Int} {x_m0_20 : Int} {x_m0_30 : Int} {x_m0_40 : Int} {s_m0_50 : ByteArray} {x_m0_60 : Int} {x_m0_70 : Int} {x_m0_80 : Int} {x_m0_90 : Int} {x_m0_100 : Int} {x_m0_110 : Int} {a_m0_120 : Option Addr} {n_m0_120 : Nat} {c_m0_120 : Nat} {s_m0_130 : ByteArray} {s_m0_140 : ByteArray} {x_m0_150 : Int} {t_m0_160 : Bool} {a_m0_170 : Option Addr} {n_m0_170 : Nat} {c_m0_170 : Nat} {a_m0_180 : Option Addr} {n_m0_180 : Nat} {c_m0_180 : Nat} {K1 : Kh} {R : Value → World → Prop} {w0 : World} (J : Option Addr → Nat → Nat → Option Addr → Option Addr → Int → Int → Int → Int → Int → Nat → Int → Int → Int → Int → Int → ByteArray → Int → Int → Int → Int → Int → Int → Option Addr → Nat → Nat → ByteArray → ByteArray → Int → Bool → Option Addr → Nat → Nat → Option Addr → Nat → Nat → World → Prop) (h0 : J a_10 n_10 c_10 p_50 p_70 x_90 x_120 x_130 x_140 x_150 bm00 x_m0_00 x_m0_10 x_m0_20 x_m0_30 x_m0_40 s_m0_50 x_m0_60 x_m0_70 x_m0_80 x_m0_90 x_m0_100 x_m0_110 a_m0_120 n_m0_120 c_m0_120 s_m0_130 s_m0_140 x_m0_150 t_m0_160 a_m0_170 n_m0_170 c_m0_170 a_m0_180 n_m0_180 c_m0_180 w0)
    (hr : ∀ (a_1 : Option Addr) (n_1 : Nat) (c_1 : Nat) (p_5 : Option Addr) (p_7 : Option Addr) (x_9 : Int) (x_12 : Int) (x_13 : Int) (x_14 : Int) (x_15 : Int) (bm0 : Nat) (x_m0_0 : Int) (x_m0_1 : Int) (x_m0_2 : Int) (x_m0_3 : Int) (x_m0_4 : Int) (s_m0_5 : ByteArray) (x_m0_6 : Int) (x_m0_7 : Int) (x_m0_8 : Int) (x_m0_9 : Int) (x_m0_10 : Int) (x_m0_11 : Int) (a_m0_12 : Option Addr) (n_m0_12 : Nat) (c_m0_12 : Nat) (s_m0_13 : ByteArray) (s_m0_14 : ByteArray) (x_m0_15 : Int) (t_m0_16 : Bool) (a_m0_17 : Option Addr) (n_m0_17 : Nat) (c_m0_17 : Nat) (a_m0_18 : Option Addr) (n_m0_18 : Nat) (c_m0_18 : Nat) (w : World), J a_1 n_1 c_1 p_5 p_7 x_9 x_12 x_13 x_14 x_15 bm0 x_m0_0 x_m0_1 x_m0_2 x_m0_3 x_m0_4 s_m0_5 x_m0_6 x_m0_7 x_m0_8 x_m0_9 x_m0_10 x_m0_11 a_m0_12 n_m0_12 c_m0_12 s_m0_13 s_m0_14 x_m0_15 t_m0_16 a_m0_17 n_m0_17 c_m0_17 a_m0_18 n_m0_18 c_m0_18 w → law16_OplogDoes_C2 a_1 n_1 c_1 p_5 p_7 x_9 x_12 x_13 x_14 x_15 bm0 x_m0_0 x_m0_1 x_m0_2 x_m0_3 x_m0_4 s_m0_5 x_m0_6 x_m0_7 x_m0_8 x_m0_9 x_m0_10 x_m0_11 a_m0_12 n_m0_12 c_m0_12 s_m0_13 s_m0_14 x_m0_15 t_m0_16 a_m0_17 n_m0_17 c_m0_17 a_m0_18 n_m0_18 c_m0_18 K1 R w) :
    cutD3 law16_OplogDoes_la2 ((dnF Tryz.prog law16_OplogDoes_an (code Tryz.f9) 388 [1, 1, 1, 1, 0, 0, 1, 0, 0, 1, 0, 1, 1, 1, 1, 1]) (kont3 Tryz.prog law16_OplogDoes_an (code Tryz.f9) [1, 1, 1, 1, 1, 0, 1, 0, 0, 1, 0, 0, 1, 1, 1] [K1] (post3 Tryz.prog Tryz.f9 [] R))) (law16_OplogDoes_v2 a_10 n_10 c_10 p_50 p_70 x_90 x_120 x_130 x_140 x_150 bm00) (law16_OplogDoes_m2 bm00 x_m0_00 x_m0_10 x_m0_20 x_m0_30 x_m0_40 s_m0_50 x_m0_60 x_m0_70 x_m0_80 x_m0_90 x_m0_100 x_m0_110 a_m0_120 n_m0_120 c_m0_120 s_m0_130 s_m0_140 x_m0_150 t_m0_160 a_m0_170 n_m0_170 c_m0_170 a_m0_180 n_m0_180 c_m0_180) w0 := by
  refine ⟨fun vals mem w => ∃ a_1 n_1 c_1 p_5 p_7 x_9 x_12 x_13 x_14 x_15 bm0 x_m0_0 x_m0_1 x_m0_2 x_m0_3 x_m0_4 s_m0_5 x_m0_6 x_m0_7 x_m0_8 x_m0_9 x_m0_10 x_m0_11 a_m0_12 n_m0_12 c_m0_12 s_m0_13 s_m0_14 x_m0_15 t_m0_16 a_m0_17 n_m0_17 c_m0_17 a_m0_18 n_m0_18 c_m0_18, vals = (law16_OplogDoes_v2 a_1 n_1 c_1 p_5 p_7 x_9 x_12 x_13 x_14 x_15 bm0) ∧ mem = (law16_OplogDoes_m2 bm0 x_m0_0 x_m0_1 x_m0_2 x_m0_3 x_m0_4 s_m0_5 x_m0_6 x_m0_7 x_m0_8 x_m0_9 x_m0_10 x_m0_11 a_m0_12 n_m0_12 c_m0_12 s_m0_13 s_m0_14 x_m0_15 t_m0_16 a_m0_17 n_m0_17 c_m0_17 a_m0_18 n_m0_18 c_m0_18) ∧ J a_1 n_1 c_1 p_5 p_7 x_9 x_12 x_13 x_14 x_15 bm0 x_m0_0 x_m0_1 x_m0_2 x_m0_3 x_m0_4 s_m0_5 x_m0_6 x_m0_7 x_m0_8 x_m0_9 x_m0_10 x_m0_11 a_m0_12 n_m0_12 c_m0_12 s_m0_13 s_m0_14 x_m0_15 t_m0_16 a_m0_17 n_m0_17 c_m0_17 a_m0_18 n_m0_18 c_m0_18 w, ⟨_, _, _, _, _, _, _, _, _, _, _, _, _, _, _, _, _, _, _, _, _, _, _, _, _, _, _, _, _, _, _, _, _, _, _, _, rfl, rfl, h0⟩, ?_⟩
  rintro vals mem w ⟨a_1, n_1, c_1, p_5, p_7, x_9, x_12, x_13, x_14, x_15, bm0, x_m0_0, x_m0_1, x_m0_2, x_m0_3, x_m0_4, s_m0_5, x_m0_6, x_m0_7, x_m0_8, x_m0_9, x_m0_10, x_m0_11, a_m0_12, n_m0_12, c_m0_12, s_m0_13, s_m0_14, x_m0_15, t_m0_16, a_m0_17, n_m0_17, c_m0_17, a_m0_18, n_m0_18, c_m0_18, rfl, rfl, hJ⟩
  refine ⟨rfl, rfl, fun js => ?_⟩
  have h := hr a_1 n_1 c_1 p_5 p_7 x_9 x_12 x_13 x_14 x_15 bm0 x_m0_0 x_m0_1 x_m0_2 x_m0_3 x_m0_4 s_m0_5 x_m0_6 x_m0_7 x_m0_8 x_m0_9 x_m0_10 x_m0_11 a_m0_12 n_m0_12 c_m0_12 s_m0_13 s_m0_14 x_m0_15 t_m0_16 a_m0_17 n_m0_17 c_m0_17 a_m0_18 n_m0_18 c_m0_18 w hJ
  rw [← law16_OplogDoes_C2_eq _ _ _ _ _ _ _ _ _ _ _ _ _ _ _ _ _ _ _ _ _ _ _ _ _ _ _ _ _ _ _ _ _ _ _ _ _ js] at h
  exact h
def law16_OplogDoes_L3 (a_1 : Option Addr) (n_1 : Nat) (c_1 : Nat) (p_5 : Option Addr) (p_7 : Option Addr) (x_9 : Int) (a_18 : Option Addr) (n_18 : Nat) (c_18 : Nat) (bm0 : Nat) (x_m0_0 : Int) (x_m0_1 : Int) (x_m0_2 : Int) (x_m0_3 : Int) (x_m0_4 : Int) (s_m0_5 : ByteArray) (x_m0_6 : Int) (x_m0_7 : Int) (x_m0_8 : Int) (x_m0_9 : Int) (x_m0_10 : Int) (x_m0_11 : Int) (a_m0_12 : Option Addr) (n_m0_12 : Nat) (c_m0_12 : Nat) (s_m0_13 : ByteArray) (s_m0_14 : ByteArray) (x_m0_15 : Int) (t_m0_16 : Bool) (a_m0_17 : Option Addr) (n_m0_17 : Nat) (c_m0_17 : Nat) (a_m0_18 : Option Addr) (n_m0_18 : Nat) (c_m0_18 : Nat) (bm1 : Nat) (x_m1_0 : Int) (x_m1_1 : Int) (x_m1_2 : Int) (s_m1_3 : ByteArray) (x_m1_4 : Int) (x_m1_5 : Int) (x_m1_6 : Int) (x_m1_7 : Int) (x_m1_8 : Int) (x_m1_9 : Int) (a_m1_10 : Option Addr) (n_m1_10 : Nat) (c_m1_10 : Nat) (s_m1_11 : ByteArray) (s_m1_12 : ByteArray) (x_m1_13 : Int) (t_m1_14 : Bool) (a_m1_15 : Option Addr) (n_m1_15 : Nat) (c_m1_15 : Nat) (bm2 : Nat) (x_m2_0 : Int) (x_m2_1 : Int) (x_m2_2 : Int) (s_m2_3 : ByteArray) (x_m2_4 : Int) (x_m2_5 : Int) (x_m2_6 : Int) (x_m2_7 : Int) (x_m2_8 : Int) (x_m2_9 : Int) (a_m2_10 : Option Addr) (n_m2_10 : Nat) (c_m2_10 : Nat) (s_m2_11 : ByteArray) (s_m2_12 : ByteArray) (x_m2_13 : Int) (t_m2_14 : Bool) (a_m2_15 : Option Addr) (n_m2_15 : Nat) (c_m2_15 : Nat) (x_26 : Int) (K1 : Kh) (K3 : Kh) (R : Value → World → Prop) (w : World) : Prop :=
  brB (decide (x_26 < (n_18 : Int))) (
    loopD3 law16_OplogDoes_la4 (dnF Tryz.prog law16_OplogDoes_an (code Tryz.f9) 377 [0, 0, 1, 0, 0, 0, 1, 0, 0, 1, 1, 1, 1, 1, 1, 1, 1, 1, 1, 1, 0, 0, 1, 0, 0, 1, 0, 1, 1, 1, 1, 1]) (kont3 Tryz.prog law16_OplogDoes_an (code Tryz.f9) [1, 1, 1, 1, 1, 0, 1, 0, 0, 1, 0, 0, 1, 1, 1, 1, 1, 1, 1, 1, 1, 1, 1, 0, 0, 1, 0, 0, 0, 1, 0] [K1, K3] (post3 Tryz.prog Tryz.f9 [] R)) (law16_OplogDoes_v4 a_1 n_1 c_1 p_5 p_7 x_9 a_18 n_18 c_18 x_26 0) (law16_OplogDoes_m4 bm0 x_m0_0 x_m0_1 x_m0_2 x_m0_3 x_m0_4 s_m0_5 x_m0_6 x_m0_7 x_m0_8 x_m0_9 x_m0_10 x_m0_11 a_m0_12 n_m0_12 c_m0_12 s_m0_13 s_m0_14 x_m0_15 t_m0_16 a_m0_17 n_m0_17 c_m0_17 a_m0_18 n_m0_18 c_m0_18 bm1 x_m1_0 x_m1_1 x_m1_2 s_m1_3 x_m1_4 x_m1_5 x_m1_6 x_m1_7 x_m1_8 x_m1_9 a_m1_10 n_m1_10 c_m1_10 s_m1_11 s_m1_12 x_m1_13 t_m1_14 a_m1_15 n_m1_15 c_m1_15 bm2 x_m2_0 x_m2_1 x_m2_2 s_m2_3 x_m2_4 x_m2_5 x_m2_6 x_m2_7 x_m2_8 x_m2_9 a_m2_10 n_m2_10 c_m2_10 s_m2_11 s_m2_12 x_m2_13 t_m2_14 a_m2_15 n_m2_15 c_m2_15) w)
  (
    K1 (law16_OplogDoes_v1 a_1 n_1 c_1 p_7 p_5 (IntKind.wrap .i64 (x_9 + 1))) (law16_OplogDoes_m1) w)
theorem law16_OplogDoes_L3_eq (a_1 : Option Addr) (n_1 : Nat) (c_1 : Nat) (p_5 : Option Addr) (p_7 : Option Addr) (x_9 : Int) (a_18 : Option Addr) (n_18 : Nat) (c_18 : Nat) (bm0 : Nat) (x_m0_0 : Int) (x_m0_1 : Int) (x_m0_2 : Int) (x_m0_3 : Int) (x_m0_4 : Int) (s_m0_5 : ByteArray) (x_m0_6 : Int) (x_m0_7 : Int) (x_m0_8 : Int) (x_m0_9 : Int) (x_m0_10 : Int) (x_m0_11 : Int) (a_m0_12 : Option Addr) (n_m0_12 : Nat) (c_m0_12 : Nat) (s_m0_13 : ByteArray) (s_m0_14 : ByteArray) (x_m0_15 : Int) (t_m0_16 : Bool) (a_m0_17 : Option Addr) (n_m0_17 : Nat) (c_m0_17 : Nat) (a_m0_18 : Option Addr) (n_m0_18 : Nat) (c_m0_18 : Nat) (bm1 : Nat) (x_m1_0 : Int) (x_m1_1 : Int) (x_m1_2 : Int) (s_m1_3 : ByteArray) (x_m1_4 : Int) (x_m1_5 : Int) (x_m1_6 : Int) (x_m1_7 : Int) (x_m1_8 : Int) (x_m1_9 : Int) (a_m1_10 : Option Addr) (n_m1_10 : Nat) (c_m1_10 : Nat) (s_m1_11 : ByteArray) (s_m1_12 : ByteArray) (x_m1_13 : Int) (t_m1_14 : Bool) (a_m1_15 : Option Addr) (n_m1_15 : Nat) (c_m1_15 : Nat) (bm2 : Nat) (x_m2_0 : Int) (x_m2_1 : Int) (x_m2_2 : Int) (s_m2_3 : ByteArray) (x_m2_4 : Int) (x_m2_5 : Int) (x_m2_6 : Int) (x_m2_7 : Int) (x_m2_8 : Int) (x_m2_9 : Int) (a_m2_10 : Option Addr) (n_m2_10 : Nat) (c_m2_10 : Nat) (s_m2_11 : ByteArray) (s_m2_12 : ByteArray) (x_m2_13 : Int) (t_m2_14 : Bool) (a_m2_15 : Option Addr) (n_m2_15 : Nat) (c_m2_15 : Nat) (x_26 : Int) (K1 : Kh) (K3 : Kh) (js : Nat → Value) (R : Value → World → Prop) (w : World) :
    headA law16_OplogDoes_la3 ((dnF Tryz.prog law16_OplogDoes_an (code Tryz.f9) 380 [0, 0, 1, 1, 1, 1, 1, 1, 1, 1, 1, 1, 1, 0, 0, 1, 0, 0, 1, 0, 1, 1, 1, 1, 1]) (kthen3 (atA law16_OplogDoes_la3 K3) (kont3 Tryz.prog law16_OplogDoes_an (code Tryz.f9) [1, 1, 1, 1, 1, 0, 1, 0, 0, 1, 0, 0, 1, 1, 1, 1, 1, 1, 1, 1, 1, 1, 1, 0] [K1] (post3 Tryz.prog Tryz.f9 [] R)))) (law16_OplogDoes_v3 a_1 n_1 c_1 p_5 p_7 x_9 a_18 n_18 c_18 x_26) js (law16_OplogDoes_m3 bm0 x_m0_0 x_m0_1 x_m0_2 x_m0_3 x_m0_4 s_m0_5 x_m0_6 x_m0_7 x_m0_8 x_m0_9 x_m0_10 x_m0_11 a_m0_12 n_m0_12 c_m0_12 s_m0_13 s_m0_14 x_m0_15 t_m0_16 a_m0_17 n_m0_17 c_m0_17 a_m0_18 n_m0_18 c_m0_18 bm1 x_m1_0 x_m1_1 x_m1_2 s_m1_3 x_m1_4 x_m1_5 x_m1_6 x_m1_7 x_m1_8 x_m1_9 a_m1_10 n_m1_10 c_m1_10 s_m1_11 s_m1_12 x_m1_13 t_m1_14 a_m1_15 n_m1_15 c_m1_15 bm2 x_m2_0 x_m2_1 x_m2_2 s_m2_3 x_m2_4 x_m2_5 x_m2_6 x_m2_7 x_m2_8 x_m2_9 a_m2_10 n_m2_10 c_m2_10 s_m2_11 s_m2_12 x_m2_13 t_m2_14 a_m2_15 n_m2_15 c_m2_15) w = law16_OplogDoes_L3 a_1 n_1 c_1 p_5 p_7 x_9 a_18 n_18 c_18 bm0 x_m0_0 x_m0_1 x_m0_2 x_m0_3 x_m0_4 s_m0_5 x_m0_6 x_m0_7 x_m0_8 x_m0_9 x_m0_10 x_m0_11 a_m0_12 n_m0_12 c_m0_12 s_m0_13 s_m0_14 x_m0_15 t_m0_16 a_m0_17 n_m0_17 c_m0_17 a_m0_18 n_m0_18 c_m0_18 bm1 x_m1_0 x_m1_1 x_m1_2 s_m1_3 x_m1_4 x_m1_5 x_m1_6 x_m1_7 x_m1_8 x_m1_9 a_m1_10 n_m1_10 c_m1_10 s_m1_11 s_m1_12 x_m1_13 t_m1_14 a_m1_15 n_m1_15 c_m1_15 bm2 x_m2_0 x_m2_1 x_m2_2 s_m2_3 x_m2_4 x_m2_5 x_m2_6 x_m2_7 x_m2_8 x_m2_9 a_m2_10 n_m2_10 c_m2_10 s_m2_11 s_m2_12 x_m2_13 t_m2_14 a_m2_15 n_m2_15 c_m2_15 x_26 K1 K3 R w := by kernel_rfl
def law16_OplogDoes_K3 (a_1 : Option Addr) (n_1 : Nat) (c_1 : Nat) (p_5 : Option Addr) (p_7 : Option Addr) (x_9 : Int) (a_18 : Option Addr) (n_18 : Nat) (c_18 : Nat) (bm0 : Nat) (x_m0_0 : Int) (x_m0_1 : Int) (x_m0_2 : Int) (x_m0_3 : Int) (x_m0_4 : Int) (s_m0_5 : ByteArray) (x_m0_6 : Int) (x_m0_7 : Int) (x_m0_8 : Int) (x_m0_9 : Int) (x_m0_10 : Int) (x_m0_11 : Int) (a_m0_12 : Option Addr) (n_m0_12 : Nat) (c_m0_12 : Nat) (s_m0_13 : ByteArray) (s_m0_14 : ByteArray) (x_m0_15 : Int) (t_m0_16 : Bool) (a_m0_17 : Option Addr) (n_m0_17 : Nat) (c_m0_17 : Nat) (a_m0_18 : Option Addr) (n_m0_18 : Nat) (c_m0_18 : Nat) (bm1 : Nat) (x_m1_0 : Int) (x_m1_1 : Int) (x_m1_2 : Int) (s_m1_3 : ByteArray) (x_m1_4 : Int) (x_m1_5 : Int) (x_m1_6 : Int) (x_m1_7 : Int) (x_m1_8 : Int) (x_m1_9 : Int) (a_m1_10 : Option Addr) (n_m1_10 : Nat) (c_m1_10 : Nat) (s_m1_11 : ByteArray) (s_m1_12 : ByteArray) (x_m1_13 : Int) (t_m1_14 : Bool) (a_m1_15 : Option Addr) (n_m1_15 : Nat) (c_m1_15 : Nat) (bm2 : Nat) (x_m2_0 : Int) (x_m2_1 : Int) (x_m2_2 : Int) (s_m2_3 : ByteArray) (x_m2_4 : Int) (x_m2_5 : Int) (x_m2_6 : Int) (x_m2_7 : Int) (x_m2_8 : Int) (x_m2_9 : Int) (a_m2_10 : Option Addr) (n_m2_10 : Nat) (c_m2_10 : Nat) (s_m2_11 : ByteArray) (s_m2_12 : ByteArray) (x_m2_13 : Int) (t_m2_14 : Bool) (a_m2_15 : Option Addr) (n_m2_15 : Nat) (c_m2_15 : Nat) (I : Nat → Int → World → Prop) (m : Nat) (vals : List Value) (mem : List TB) (w : World) : Prop := ∃ m', m' < m ∧ ∃ x_26, vals = (law16_OplogDoes_v3 a_1 n_1 c_1 p_5 p_7 x_9 a_18 n_18 c_18 x_26) ∧ mem = (law16_OplogDoes_m3 bm0 x_m0_0 x_m0_1 x_m0_2 x_m0_3 x_m0_4 s_m0_5 x_m0_6 x_m0_7 x_m0_8 x_m0_9 x_m0_10 x_m0_11 a_m0_12 n_m0_12 c_m0_12 s_m0_13 s_m0_14 x_m0_15 t_m0_16 a_m0_17 n_m0_17 c_m0_17 a_m0_18 n_m0_18 c_m0_18 bm1 x_m1_0 x_m1_1 x_m1_2 s_m1_3 x_m1_4 x_m1_5 x_m1_6 x_m1_7 x_m1_8 x_m1_9 a_m1_10 n_m1_10 c_m1_10 s_m1_11 s_m1_12 x_m1_13 t_m1_14 a_m1_15 n_m1_15 c_m1_15 bm2 x_m2_0 x_m2_1 x_m2_2 s_m2_3 x_m2_4 x_m2_5 x_m2_6 x_m2_7 x_m2_8 x_m2_9 a_m2_10 n_m2_10 c_m2_10 s_m2_11 s_m2_12 x_m2_13 t_m2_14 a_m2_15 n_m2_15 c_m2_15) ∧ I m' x_26 w
theorem law16_OplogDoes_leaf3 {a_1 : Option Addr} {n_1 : Nat} {c_1 : Nat} {p_5 : Option Addr} {p_7 : Option Addr} {x_9 : Int} {a_18 : Option Addr} {n_18 : Nat} {c_18 : Nat} {bm0 : Nat} {x_m0_0 : Int} {x_m0_1 : Int} {x_m0_2 : Int} {x_m0_3 : Int} {x_m0_4 : Int} {s_m0_5 : ByteArray} {x_m0_6 : Int} {x_m0_7 : Int} {x_m0_8 : Int} {x_m0_9 : Int} {x_m0_10 : Int} {x_m0_11 : Int} {a_m0_12 : Option Addr} {n_m0_12 : Nat} {c_m0_12 : Nat} {s_m0_13 : ByteArray} {s_m0_14 : ByteArray} {x_m0_15 : Int} {t_m0_16 : Bool} {a_m0_17 : Option Addr} {n_m0_17 : Nat} {c_m0_17 : Nat} {a_m0_18 : Option Addr} {n_m0_18 : Nat} {c_m0_18 : Nat} {bm1 : Nat} {x_m1_0 : Int} {x_m1_1 : Int} {x_m1_2 : Int} {s_m1_3 : ByteArray} {x_m1_4 : Int} {x_m1_5 : Int} {x_m1_6 : Int} {x_m1_7 : Int} {x_m1_8 : Int} {x_m1_9 : Int} {a_m1_10 : Option Addr} {n_m1_10 : Nat} {c_m1_10 : Nat} {s_m1_11 : ByteArray} {s_m1_12 : ByteArray} {x_m1_13 : Int} {t_m1_14 : Bool} {a_m1_15 : Option Addr} {n_m1_15 : Nat} {c_m1_15 : Nat} {bm2 : Nat} {x_m2_0 : Int} {x_m2_1 : Int} {x_m2_2 : Int} {s_m2_3 : ByteArray} {x_m2_4 : Int} {x_m2_5 : Int} {x_m2_6 : Int} {x_m2_7 : Int} {x_m2_8 : Int} {x_m2_9 : Int} {a_m2_10 : Option Addr} {n_m2_10 : Nat} {c_m2_10 : Nat} {s_m2_11 : ByteArray} {s_m2_12 : ByteArray} {x_m2_13 : Int} {t_m2_14 : Bool} {a_m2_15 : Option Addr} {n_m2_15 : Nat} {c_m2_15 : Nat} {I : Nat → Int → World → Prop} {m : Nat} {x_26 : Int} {w : World} (m' : Nat) (h1 : m' < m) (h2 : I m' x_26 w) : law16_OplogDoes_K3 a_1 n_1 c_1 p_5 p_7 x_9 a_18 n_18 c_18 bm0 x_m0_0 x_m0_1 x_m0_2 x_m0_3 x_m0_4 s_m0_5 x_m0_6 x_m0_7 x_m0_8 x_m0_9 x_m0_10 x_m0_11 a_m0_12 n_m0_12 c_m0_12 s_m0_13 s_m0_14 x_m0_15 t_m0_16 a_m0_17 n_m0_17 c_m0_17 a_m0_18 n_m0_18 c_m0_18 bm1 x_m1_0 x_m1_1 x_m1_2 s_m1_3 x_m1_4 x_m1_5 x_m1_6 x_m1_7 x_m1_8 x_m1_9 a_m1_10 n_m1_10 c_m1_10 s_m1_11 s_m1_12 x_m1_13 t_m1_14 a_m1_15 n_m1_15 c_m1_15 bm2 x_m2_0 x_m2_1 x_m2_2 s_m2_3 x_m2_4 x_m2_5 x_m2_6 x_m2_7 x_m2_8 x_m2_9 a_m2_10 n_m2_10 c_m2_10 s_m2_11 s_m2_12 x_m2_13 t_m2_14 a_m2_15 n_m2_15 c_m2_15 I m (law16_OplogDoes_v3 a_1 n_1 c_1 p_5 p_7 x_9 a_18 n_18 c_18 x_26) (law16_OplogDoes_m3 bm0 x_m0_0 x_m0_1 x_m0_2 x_m0_3 x_m0_4 s_m0_5 x_m0_6 x_m0_7 x_m0_8 x_m0_9 x_m0_10 x_m0_11 a_m0_12 n_m0_12 c_m0_12 s_m0_13 s_m0_14 x_m0_15 t_m0_16 a_m0_17 n_m0_17 c_m0_17 a_m0_18 n_m0_18 c_m0_18 bm1 x_m1_0 x_m1_1 x_m1_2 s_m1_3 x_m1_4 x_m1_5 x_m1_6 x_m1_7 x_m1_8 x_m1_9 a_m1_10 n_m1_10 c_m1_10 s_m1_11 s_m1_12 x_m1_13 t_m1_14 a_m1_15 n_m1_15 c_m1_15 bm2 x_m2_0 x_m2_1 x_m2_2 s_m2_3 x_m2_4 x_m2_5 x_m2_6 x_m2_7 x_m2_8 x_m2_9 a_m2_10 n_m2_10 c_m2_10 s_m2_11 s_m2_12 x_m2_13 t_m2_14 a_m2_15 n_m2_15 c_m2_15) w := ⟨m', h1, _, rfl, rfl, h2⟩
theorem law16_OplogDoes_rule3 {a_1 : Option Addr} {n_1 : Nat} {c_1 : Nat} {p_5 : Option Addr} {p_7 : Option Addr} {x_9 : Int} {a_18 : Option Addr} {n_18 : Nat} {c_18 : Nat} {bm0 : Nat} {x_m0_0 : Int} {x_m0_1 : Int} {x_m0_2 : Int} {x_m0_3 : Int} {x_m0_4 : Int} {s_m0_5 : ByteArray} {x_m0_6 : Int} {x_m0_7 : Int} {x_m0_8 : Int} {x_m0_9 : Int} {x_m0_10 : Int} {x_m0_11 : Int} {a_m0_12 : Option Addr} {n_m0_12 : Nat} {c_m0_12 : Nat} {s_m0_13 : ByteArray} {s_m0_14 : ByteArray} {x_m0_15 : Int} {t_m0_16 : Bool} {a_m0_17 : Option Addr} {n_m0_17 : Nat} {c_m0_17 : Nat} {a_m0_18 : Option Addr} {n_m0_18 : Nat} {c_m0_18 : Nat} {bm1 : Nat} {x_m1_0 : Int} {x_m1_1 : Int} {x_m1_2 : Int} {s_m1_3 : ByteArray} {x_m1_4 : Int} {x_m1_5 : Int} {x_m1_6 : Int} {x_m1_7 : Int} {x_m1_8 : Int} {x_m1_9 : Int} {a_m1_10 : Option Addr} {n_m1_10 : Nat} {c_m1_10 : Nat} {s_m1_11 : ByteArray} {s_m1_12 : ByteArray} {x_m1_13 : Int} {t_m1_14 : Bool} {a_m1_15 : Option Addr} {n_m1_15 : Nat} {c_m1_15 : Nat} {bm2 : Nat} {x_m2_0 : Int} {x_m2_1 : Int} {x_m2_2 : Int} {s_m2_3 : ByteArray} {x_m2_4 : Int} {x_m2_5 : Int} {x_m2_6 : Int} {x_m2_7 : Int} {x_m2_8 : Int} {x_m2_9 : Int} {a_m2_10 : Option Addr} {n_m2_10 : Nat} {c_m2_10 : Nat} {s_m2_11 : ByteArray} {s_m2_12 : ByteArray} {x_m2_13 : Int} {t_m2_14 : Bool} {a_m2_15 : Option Addr} {n_m2_15 : Nat} {c_m2_15 : Nat} {x_260 : Int} {R : Value → World → Prop} {w0 : World} {K1 : Kh} (I : Nat → Int → World → Prop) (m0 : Nat) (h0 : I m0 x_260 w0)
    (hr : ∀ (m : Nat) (x_26 : Int) (w : World), I m x_26 w → law16_OplogDoes_L3 a_1 n_1 c_1 p_5 p_7 x_9 a_18 n_18 c_18 bm0 x_m0_0 x_m0_1 x_m0_2 x_m0_3 x_m0_4 s_m0_5 x_m0_6 x_m0_7 x_m0_8 x_m0_9 x_m0_10 x_m0_11 a_m0_12 n_m0_12 c_m0_12 s_m0_13 s_m0_14 x_m0_15 t_m0_16 a_m0_17 n_m0_17 c_m0_17 a_m0_18 n_m0_18 c_m0_18 bm1 x_m1_0 x_m1_1 x_m1_2 s_m1_3 x_m1_4 x_m1_5 x_m1_6 x_m1_7 x_m1_8 x_m1_9 a_m1_10 n_m1_10 c_m1_10 s_m1_11 s_m1_12 x_m1_13 t_m1_14 a_m1_15 n_m1_15 c_m1_15 bm2 x_m2_0 x_m2_1 x_m2_2 s_m2_3 x_m2_4 x_m2_5 x_m2_6 x_m2_7 x_m2_8 x_m2_9 a_m2_10 n_m2_10 c_m2_10 s_m2_11 s_m2_12 x_m2_13 t_m2_14 a_m2_15 n_m2_15 c_m2_15 x_26 K1 (law16_OplogDoes_K3 a_1 n_1 c_1 p_5 p_7 x_9 a_18 n_18 c_18 bm0 x_m0_0 x_m0_1 x_m0_2 x_m0_3 x_m0_4 s_m0_5 x_m0_6 x_m0_7 x_m0_8 x_m0_9 x_m0_10 x_m0_11 a_m0_12 n_m0_12 c_m0_12 s_m0_13 s_m0_14 x_m0_15 t_m0_16 a_m0_17 n_m0_17 c_m0_17 a_m0_18 n_m0_18 c_m0_18 bm1 x_m1_0 x_m1_1 x_m1_2 s_m1_3 x_m1_4 x_m1_5 x_m1_6 x_m1_7 x_m1_8 x_m1_9 a_m1_10 n_m1_10 c_m1_10 s_m1_11 s_m1_12 x_m1_13 t_m1_14 a_m1_15 n_m1_15 c_m1_15 bm2 x_m2_0 x_m2_1 x_m2_2 s_m2_3 x_m2_4 x_m2_5 x_m2_6 x_m2_7 x_m2_8 x_m2_9 a_m2_10 n_m2_10 c_m2_10 s_m2_11 s_m2_12 x_m2_13 t_m2_14 a_m2_15 n_m2_15 c_m2_15 I m) R w) :
    loopD3 law16_OplogDoes_la3 (dnF Tryz.prog law16_OplogDoes_an (code Tryz.f9) 380 [0, 0, 1, 1, 1, 1, 1, 1, 1, 1, 1, 1, 1, 0, 0, 1, 0, 0, 1, 0, 1, 1, 1, 1, 1]) (kont3 Tryz.prog law16_OplogDoes_an (code Tryz.f9) [1, 1, 1, 1, 1, 0, 1, 0, 0, 1, 0, 0, 1, 1, 1, 1, 1, 1, 1, 1, 1, 1, 1, 0] [K1] (post3 Tryz.prog Tryz.f9 [] R)) (law16_OplogDoes_v3 a_1 n_1 c_1 p_5 p_7 x_9 a_18 n_18 c_18 x_260) (law16_OplogDoes_m3 bm0 x_m0_0 x_m0_1 x_m0_2 x_m0_3 x_m0_4 s_m0_5 x_m0_6 x_m0_7 x_m0_8 x_m0_9 x_m0_10 x_m0_11 a_m0_12 n_m0_12 c_m0_12 s_m0_13 s_m0_14 x_m0_15 t_m0_16 a_m0_17 n_m0_17 c_m0_17 a_m0_18 n_m0_18 c_m0_18 bm1 x_m1_0 x_m1_1 x_m1_2 s_m1_3 x_m1_4 x_m1_5 x_m1_6 x_m1_7 x_m1_8 x_m1_9 a_m1_10 n_m1_10 c_m1_10 s_m1_11 s_m1_12 x_m1_13 t_m1_14 a_m1_15 n_m1_15 c_m1_15 bm2 x_m2_0 x_m2_1 x_m2_2 s_m2_3 x_m2_4 x_m2_5 x_m2_6 x_m2_7 x_m2_8 x_m2_9 a_m2_10 n_m2_10 c_m2_10 s_m2_11 s_m2_12 x_m2_13 t_m2_14 a_m2_15 n_m2_15 c_m2_15) w0 := by
  refine ⟨fun m vals mem w => ∃ x_26, vals = (law16_OplogDoes_v3 a_1 n_1 c_1 p_5 p_7 x_9 a_18 n_18 c_18 x_26) ∧ mem = (law16_OplogDoes_m3 bm0 x_m0_0 x_m0_1 x_m0_2 x_m0_3 x_m0_4 s_m0_5 x_m0_6 x_m0_7 x_m0_8 x_m0_9 x_m0_10 x_m0_11 a_m0_12 n_m0_12 c_m0_12 s_m0_13 s_m0_14 x_m0_15 t_m0_16 a_m0_17 n_m0_17 c_m0_17 a_m0_18 n_m0_18 c_m0_18 bm1 x_m1_0 x_m1_1 x_m1_2 s_m1_3 x_m1_4 x_m1_5 x_m1_6 x_m1_7 x_m1_8 x_m1_9 a_m1_10 n_m1_10 c_m1_10 s_m1_11 s_m1_12 x_m1_13 t_m1_14 a_m1_15 n_m1_15 c_m1_15 bm2 x_m2_0 x_m2_1 x_m2_2 s_m2_3 x_m2_4 x_m2_5 x_m2_6 x_m2_7 x_m2_8 x_m2_9 a_m2_10 n_m2_10 c_m2_10 s_m2_11 s_m2_12 x_m2_13 t_m2_14 a_m2_15 n_m2_15 c_m2_15) ∧ I m x_26 w, m0, ⟨_, rfl, rfl, h0⟩, ?_⟩
  rintro m vals mem w ⟨x_26, rfl, rfl, hI⟩
  refine ⟨rfl, rfl, fun js => ?_⟩
  have h := hr m x_26 w hI
  rw [← law16_OplogDoes_L3_eq _ _ _ _ _ _ _ _ _ _ _ _ _ _ _ _ _ _ _ _ _ _ _ _ _ _ _ _ _ _ _ _ _ _ _ _ _ _ _ _ _ _ _ _ _ _ _ _ _ _ _ _ _ _ _ _ _ _ _ _ _ _ _ _ _ _ _ _ _ _ _ _ _ _ _ _ _ _ _ _ js] at h
  exact h
def law16_OplogDoes_L4 (a_1 : Option Addr) (n_1 : Nat) (c_1 : Nat) (p_5 : Option Addr) (p_7 : Option Addr) (x_9 : Int) (a_18 : Option Addr) (n_18 : Nat) (c_18 : Nat) (x_26 : Int) (bm0 : Nat) (x_m0_0 : Int) (x_m0_1 : Int) (x_m0_2 : Int) (x_m0_3 : Int) (x_m0_4 : Int) (s_m0_5 : ByteArray) (x_m0_6 : Int) (x_m0_7 : Int) (x_m0_8 : Int) (x_m0_9 : Int) (x_m0_10 : Int) (x_m0_11 : Int) (a_m0_12 : Option Addr) (n_m0_12 : Nat) (c_m0_12 : Nat) (s_m0_13 : ByteArray) (s_m0_14 : ByteArray) (x_m0_15 : Int) (t_m0_16 : Bool) (a_m0_17 : Option Addr) (n_m0_17 : Nat) (c_m0_17 : Nat) (a_m0_18 : Option Addr) (n_m0_18 : Nat) (c_m0_18 : Nat) (bm1 : Nat) (x_m1_0 : Int) (x_m1_1 : Int) (x_m1_2 : Int) (s_m1_3 : ByteArray) (x_m1_4 : Int) (x_m1_5 : Int) (x_m1_6 : Int) (x_m1_7 : Int) (x_m1_8 : Int) (x_m1_9 : Int) (a_m1_10 : Option Addr) (n_m1_10 : Nat) (c_m1_10 : Nat) (s_m1_11 : ByteArray) (s_m1_12 : ByteArray) (x_m1_13 : Int) (t_m1_14 : Bool) (a_m1_15 : Option Addr) (n_m1_15 : Nat) (c_m1_15 : Nat) (bm2 : Nat) (x_m2_0 : Int) (x_m2_1 : Int) (x_m2_2 : Int) (s_m2_3 : ByteArray) (x_m2_4 : Int) (x_m2_5 : Int) (x_m2_6 : Int) (x_m2_7 : Int) (x_m2_8 : Int) (x_m2_9 : Int) (a_m2_10 : Option Addr) (n_m2_10 : Nat) (c_m2_10 : Nat) (s_m2_11 : ByteArray) (s_m2_12 : ByteArray) (x_m2_13 : Int) (t_m2_14 : Bool) (a_m2_15 : Option Addr) (n_m2_15 : Nat) (c_m2_15 : Nat) (x_27 : Int) (K1 : Kh) (K3 : Kh) (K4 : Kh) (R : Value → World → Prop) (w : World) : Prop :=
  ixA a_18 n_18 x_26 16 fun q165 =>
  ldSlice w (Addr.add (Addr.add q165 2) 13) fun a166 n167 c168 =>
  brB (decide (x_27 < (n167 : Int))) (
    ixA a_18 n_18 x_26 16 fun q169 =>
    ldSlice w (Addr.add (Addr.add q169 2) 13) fun a170 n171 c172 =>
    ixA a170 n171 x_27 1 fun q173 =>
    st w q173 [(.string (⟨#[115, 112, 111, 105, 108, 116]⟩ : ByteArray))] fun w174 => Keep [bm0, bm1, bm2] w w174 ∧
    K4 (law16_OplogDoes_v4 a_1 n_1 c_1 p_5 p_7 x_9 a_18 n_18 c_18 x_26 (IntKind.wrap .i64 (x_27 + 1))) (law16_OplogDoes_m4 bm0 x_m0_0 x_m0_1 x_m0_2 x_m0_3 x_m0_4 s_m0_5 x_m0_6 x_m0_7 x_m0_8 x_m0_9 x_m0_10 x_m0_11 a_m0_12 n_m0_12 c_m0_12 s_m0_13 s_m0_14 x_m0_15 t_m0_16 a_m0_17 n_m0_17 c_m0_17 a_m0_18 n_m0_18 c_m0_18 bm1 x_m1_0 x_m1_1 x_m1_2 s_m1_3 x_m1_4 x_m1_5 x_m1_6 x_m1_7 x_m1_8 x_m1_9 a_m1_10 n_m1_10 c_m1_10 s_m1_11 s_m1_12 x_m1_13 t_m1_14 a_m1_15 n_m1_15 c_m1_15 bm2 x_m2_0 x_m2_1 x_m2_2 s_m2_3 x_m2_4 x_m2_5 x_m2_6 x_m2_7 x_m2_8 x_m2_9 a_m2_10 n_m2_10 c_m2_10 s_m2_11 s_m2_12 x_m2_13 t_m2_14 a_m2_15 n_m2_15 c_m2_15) w174)
  (
    ixA a_18 n_18 x_26 16 fun q175 =>
    st w (Addr.add q175 1) [(.int .i64 99)] fun w176 => Keep [bm0, bm1, bm2] w w176 ∧
    K3 (law16_OplogDoes_v3 a_1 n_1 c_1 p_5 p_7 x_9 a_18 n_18 c_18 (IntKind.wrap .i64 (x_26 + 1))) (law16_OplogDoes_m3 bm0 x_m0_0 x_m0_1 x_m0_2 x_m0_3 x_m0_4 s_m0_5 x_m0_6 x_m0_7 x_m0_8 x_m0_9 x_m0_10 x_m0_11 a_m0_12 n_m0_12 c_m0_12 s_m0_13 s_m0_14 x_m0_15 t_m0_16 a_m0_17 n_m0_17 c_m0_17 a_m0_18 n_m0_18 c_m0_18 bm1 x_m1_0 x_m1_1 x_m1_2 s_m1_3 x_m1_4 x_m1_5 x_m1_6 x_m1_7 x_m1_8 x_m1_9 a_m1_10 n_m1_10 c_m1_10 s_m1_11 s_m1_12 x_m1_13 t_m1_14 a_m1_15 n_m1_15 c_m1_15 bm2 x_m2_0 x_m2_1 x_m2_2 s_m2_3 x_m2_4 x_m2_5 x_m2_6 x_m2_7 x_m2_8 x_m2_9 a_m2_10 n_m2_10 c_m2_10 s_m2_11 s_m2_12 x_m2_13 t_m2_14 a_m2_15 n_m2_15 c_m2_15) w176)
theorem law16_OplogDoes_L4_eq (a_1 : Option Addr) (n_1 : Nat) (c_1 : Nat) (p_5 : Option Addr) (p_7 : Option Addr) (x_9 : Int) (a_18 : Option Addr) (n_18 : Nat) (c_18 : Nat) (x_26 : Int) (bm0 : Nat) (x_m0_0 : Int) (x_m0_1 : Int) (x_m0_2 : Int) (x_m0_3 : Int) (x_m0_4 : Int) (s_m0_5 : ByteArray) (x_m0_6 : Int) (x_m0_7 : Int) (x_m0_8 : Int) (x_m0_9 : Int) (x_m0_10 : Int) (x_m0_11 : Int) (a_m0_12 : Option Addr) (n_m0_12 : Nat) (c_m0_12 : Nat) (s_m0_13 : ByteArray) (s_m0_14 : ByteArray) (x_m0_15 : Int) (t_m0_16 : Bool) (a_m0_17 : Option Addr) (n_m0_17 : Nat) (c_m0_17 : Nat) (a_m0_18 : Option Addr) (n_m0_18 : Nat) (c_m0_18 : Nat) (bm1 : Nat) (x_m1_0 : Int) (x_m1_1 : Int) (x_m1_2 : Int) (s_m1_3 : ByteArray) (x_m1_4 : Int) (x_m1_5 : Int) (x_m1_6 : Int) (x_m1_7 : Int) (x_m1_8 : Int) (x_m1_9 : Int) (a_m1_10 : Option Addr) (n_m1_10 : Nat) (c_m1_10 : Nat) (s_m1_11 : ByteArray) (s_m1_12 : ByteArray) (x_m1_13 : Int) (t_m1_14 : Bool) (a_m1_15 : Option Addr) (n_m1_15 : Nat) (c_m1_15 : Nat) (bm2 : Nat) (x_m2_0 : Int) (x_m2_1 : Int) (x_m2_2 : Int) (s_m2_3 : ByteArray) (x_m2_4 : Int) (x_m2_5 : Int) (x_m2_6 : Int) (x_m2_7 : Int) (x_m2_8 : Int) (x_m2_9 : Int) (a_m2_10 : Option Addr) (n_m2_10 : Nat) (c_m2_10 : Nat) (s_m2_11 : ByteArray) (s_m2_12 : ByteArray) (x_m2_13 : Int) (t_m2_14 : Bool) (a_m2_15 : Option Addr) (n_m2_15 : Nat) (c_m2_15 : Nat) (x_27 : Int) (K1 : Kh) (K3 : Kh) (K4 : Kh) (js : Nat → Value) (R : Value → World → Prop) (w : World) :
    headA law16_OplogDoes_la4 ((dnF Tryz.prog law16_OplogDoes_an (code Tryz.f9) 377 [0, 0, 1, 0, 0, 0, 1, 0, 0, 1, 1, 1, 1, 1, 1, 1, 1, 1, 1, 1, 0, 0, 1, 0, 0, 1, 0, 1, 1, 1, 1, 1]) (kthen3 (atA law16_OplogDoes_la4 K4) (kont3 Tryz.prog law16_OplogDoes_an (code Tryz.f9) [1, 1, 1, 1, 1, 0, 1, 0, 0, 1, 0, 0, 1, 1, 1, 1, 1, 1, 1, 1, 1, 1, 1, 0, 0, 1, 0, 0, 0, 1, 0] [K1, K3] (post3 Tryz.prog Tryz.f9 [] R)))) (law16_OplogDoes_v4 a_1 n_1 c_1 p_5 p_7 x_9 a_18 n_18 c_18 x_26 x_27) js (law16_OplogDoes_m4 bm0 x_m0_0 x_m0_1 x_m0_2 x_m0_3 x_m0_4 s_m0_5 x_m0_6 x_m0_7 x_m0_8 x_m0_9 x_m0_10 x_m0_11 a_m0_12 n_m0_12 c_m0_12 s_m0_13 s_m0_14 x_m0_15 t_m0_16 a_m0_17 n_m0_17 c_m0_17 a_m0_18 n_m0_18 c_m0_18 bm1 x_m1_0 x_m1_1 x_m1_2 s_m1_3 x_m1_4 x_m1_5 x_m1_6 x_m1_7 x_m1_8 x_m1_9 a_m1_10 n_m1_10 c_m1_10 s_m1_11 s_m1_12 x_m1_13 t_m1_14 a_m1_15 n_m1_15 c_m1_15 bm2 x_m2_0 x_m2_1 x_m2_2 s_m2_3 x_m2_4 x_m2_5 x_m2_6 x_m2_7 x_m2_8 x_m2_9 a_m2_10 n_m2_10 c_m2_10 s_m2_11 s_m2_12 x_m2_13 t_m2_14 a_m2_15 n_m2_15 c_m2_15) w = law16_OplogDoes_L4 a_1 n_1 c_1 p_5 p_7 x_9 a_18 n_18 c_18 x_26 bm0 x_m0_0 x_m0_1 x_m0_2 x_m0_3 x_m0_4 s_m0_5 x_m0_6 x_m0_7 x_m0_8 x_m0_9 x_m0_10 x_m0_11 a_m0_12 n_m0_12 c_m0_12 s_m0_13 s_m0_14 x_m0_15 t_m0_16 a_m0_17 n_m0_17 c_m0_17 a_m0_18 n_m0_18 c_m0_18 bm1 x_m1_0 x_m1_1 x_m1_2 s_m1_3 x_m1_4 x_m1_5 x_m1_6 x_m1_7 x_m1_8 x_m1_9 a_m1_10 n_m1_10 c_m1_10 s_m1_11 s_m1_12 x_m1_13 t_m1_14 a_m1_15 n_m1_15 c_m1_15 bm2 x_m2_0 x_m2_1 x_m2_2 s_m2_3 x_m2_4 x_m2_5 x_m2_6 x_m2_7 x_m2_8 x_m2_9 a_m2_10 n_m2_10 c_m2_10 s_m2_11 s_m2_12 x_m2_13 t_m2_14 a_m2_15 n_m2_15 c_m2_15 x_27 K1 K3 K4 R w := by kernel_rfl
def law16_OplogDoes_K4 (a_1 : Option Addr) (n_1 : Nat) (c_1 : Nat) (p_5 : Option Addr) (p_7 : Option Addr) (x_9 : Int) (a_18 : Option Addr) (n_18 : Nat) (c_18 : Nat) (x_26 : Int) (bm0 : Nat) (x_m0_0 : Int) (x_m0_1 : Int) (x_m0_2 : Int) (x_m0_3 : Int) (x_m0_4 : Int) (s_m0_5 : ByteArray) (x_m0_6 : Int) (x_m0_7 : Int) (x_m0_8 : Int) (x_m0_9 : Int) (x_m0_10 : Int) (x_m0_11 : Int) (a_m0_12 : Option Addr) (n_m0_12 : Nat) (c_m0_12 : Nat) (s_m0_13 : ByteArray) (s_m0_14 : ByteArray) (x_m0_15 : Int) (t_m0_16 : Bool) (a_m0_17 : Option Addr) (n_m0_17 : Nat) (c_m0_17 : Nat) (a_m0_18 : Option Addr) (n_m0_18 : Nat) (c_m0_18 : Nat) (bm1 : Nat) (x_m1_0 : Int) (x_m1_1 : Int) (x_m1_2 : Int) (s_m1_3 : ByteArray) (x_m1_4 : Int) (x_m1_5 : Int) (x_m1_6 : Int) (x_m1_7 : Int) (x_m1_8 : Int) (x_m1_9 : Int) (a_m1_10 : Option Addr) (n_m1_10 : Nat) (c_m1_10 : Nat) (s_m1_11 : ByteArray) (s_m1_12 : ByteArray) (x_m1_13 : Int) (t_m1_14 : Bool) (a_m1_15 : Option Addr) (n_m1_15 : Nat) (c_m1_15 : Nat) (bm2 : Nat) (x_m2_0 : Int) (x_m2_1 : Int) (x_m2_2 : Int) (s_m2_3 : ByteArray) (x_m2_4 : Int) (x_m2_5 : Int) (x_m2_6 : Int) (x_m2_7 : Int) (x_m2_8 : Int) (x_m2_9 : Int) (a_m2_10 : Option Addr) (n_m2_10 : Nat) (c_m2_10 : Nat) (s_m2_11 : ByteArray) (s_m2_12 : ByteArray) (x_m2_13 : Int) (t_m2_14 : Bool) (a_m2_15 : Option Addr) (n_m2_15 : Nat) (c_m2_15 : Nat) (I : Nat → Int → World → Prop) (m : Nat) (vals : List Value) (mem : List TB) (w : World) : Prop := ∃ m', m' < m ∧ ∃ x_27, vals = (law16_OplogDoes_v4 a_1 n_1 c_1 p_5 p_7 x_9 a_18 n_18 c_18 x_26 x_27) ∧ mem = (law16_OplogDoes_m4 bm0 x_m0_0 x_m0_1 x_m0_2 x_m0_3 x_m0_4 s_m0_5 x_m0_6 x_m0_7 x_m0_8 x_m0_9 x_m0_10 x_m0_11 a_m0_12 n_m0_12 c_m0_12 s_m0_13 s_m0_14 x_m0_15 t_m0_16 a_m0_17 n_m0_17 c_m0_17 a_m0_18 n_m0_18 c_m0_18 bm1 x_m1_0 x_m1_1 x_m1_2 s_m1_3 x_m1_4 x_m1_5 x_m1_6 x_m1_7 x_m1_8 x_m1_9 a_m1_10 n_m1_10 c_m1_10 s_m1_11 s_m1_12 x_m1_13 t_m1_14 a_m1_15 n_m1_15 c_m1_15 bm2 x_m2_0 x_m2_1 x_m2_2 s_m2_3 x_m2_4 x_m2_5 x_m2_6 x_m2_7 x_m2_8 x_m2_9 a_m2_10 n_m2_10 c_m2_10 s_m2_11 s_m2_12 x_m2_13 t_m2_14 a_m2_15 n_m2_15 c_m2_15) ∧ I m' x_27 w
theorem law16_OplogDoes_leaf4 {a_1 : Option Addr} {n_1 : Nat} {c_1 : Nat} {p_5 : Option Addr} {p_7 : Option Addr} {x_9 : Int} {a_18 : Option Addr} {n_18 : Nat} {c_18 : Nat} {x_26 : Int} {bm0 : Nat} {x_m0_0 : Int} {x_m0_1 : Int} {x_m0_2 : Int} {x_m0_3 : Int} {x_m0_4 : Int} {s_m0_5 : ByteArray} {x_m0_6 : Int} {x_m0_7 : Int} {x_m0_8 : Int} {x_m0_9 : Int} {x_m0_10 : Int} {x_m0_11 : Int} {a_m0_12 : Option Addr} {n_m0_12 : Nat} {c_m0_12 : Nat} {s_m0_13 : ByteArray} {s_m0_14 : ByteArray} {x_m0_15 : Int} {t_m0_16 : Bool} {a_m0_17 : Option Addr} {n_m0_17 : Nat} {c_m0_17 : Nat} {a_m0_18 : Option Addr} {n_m0_18 : Nat} {c_m0_18 : Nat} {bm1 : Nat} {x_m1_0 : Int} {x_m1_1 : Int} {x_m1_2 : Int} {s_m1_3 : ByteArray} {x_m1_4 : Int} {x_m1_5 : Int} {x_m1_6 : Int} {x_m1_7 : Int} {x_m1_8 : Int} {x_m1_9 : Int} {a_m1_10 : Option Addr} {n_m1_10 : Nat} {c_m1_10 : Nat} {s_m1_11 : ByteArray} {s_m1_12 : ByteArray} {x_m1_13 : Int} {t_m1_14 : Bool} {a_m1_15 : Option Addr} {n_m1_15 : Nat} {c_m1_15 : Nat} {bm2 : Nat} {x_m2_0 : Int} {x_m2_1 : Int} {x_m2_2 : Int} {s_m2_3 : ByteArray} {x_m2_4 : Int} {x_m2_5 : Int} {x_m2_6 : Int} {x_m2_7 : Int} {x_m2_8 : Int} {x_m2_9 : Int} {a_m2_10 : Option Addr} {n_m2_10 : Nat} {c_m2_10 : Nat} {s_m2_11 : ByteArray} {s_m2_12 : ByteArray} {x_m2_13 : Int} {t_m2_14 : Bool} {a_m2_15 : Option Addr} {n_m2_15 : Nat} {c_m2_15 : Nat} {I : Nat → Int → World → Prop} {m : Nat} {x_27 : Int} {w : World} (m' : Nat) (h1 : m' < m) (h2 : I m' x_27 w) : law16_OplogDoes_K4 a_1 n_1 c_1 p_5 p_7 x_9 a_18 n_18 c_18 x_26 bm0 x_m0_0 x_m0_1 x_m0_2 x_m0_3 x_m0_4 s_m0_5 x_m0_6 x_m0_7 x_m0_8 x_m0_9 x_m0_10 x_m0_11 a_m0_12 n_m0_12 c_m0_12 s_m0_13 s_m0_14 x_m0_15 t_m0_16 a_m0_17 n_m0_17 c_m0_17 a_m0_18 n_m0_18 c_m0_18 bm1 x_m1_0 x_m1_1 x_m1_2 s_m1_3 x_m1_4 x_m1_5 x_m1_6 x_m1_7 x_m1_8 x_m1_9 a_m1_10 n_m1_10 c_m1_10 s_m1_11 s_m1_12 x_m1_13 t_m1_14 a_m1_15 n_m1_15 c_m1_15 bm2 x_m2_0 x_m2_1 x_m2_2 s_m2_3 x_m2_4 x_m2_5 x_m2_6 x_m2_7 x_m2_8 x_m2_9 a_m2_10 n_m2_10 c_m2_10 s_m2_11 s_m2_12 x_m2_13 t_m2_14 a_m2_15 n_m2_15 c_m2_15 I m (law16_OplogDoes_v4 a_1 n_1 c_1 p_5 p_7 x_9 a_18 n_18 c_18 x_26 x_27) (law16_OplogDoes_m4 bm0 x_m0_0 x_m0_1 x_m0_2 x_m0_3 x_m0_4 s_m0_5 x_m0_6 x_m0_7 x_m0_8 x_m0_9 x_m0_10 x_m0_11 a_m0_12 n_m0_12 c_m0_12 s_m0_13 s_m0_14 x_m0_15 t_m0_16 a_m0_17 n_m0_17 c_m0_17 a_m0_18 n_m0_18 c_m0_18 bm1 x_m1_0 x_m1_1 x_m1_2 s_m1_3 x_m1_4 x_m1_5 x_m1_6 x_m1_7 x_m1_8 x_m1_9 a_m1_10 n_m1_10 c_m1_10 s_m1_11 s_m1_12 x_m1_13 t_m1_14 a_m1_15 n_m1_15 c_m1_15 bm2 x_m2_0 x_m2_1 x_m2_2 s_m2_3 x_m2_4 x_m2_5 x_m2_6 x_m2_7 x_m2_8 x_m2_9 a_m2_10 n_m2_10 c_m2_10 s_m2_11 s_m2_12 x_m2_13 t_m2_14 a_m2_15 n_m2_15 c_m2_15) w := ⟨m', h1, _, rfl, rfl, h2⟩
theorem law16_OplogDoes_rule4 {a_1 : Option Addr} {n_1 : Nat} {c_1 : Nat} {p_5 : Option Addr} {p_7 : Option Addr} {x_9 : Int} {a_18 : Option Addr} {n_18 : Nat} {c_18 : Nat} {x_26 : Int} {bm0 : Nat} {x_m0_0 : Int} {x_m0_1 : Int} {x_m0_2 : Int} {x_m0_3 : Int} {x_m0_4 : Int} {s_m0_5 : ByteArray} {x_m0_6 : Int} {x_m0_7 : Int} {x_m0_8 : Int} {x_m0_9 : Int} {x_m0_10 : Int} {x_m0_11 : Int} {a_m0_12 : Option Addr} {n_m0_12 : Nat} {c_m0_12 : Nat} {s_m0_13 : ByteArray} {s_m0_14 : ByteArray} {x_m0_15 : Int} {t_m0_16 : Bool} {a_m0_17 : Option Addr} {n_m0_17 : Nat} {c_m0_17 : Nat} {a_m0_18 : Option Addr} {n_m0_18 : Nat} {c_m0_18 : Nat} {bm1 : Nat} {x_m1_0 : Int} {x_m1_1 : Int} {x_m1_2 : Int} {s_m1_3 : ByteArray} {x_m1_4 : Int} {x_m1_5 : Int} {x_m1_6 : Int} {x_m1_7 : Int} {x_m1_8 : Int} {x_m1_9 : Int} {a_m1_10 : Option Addr} {n_m1_10 : Nat} {c_m1_10 : Nat} {s_m1_11 : ByteArray} {s_m1_12 : ByteArray} {x_m1_13 : Int} {t_m1_14 : Bool} {a_m1_15 : Option Addr} {n_m1_15 : Nat} {c_m1_15 : Nat} {bm2 : Nat} {x_m2_0 : Int} {x_m2_1 : Int} {x_m2_2 : Int} {s_m2_3 : ByteArray} {x_m2_4 : Int} {x_m2_5 : Int} {x_m2_6 : Int} {x_m2_7 : Int} {x_m2_8 : Int} {x_m2_9 : Int} {a_m2_10 : Option Addr} {n_m2_10 : Nat} {c_m2_10 : Nat} {s_m2_11 : ByteArray} {s_m2_12 : ByteArray} {x_m2_13 : Int} {t_m2_14 : Bool} {a_m2_15 : Option Addr} {n_m2_15 : Nat} {c_m2_15 : Nat} {x_270 : Int} {R : Value → World → Prop} {w0 : World} {K1 : Kh} {K3 : Kh} (I : Nat → Int → World → Prop) (m0 : Nat) (h0 : I m0 x_270 w0)
    (hr : ∀ (m : Nat) (x_27 : Int) (w : World), I m x_27 w → law16_OplogDoes_L4 a_1 n_1 c_1 p_5 p_7 x_9 a_18 n_18 c_18 x_26 bm0 x_m0_0 x_m0_1 x_m0_2 x_m0_3 x_m0_4 s_m0_5 x_m0_6 x_m0_7 x_m0_8 x_m0_9 x_m0_10 x_m0_11 a_m0_12 n_m0_12 c_m0_12 s_m0_13 s_m0_14 x_m0_15 t_m0_16 a_m0_17 n_m0_17 c_m0_17 a_m0_18 n_m0_18 c_m0_18 bm1 x_m1_0 x_m1_1 x_m1_2 s_m1_3 x_m1_4 x_m1_5 x_m1_6 x_m1_7 x_m1_8 x_m1_9 a_m1_10 n_m1_10 c_m1_10 s_m1_11 s_m1_12 x_m1_13 t_m1_14 a_m1_15 n_m1_15 c_m1_15 bm2 x_m2_0 x_m2_1 x_m2_2 s_m2_3 x_m2_4 x_m2_5 x_m2_6 x_m2_7 x_m2_8 x_m2_9 a_m2_10 n_m2_10 c_m2_10 s_m2_11 s_m2_12 x_m2_13 t_m2_14 a_m2_15 n_m2_15 c_m2_15 x_27 K1 K3 (law16_OplogDoes_K4 a_1 n_1 c_1 p_5 p_7 x_9 a_18 n_18 c_18 x_26 bm0 x_m0_0 x_m0_1 x_m0_2 x_m0_3 x_m0_4 s_m0_5 x_m0_6 x_m0_7 x_m0_8 x_m0_9 x_m0_10 x_m0_11 a_m0_12 n_m0_12 c_m0_12 s_m0_13 s_m0_14 x_m0_15 t_m0_16 a_m0_17 n_m0_17 c_m0_17 a_m0_18 n_m0_18 c_m0_18 bm1 x_m1_0 x_m1_1 x_m1_2 s_m1_3 x_m1_4 x_m1_5 x_m1_6 x_m1_7 x_m1_8 x_m1_9 a_m1_10 n_m1_10 c_m1_10 s_m1_11 s_m1_12 x_m1_13 t_m1_14 a_m1_15 n_m1_15 c_m1_15 bm2 x_m2_0 x_m2_1 x_m2_2 s_m2_3 x_m2_4 x_m2_5 x_m2_6 x_m2_7 x_m2_8 x_m2_9 a_m2_10 n_m2_10 c_m2_10 s_m2_11 s_m2_12 x_m2_13 t_m2_14 a_m2_15 n_m2_15 c_m2_15 I m) R w) :
    loopD3 law16_OplogDoes_la4 (dnF Tryz.prog law16_OplogDoes_an (code Tryz.f9) 377 [0, 0, 1, 0, 0, 0, 1, 0, 0, 1, 1, 1, 1, 1, 1, 1, 1, 1, 1, 1, 0, 0, 1, 0, 0, 1, 0, 1, 1, 1, 1, 1]) (kont3 Tryz.prog law16_OplogDoes_an (code Tryz.f9) [1, 1, 1, 1, 1, 0, 1, 0, 0, 1, 0, 0, 1, 1, 1, 1, 1, 1, 1, 1, 1, 1, 1, 0, 0, 1, 0, 0, 0, 1, 0] [K1, K3] (post3 Tryz.prog Tryz.f9 [] R)) (law16_OplogDoes_v4 a_1 n_1 c_1 p_5 p_7 x_9 a_18 n_18 c_18 x_26 x_270) (law16_OplogDoes_m4 bm0 x_m0_0 x_m0_1 x_m0_2 x_m0_3 x_m0_4 s_m0_5 x_m0_6 x_m0_7 x_m0_8 x_m0_9 x_m0_10 x_m0_11 a_m0_12 n_m0_12 c_m0_12 s_m0_13 s_m0_14 x_m0_15 t_m0_16 a_m0_17 n_m0_17 c_m0_17 a_m0_18 n_m0_18 c_m0_18 bm1 x_m1_0 x_m1_1 x_m1_2 s_m1_3 x_m1_4 x_m1_5 x_m1_6 x_m1_7 x_m1_8 x_m1_9 a_m1_10 n_m1_10 c_m1_10 s_m1_11 s_m1_12 x_m1_13 t_m1_14 a_m1_15 n_m1_15 c_m1_15 bm2 x_m2_0 x_m2_1 x_m2_2 s_m2_3 x_m2_4 x_m2_5 x_m2_6 x_m2_7 x_m2_8 x_m2_9 a_m2_10 n_m2_10 c_m2_10 s_m2_11 s_m2_12 x_m2_13 t_m2_14 a_m2_15 n_m2_15 c_m2_15) w0 := by
  refine ⟨fun m vals mem w => ∃ x_27, vals = (law16_OplogDoes_v4 a_1 n_1 c_1 p_5 p_7 x_9 a_18 n_18 c_18 x_26 x_27) ∧ mem = (law16_OplogDoes_m4 bm0 x_m0_0 x_m0_1 x_m0_2 x_m0_3 x_m0_4 s_m0_5 x_m0_6 x_m0_7 x_m0_8 x_m0_9 x_m0_10 x_m0_11 a_m0_12 n_m0_12 c_m0_12 s_m0_13 s_m0_14 x_m0_15 t_m0_16 a_m0_17 n_m0_17 c_m0_17 a_m0_18 n_m0_18 c_m0_18 bm1 x_m1_0 x_m1_1 x_m1_2 s_m1_3 x_m1_4 x_m1_5 x_m1_6 x_m1_7 x_m1_8 x_m1_9 a_m1_10 n_m1_10 c_m1_10 s_m1_11 s_m1_12 x_m1_13 t_m1_14 a_m1_15 n_m1_15 c_m1_15 bm2 x_m2_0 x_m2_1 x_m2_2 s_m2_3 x_m2_4 x_m2_5 x_m2_6 x_m2_7 x_m2_8 x_m2_9 a_m2_10 n_m2_10 c_m2_10 s_m2_11 s_m2_12 x_m2_13 t_m2_14 a_m2_15 n_m2_15 c_m2_15) ∧ I m x_27 w, m0, ⟨_, rfl, rfl, h0⟩, ?_⟩
  rintro m vals mem w ⟨x_27, rfl, rfl, hI⟩
  refine ⟨rfl, rfl, fun js => ?_⟩
  have h := hr m x_27 w hI
  rw [← law16_OplogDoes_L4_eq _ _ _ _ _ _ _ _ _ _ _ _ _ _ _ _ _ _ _ _ _ _ _ _ _ _ _ _ _ _ _ _ _ _ _ _ _ _ _ _ _ _ _ _ _ _ _ _ _ _ _ _ _ _ _ _ _ _ _ _ _ _ _ _ _ _ _ _ _ _ _ _ _ _ _ _ _ _ _ _ _ _ js] at h
  exact h
/-- stagecoach/stagecoachlaw16.OplogDoes -/
def law16_OplogDoes_T (a0_start : Int) (a1_script_a : Option Addr) (a1_script_n : Nat) (a1_script_c : Nat) (R : Value → World → Prop) (w : World) : Prop :=
  Calls Tryz.prog 37 #[(.int .i64 a0_start), (.slice none 0 0)] w fun e w1 => ∃ p2 : Option Addr, ∃ x3 : Int, e = .returned (.tuple #[(.pointer p2), (.int .i64 x3)]) ∧
  Calls Tryz.prog 46 #[(.int .i64 a0_start), (.slice none 0 0)] w1 fun e w4 => ∃ p5 : Option Addr, ∃ x6 : Int, e = .returned (.tuple #[(.pointer p5), (.int .i64 x6)]) ∧
  brB (x3 != x6) (
    R (.bool false) w4)
  (
    brB (!((Option.isNone p2) == (Option.isNone p5))) (
      R (.bool false) w4)
    (
      brB (Option.isNone p2) (
        Calls Tryz.prog 36 #[] w4 fun e w7 => ∃ t8 : Bool, e = .returned (.bool t8) ∧
        R (.bool t8) w7)
      (
        brB (Option.isNone p5) (
          Calls Tryz.prog 36 #[] w4 fun e w9 => ∃ t10 : Bool, e = .returned (.bool t10) ∧
          R (.bool t10) w9)
        (
          loopD3 law16_OplogDoes_la1 (dnF Tryz.prog law16_OplogDoes_an (code Tryz.f9) 393 [0, 0, 1, 0, 1, 1, 1, 1, 1]) (kont3 Tryz.prog law16_OplogDoes_an (code Tryz.f9) [1, 1, 1, 1, 1, 0, 1, 0] [] (post3 Tryz.prog Tryz.f9 [] R)) (law16_OplogDoes_v1 a1_script_a a1_script_n a1_script_c p5 p2 0) (law16_OplogDoes_m1) w4))))
theorem law16_OplogDoes_eq (a0_start : Int) (a1_script_a : Option Addr) (a1_script_n : Nat) (a1_script_c : Nat) (R : Value → World → Prop) (w : World) :
    dnF Tryz.prog law16_OplogDoes_an (code Tryz.f9) 400 [] (post3 Tryz.prog Tryz.f9 [] R) ⟨args0 0 [(.int .i64 a0_start), (.slice a1_script_a a1_script_n a1_script_c)], fun _ => undef⟩ ⟨[], w, [], [], true⟩ = law16_OplogDoes_T a0_start a1_script_a a1_script_n a1_script_c R w := by kernel_rfl
theorem law16_OplogDoes_go {a0_start : Int} {a1_script_a : Option Addr} {a1_script_n : Nat} {a1_script_c : Nat} {R : Value → World → Prop} {w : World} (h : law16_OplogDoes_T a0_start a1_script_a a1_script_n a1_script_c R w) :
    Calls Tryz.prog 9 #[(.int .i64 a0_start), (.slice a1_script_a a1_script_n a1_script_c)] w fun e w' => ∃ v, e = .returned v ∧ R v w' :=
  calls_none Tryz.wide_mixed (f := 9) (args := [(.int .i64 a0_start), (.slice a1_script_a a1_script_n a1_script_c)]) Tryz.func9 rfl rfl (by kernel_rfl) rfl (Eq.mpr (law16_OplogDoes_eq a0_start a1_script_a a1_script_n a1_script_c R w) h)

end Go.Proofs.YtohgihgddknmmaaGreat

/- The document's log. -/
namespace Go.Proofs.YtohgihgddknmmaaGreat
open Go Go.RowKit
set_option linter.unusedVariables false
set_option linter.unusedSimpArgs false

abbrev RgT : TypeId := 146
/-- .. of the document's answer. -/
def RLogIs (w : World) (D : Nat → Prop) (b0 : Nat) (start : Int) (xs : List PCall) : Prop :=
  ∃ (s : Sl) (ll : List CV), w.heap[b0]? = some (.cells #[.int .i64 start, .slice s.a s.n s.c] RgT) ∧ D b0 ∧ LRow w 57 16 CV.cs s ll ∧ InD D s.a ∧ (∀ q ∈ ll, OpD w D q) ∧ ll.map (·.x) = xs
theorem RLogIs.keep {w w' : World} {D : Nat → Prop} {b0 : Nat} {start : Int} {xs : List PCall} (h : RLogIs w D b0 start xs) (M : ∃ S, Mod S w w' ∧ ∀ k ∈ S, k < w.heap.size → ¬ D k) : RLogIs w' D b0 start xs := by
  have M0 := M
  obtain ⟨S, M, hS⟩ := M
  obtain ⟨s, ll, h1, h2, h3, h4, h5, h6⟩ := h
  refine ⟨s, ll, M.keep h1 fun hk => hS _ hk (lt_of_block h1) h2, h2, h3.keep M fun ad ha hk => ?_, h4, fun q hq => (h5 q hq).keep M0, h6⟩
  obtain ⟨cur, hc⟩ := h3.block ad ha
  exact hS _ hk (lt_of_block hc) (h4 ad ha)
theorem RLogIs.keep0 {w w' : World} {D : Nat → Prop} {b0 : Nat} {start : Int} {xs : List PCall} (h : RLogIs w D b0 start xs) (M : Mod [] w w') : RLogIs w' D b0 start xs := h.keep ⟨[], M, by simp⟩
theorem RLogIs.apart {w w' : World} {D D' : Nat → Prop} {b0 : Nat} {start : Int} {xs : List PCall} (h : RLogIs w D b0 start xs) (M : ModD D' w w') (hD : ∀ k, D' k → ¬ D k) : RLogIs w' D b0 start xs := by
  obtain ⟨S, M, hS⟩ := M
  exact h.keep ⟨S, M, fun k hk hl => hD k (hS k hk hl)⟩
theorem RLogIs.more {w : World} {D D' : Nat → Prop} {b0 : Nat} {start : Int} {xs : List PCall} (h : RLogIs w D b0 start xs) (hD : ∀ k, k < w.heap.size → D k → D' k) : RLogIs w D' b0 start xs := by
  obtain ⟨s, ll, h1, h2, h3, h4, h5, h6⟩ := h
  refine ⟨s, ll, h1, hD _ (lt_of_block h1) h2, h3, fun ad ha => ?_, fun q hq => (h5 q hq).more hD, h6⟩
  obtain ⟨cur, hc⟩ := h3.block ad ha
  exact hD _ (lt_of_block hc) (h4 ad ha)
theorem RLogIs.lt {w : World} {D : Nat → Prop} {b0 : Nat} {start : Int} {xs : List PCall} (h : RLogIs w D b0 start xs) : b0 < w.heap.size ∧ D b0 := by
  obtain ⟨s, ll, h1, h2, _⟩ := h; exact ⟨lt_of_block h1, h2⟩
theorem RLogIs.tight {w : World} {D : Nat → Prop} {b0 : Nat} {start : Int} {xs : List PCall} (h : RLogIs w D b0 start xs) : RLogIs w (fun k => D k ∧ k < w.heap.size) b0 start xs := h.more fun k hk hd => ⟨hd, hk⟩

theorem rnum_ok (n : Int) (w : World) : Calls Tryz.prog 130 #[.int .i64 n] w fun e w' => e = .returned (.bool (!oddN n)) ∧ w' = w := by
  refine go_of (ref16_number_go ?_)
  refine brB_dec (fun h => ⟨?_, rfl⟩) fun h => ⟨?_, rfl⟩
  · congr 1; rw [Bool.eq_iff_iff]; simp [oddN]; omega
  · congr 1; symm; rw [Bool.eq_false_iff]; simp [oddN]; omega
theorem RCheck_ok {w : World} {s : Sl} {ll : List CV} (h : CsAt w s ll) (hl : ll.length ≤ 1000000) :
    Calls Tryz.prog 82 #[.slice s.a s.n s.c] w fun e w' => e = .returned (.int .i64 (checkE (ll.map (·.x)))) ∧ Mod [] w w' := by
  have hn := h.sl.1
  have ea : ((ll.map (·.x)).any oddC) = ll.any fun q => oddC q.x := by rw [List.any_map]; rfl
  refine go_of (ref16_Check_go ?_)
  refine ref16_Check_rule1 (fun mm x w' => ∃ k : Nat, x = k ∧ k ≤ ll.length ∧ w' = w ∧ ((ll.take k).any fun q => oddC q.x) = false ∧ mm = ll.length - k) ll.length ⟨0, rfl, by omega, rfl, by simp, rfl⟩ ?_
  rintro mm x w1 ⟨k, rfl, hk, rfl, ha, rfl⟩
  refine brB_dec (fun hlt => ?_) fun hge => ?_
  · obtain ⟨q, hq⟩ : ∃ q, ll[k]? = some q := ⟨_, List.getElem?_eq_getElem (by omega)⟩
    have bad : oddC q.x = true → checkE (ll.map (·.x)) = 1 := fun ho => by
      rw [checkE, if_pos]
      rw [ea]
      exact List.any_eq_true.2 ⟨q, List.mem_of_getElem? hq, ho⟩
    refine h.sl.ix hq fun ad had => ldInt_of (x := q.x.c) (by simpa [add_zero] using had 0 _ rfl) ?_
    refine (rnum_ok q.x.c w1).mono ?_
    rintro _ w2 ⟨rfl, rfl⟩
    refine ⟨_, rfl, brB_of (fun g => ⟨by rw [bad (by simp at g; simp [oddC, g])], Mod.refl _⟩) fun g => ?_⟩
    refine h.sl.ix hq fun ad had => ldInt_of (x := q.x.n) (had 1 _ rfl) ?_
    refine (rnum_ok q.x.n w2).mono ?_
    rintro _ w3 ⟨rfl, rfl⟩
    refine ⟨_, rfl, brB_of (fun g2 => ⟨by rw [bad (by simp at g2; simp [oddC, g2])], Mod.refl _⟩) fun g2 => ?_⟩
    refine ref16_Check_leaf1 (ll.length - (k + 1)) (by omega) ⟨k + 1, by rw [wrap_id (by omega) (by omega)]; omega, by omega, rfl, ?_, rfl⟩
    rw [any_snoc hq, ha]
    simp at g g2
    simp [oddC, g, g2]
  have hk : k = ll.length := by omega
  subst hk
  rw [List.take_length] at ha
  have hE : checkE (ll.map (·.x)) = match (ll.map (·.x)).find? fun x => opE x.op ≠ 0 with
      | none => 0
      | some x => opE x.op := by rw [checkE, ea, ha]; rfl
  refine ref16_Check_rule2 (fun mm x w' => ∃ k : Nat, x = k ∧ k ≤ ll.length ∧ Mod [] w1 w' ∧ (∀ q ∈ ll.take k, opE q.x.op = 0) ∧ mm = ll.length - k) ll.length ⟨0, rfl, by omega, Mod.refl _, by simp, rfl⟩ ?_
  rintro mm x w4 ⟨k, rfl, hk, M4, hz, rfl⟩
  refine brB_dec (fun hlt => ?_) fun hge => ?_
  · obtain ⟨q, hq⟩ : ∃ q, ll[k]? = some q := ⟨_, List.getElem?_eq_getElem (by omega)⟩
    refine (h.sl.keep0 M4).ix hq fun ad had => ldOp_of (op_cells had) ?_
    have ho4 := (h.op q (List.mem_of_getElem? hq)).keep0 M4
    refine (CheckR_ok ho4.recs ho4.topics).mono ?_
    rintro _ w6 ⟨rfl, M6⟩
    have N6 := M4.go0 M6 (by simp)
    refine ⟨_, rfl, brB_of (fun g2 => ?_) fun g2 => ?_⟩
    · have g2 : opE q.x.op ≠ 0 := by simpa using g2
      refine ⟨?_, N6⟩
      rw [hE, find_snoc hz hq g2]
    · have g2 : opE q.x.op = 0 := by simpa using g2
      refine ref16_Check_leaf2 (ll.length - (k + 1)) (by omega) ⟨k + 1, by rw [wrap_id (by omega) (by omega)]; omega, by omega, N6, ?_, rfl⟩
      intro q' hq'
      rw [List.take_add_one, hq] at hq'
      simp at hq'
      rcases hq' with hq' | rfl
      · exact hz q' hq'
      · exact g2
  · have hk : k = ll.length := by omega
    subst hk
    rw [List.take_length] at hz
    refine ⟨?_, M4⟩
    rw [hE]
    have : (ll.map (·.x)).find? (fun x => opE x.op ≠ 0) = none := by
      rw [List.find?_eq_none]
      intro x hx
      obtain ⟨q', hq', rfl⟩ := List.mem_map.1 hx
      simpa using hz q' hq'
    rw [this]
/-- 'append([]api.Call{}, l...)' -/
theorem fresh_app {w : World} {s : Sl} {l : List CV} {ty : TypeId} {F : World → Option Addr → Nat → Nat → World → Prop} (h : SlAt w 16 CV.cs s.a s.n l) (hl : l.length ≤ 1000000) (hF : ∀ (s' : Sl) w2 w', Row w' w.heap.size 57 16 CV.cs s'.a s'.n s'.c l → Mod [] w w' → (∀ bs, (∀ b ∈ bs, b < w.heap.size) → Keep bs w2 w') → F w2 s'.a s'.n s'.c w') :
    al w (.cells #[] 57) fun b w2 => effSl Tryz.prog (Builtin.append_ #[39, 39] ty #[.slice (some ⟨b, 0, none⟩) 0 0, .slice s.a s.n s.c]) w2 (F w2) := by
  refine al_of fun b w1 c1 M1 f1 => ?_
  obtain ⟨i0, hi, hz0, hz1, hz2⟩ := info_parts infoCall
  refine appendAll_of (Row.fresh c1 f1) Tryz.underlying39 hi hz0 hz1 hz2 rfl (by decide) (h.keep0 M1) CV.cs_len CV.cs_one (by simp; omega) (by simp; unfold maxLen; omega) M1.size fun a' n' c' w2 hR hM => ?_
  have M2 := hM [b] (by simp)
  exact hF ⟨a', n', c'⟩ w1 w2 (by simpa using hR) (M1.go0 M2 (by simpa using f1)) fun bs hb => Keep.of M2 fun x hx _ hk => by have := hb x hx; simp at hk; omega
theorem RLoad_ok {w : World} {start : Int} {s : Sl} {ll : List CV} (h : CsAt w s ll) (hl : ll.length ≤ 100000) :
    Calls Tryz.prog 46 #[.int .i64 start, .slice s.a s.n s.c] w fun e w' => ∃ v, e = .returned v ∧
      (if loadE start (ll.map (·.x)) = 0 then ∃ b0, v = .tuple #[.pointer (some ⟨b0, 0, none⟩), .int .i64 0] ∧ w.heap.size ≤ b0 ∧ ∃ s' : Sl, w'.heap[b0]? = some (.cells #[.int .i64 start, .slice s'.a s'.n s'.c] RgT) ∧ Row w' w.heap.size 57 16 CV.cs s'.a s'.n s'.c ll
      else v = .tuple #[.pointer none, .int .i64 (loadE start (ll.map (·.x)))]) ∧ Mod [] w w' := by
  have hn := h.sl.1
  have el : (ll.map (·.x)).length = ll.length := by simp
  refine ref16_Load_go ?_
  have bad : ∀ {X : Prop}, loadE start (ll.map (·.x)) = 1 → (if loadE start (ll.map (·.x)) = 0 then X else Value.tuple #[.pointer none, .int .i64 1] = .tuple #[.pointer none, .int .i64 (loadE start (ll.map (·.x)))]) := fun {X} e => by
    rw [if_neg (by rw [e]; decide), e]
  refine brB_dec (fun g => ⟨bad (by rw [loadE, if_pos (.inl g)]), Mod.refl _⟩) fun g1 => ?_
  refine brB_dec (fun g => ⟨bad (by rw [loadE, if_pos (.inr (.inl g))]), Mod.refl _⟩) fun g2 => ?_
  rw [wrap_id (x := start + (s.n : Int)) (by omega) (by omega)]
  refine brB_dec (fun g => ⟨bad (by rw [loadE, if_pos (.inr (.inr (by rw [el]; omega)))]), Mod.refl _⟩) fun g3 => ?_
  have hE : loadE start (ll.map (·.x)) = checkE (ll.map (·.x)) := by rw [loadE, if_neg (by rw [el]; omega)]
  refine (RCheck_ok h (by omega)).mono ?_
  rintro _ w1 ⟨rfl, M1⟩
  refine ⟨_, rfl, brB_of (fun g => ?_) fun g => ?_⟩
  · have g : checkE (ll.map (·.x)) ≠ 0 := by simpa using g
    show _ ∧ _
    rw [hE, if_neg g]
    exact ⟨rfl, M1⟩
  have g : checkE (ll.map (·.x)) = 0 := by simpa using g
  have s1 := M1.size
  refine fresh_app (h.sl.keep0 M1) (by omega) fun s' w20 w2 hR M2 _ => ?_
  have s2 := M2.size
  intro b7 f7 w3 A3 h3
  show _ ∧ _
  rw [hE, if_pos g]
  exact ⟨⟨b7, rfl, by omega, s', h3, (hR.keep0 A3.mod).rebase s1⟩, (M1.go0 M2 (by simp)).go0 A3.mod (by simp)⟩
theorem rlast_ok {w : World} {b0 : Nat} {start : Int} {s : Sl} (h1 : w.heap[b0]? = some (.cells #[.int .i64 start, .slice s.a s.n s.c] RgT)) (hs : 0 ≤ start ∧ start ≤ 1099511627776) (hn : s.n ≤ 1000000) :
    Calls Tryz.prog 101 #[.pointer (some ⟨b0, 0, none⟩)] w fun e w' => e = .returned (.int .i64 (start + (s.n : Nat))) ∧ w'.heap[b0]? = some (.cells #[.int .i64 start, .slice s.a s.n s.c] RgT) ∧ Mod [] w w' := by
  refine go_of (ref16_Log_Last_go h1 ?_)
  intro w1 A1 h2
  exact ⟨by rw [wrap_id (by omega) (by omega)], h2, A1.mod⟩
theorem rsince_ok {w : World} {b0 : Nat} {start : Int} {s : Sl} {ll : List CV} (h1 : w.heap[b0]? = some (.cells #[.int .i64 start, .slice s.a s.n s.c] RgT)) (hL : LRow w 57 16 CV.cs s ll) (hs : 0 ≤ start ∧ start ≤ 1099511627776) (hl : ll.length ≤ 100000) (n : Int) :
    Calls Tryz.prog 54 #[.pointer (some ⟨b0, 0, none⟩), .int .i64 n] w fun e w' => ∃ s' : Sl, e = .returned (.tuple #[.slice s'.a s'.n s'.c, .int .i64 (atE start ll.length n)]) ∧
      (if atE start ll.length n = 0 then Row w' w.heap.size 57 16 CV.cs s'.a s'.n s'.c (ll.drop (n - start).toNat) else s' = nilS) ∧ w'.heap[b0]? = some (.cells #[.int .i64 start, .slice s.a s.n s.c] RgT) ∧ Mod [] w w' := by
  have hn := hL.len
  have main : Calls Tryz.prog 54 #[.pointer (some ⟨b0, 0, none⟩), .int .i64 n] w fun e w' => ∃ v, e = .returned v ∧ ∃ s' : Sl, v = (.tuple #[.slice s'.a s'.n s'.c, .int .i64 (atE start ll.length n)]) ∧
      (if atE start ll.length n = 0 then Row w' w.heap.size 57 16 CV.cs s'.a s'.n s'.c (ll.drop (n - start).toNat) else s' = nilS) ∧ w'.heap[b0]? = some (.cells #[.int .i64 start, .slice s.a s.n s.c] RgT) ∧ Mod [] w w' := by
    refine ref16_Log_Since_go h1 ?_
    refine brB_dec (fun g => ?_) fun g => ?_
    · intro w1 A1 h2
      have e : atE start ll.length n = 161 := by rw [atE, if_pos g]
      exact ⟨nilS, by rw [e]; rfl, by rw [e, if_neg (by decide)], h2, A1.mod⟩
    intro w1 A1 h2
    refine (rlast_ok h2 hs (by omega)).mono ?_
    rintro _ w2 ⟨rfl, h3, M2⟩
    have N2 := A1.mod.go0 M2 (by simp)
    refine ⟨_, rfl, _, _, _, _, h3, brB_dec (fun g2 => ?_) fun g2 => ?_⟩
    · have e : atE start ll.length n = 160 := by rw [atE, if_neg g, if_pos (by omega)]
      exact ⟨nilS, by rw [e]; rfl, by rw [e, if_neg (by decide)], h3, N2⟩
    have e : atE start ll.length n = 0 := by rw [atE, if_neg g, if_neg (by omega)]
    obtain ⟨k, hk⟩ : ∃ k : Nat, n - start = k := ⟨(n - start).toNat, by omega⟩
    have ew : IntKind.wrap .i64 (n - start) = (k : Int) := by rw [wrap_id (by omega) (by omega)]; omega
    have ek : (n - start).toNat = k := by omega
    rw [ew]
    have hL2 := hL.keep0 N2
    refine slV_drop (hL2.sl CV.cs_len) (by omega) hL.cap fun a' c' hS => ?_
    intro w4 A4 h14
    have N4 := N2.go0 A4.mod (by simp)
    have s4 := N4.size
    refine fresh_app (s := ⟨a', s.n - k, c'⟩) (hS.keep0 A4.mod) (by rw [List.length_drop]; omega) fun s' w50 w5 hR M5 hK => ?_
    refine ⟨hK _ (fun b hb => by simp at hb; subst hb; exact lt_of_block h14), s', by rw [e], ?_, M5.keep0 h14, N4.go0 M5 (by simp)⟩
    rw [e, if_pos rfl, ek]
    exact hR.rebase s4
  refine main.mono ?_
  rintro _ w' ⟨_, rfl, s', rfl, h2⟩
  exact ⟨s', rfl, h2⟩
end Go.Proofs.YtohgihgddknmmaaGreat

/- The document's log: its methods. -/
namespace Go.Proofs.YtohgihgddknmmaaGreat
open Go Go.RowKit
set_option linter.unusedVariables false
set_option linter.unusedSimpArgs false

set_option maxHeartbeats 1000000 in
theorem RPutL_ok {w : World} {D : Nat → Prop} {b0 : Nat} {start : Int} {xs : List PCall} (h : RLogIs w D b0 start xs) (hb : LB start xs) (hmo : start + (xs.length : Int) ≤ 1099511627776) {q : CV} (hq : OpD w D q) :
    Calls Tryz.prog 47 #[.pointer (some ⟨b0, 0, none⟩), q.v] w fun e w' =>
      e = .returned (if putE start xs.length q.x = 0 then .tuple #[.int .i64 (start + (xs.length : Nat) + 1), .int .i64 0] else .tuple #[.int .i64 0, .int .i64 (putE start xs.length q.x)]) ∧
      RLogIs w' (grD D w) b0 start (if putE start xs.length q.x = 0 then xs ++ [q.x] else xs) ∧ ModD D w w' := by
  have h0 := h
  obtain ⟨s, ll, h1, h2, h3, h4, h5, rfl⟩ := h
  obtain ⟨bb1, bb2, bb3⟩ := hb
  have hn := h3.len
  have el : (ll.map (·.x)).length = ll.length := by simp
  rw [el] at bb3 hmo ⊢
  have lt0 := lt_of_block h1
  refine go_of (ref16_Log_Put_go h1 ?_)
  intro b1 f1 w2 A2
  have l1 := A2.lt b1 (by simp)
  have s2 := A2.mod.size
  refine al_of fun b3 w4 c4 M4 f4 => ?_
  have s4 := M4.size
  have N4 := A2.mod.go0 M4 (by simp)
  have hC : CsAt w4 ⟨some ⟨b3, 0, none⟩, 1, 1⟩ [q] := ⟨SlAt.one (enc := CV.cs) (x := q) (T := 57) c4, fun y hy => by simp at hy; subst hy; exact hq.1.at.keep0 N4⟩
  refine (RCheck_ok hC (by simp)).mono ?_
  rintro _ w5 ⟨rfl, M5⟩
  have s5 := M5.size
  have N5 := N4.go0 M5 (by simp)
  refine ⟨_, rfl, Keep.of0 M5, ?_⟩
  have bad : ∀ {w' : World}, Mod [] w w' → putE start ll.length q.x ≠ 0 → (Value.tuple #[.int .i64 0, .int .i64 (putE start ll.length q.x)] = if putE start ll.length q.x = 0 then .tuple #[.int .i64 (start + (ll.length : Nat) + 1), .int .i64 0] else .tuple #[.int .i64 0, .int .i64 (putE start ll.length q.x)]) ∧
      RLogIs w' (grD D w) b0 start (if putE start ll.length q.x = 0 then ll.map (·.x) ++ [q.x] else ll.map (·.x)) ∧ ModD D w w' := fun {w'} M hne => by
    rw [if_neg hne, if_neg hne]
    exact ⟨rfl, (h0.keep0 M).more fun k _ hk => .inl hk, ModD.of0 M⟩
  have hmap : checkE ([q].map (·.x)) = checkE [q.x] := rfl
  refine brB_of (fun g => ?_) fun g => ?_
  · have g : checkE [q.x] ≠ 0 := by simpa using g
    have e : putE start ll.length q.x = checkE [q.x] := by rw [putE, if_pos g]
    intro w6 A6 _
    rw [hmap, ← e]
    exact bad (N5.go0 A6.mod (by simp)) (by rw [e]; exact g)
  have g : checkE [q.x] = 0 := by simpa using g
  intro w6 A6 h6
  have s6 := A6.mod.size
  refine (rlast_ok h6 ⟨bb1, bb2⟩ (by omega)).mono ?_
  rintro _ w7 ⟨rfl, h7, M7⟩
  have s7 := M7.size
  have N7 := (N5.go0 A6.mod (by simp)).go0 M7 (by simp)
  refine ⟨_, rfl, Keep.of0 M7, _, _, _, _, h7, ?_⟩
  refine brB_of (fun g2 => ?_) fun g2 => ?_
  · have g2 : start + (s.n : Nat) = 1099511627776 := by simpa using g2
    have e : putE start ll.length q.x = 2 := by rw [putE, if_neg (by simpa using g), if_pos (by omega)]
    have := bad N7 (by rw [e]; decide)
    rw [e] at this ⊢
    exact this
  have g2 : ¬ start + (s.n : Nat) = 1099511627776 := by simpa using g2
  have hpe : putE start ll.length q.x = 0 := by rw [putE, if_neg (by simpa using g), if_neg (by omega)]
  rw [if_pos hpe, if_pos hpe]
  intro w8 A8 h8
  have s8 := A8.mod.size
  have N8 := N7.go0 A8.mod (by simp)
  refine al_of fun b41 w10 c10 M10 f10 => ?_
  have s10 := M10.size
  have N10 := N8.go0 M10 (by simp)
  have h10 := M10.keep0 h8
  obtain ⟨i0, hi, hz0, hz1, hz2⟩ := info_parts infoCall
  refine appendL_of (h3.keep0 N10) Tryz.underlying39 hi hz0 hz1 hz2 rfl (by decide) (l2 := [q]) (SlAt.one c10) (.inr (by omega)) CV.cs_len CV.cs_one (by simp; omega) (by simp; unfold maxLen; omega) fun s' w11 hA => ?_
  have hrow : ∀ k ∈ rowS s.a, k < w10.heap.size ∧ (∃ cur, w10.heap[k]? = some (.cells cur 57)) ∧ k < w.heap.size ∧ D k := fun k hk => by
    cases hsa : s.a with
    | none => rw [hsa] at hk; simp [rowS] at hk
    | some ad =>
      rw [hsa] at hk
      simp [rowS] at hk
      subst hk
      obtain ⟨cur, hc⟩ := h3.block ad hsa
      exact ⟨lt_of_block (N10.keep0 hc), ⟨cur, N10.keep0 hc⟩, lt_of_block hc, h4 ad hsa⟩
  have M11 : Mod (rowS s.a) w10 w11 := by
    rcases hA with ⟨_, M⟩ | ⟨_, _, M⟩
    · exact M.less (by simp)
    · exact M
  have s11 := M11.size
  have hb0r : b0 ∉ rowS s.a := fun hk => by
    obtain ⟨_, ⟨cur, hc⟩, _⟩ := hrow b0 hk
    rw [h10] at hc; cases hc
  refine ⟨Keep.of M11 fun b hb _ hb' => ?_, fun w12 A12 h12 => ?_⟩
  · have := hrow b hb'
    simp at hb
    rcases hb with rfl | rfl
    · exact hb0r hb'
    · omega
  have s12 := A12.mod.size
  have hsn : s'.n = ll.length + 1 := by
    rcases hA with ⟨hR, _⟩ | ⟨_, hR, _⟩
    · have := (hR.sl CV.cs_len).1; simpa using this
    · have := hR.len; simpa using this
  refine (rlast_ok (s := s') h12 ⟨bb1, bb2⟩ (by omega)).mono ?_
  rintro _ w13 ⟨rfl, h13, M13⟩
  have hfin : ModD D w w13 := by
    refine ⟨[] ++ rowS s.a ++ [b0] ++ [], ((N10.trans M11).trans A12.mod).trans M13, fun k hk hl => ?_⟩
    simp at hk
    rcases hk with hk | rfl
    · exact (hrow k hk).2.2.2
    · exact h2
  refine ⟨_, rfl, Keep.of0 M13, _, _, _, _, h13, ?_, ?_, hfin⟩
  · have e : start + ((ll.length + 1 : Nat) : Int) = start + (ll.length : Nat) + 1 := by omega
    rw [hsn, e]
  · have bne : ∀ {ad : Addr}, s'.a = some ad → ad.block ≠ b0 := fun {ad} ha e => by
      rcases hA with ⟨hR, _⟩ | ⟨e1, hR, _⟩
      · have := (hR.block ad ha).1; omega
      · obtain ⟨cur, hc⟩ := hR.block ad ha
        have h11 := M11.keep h10 hb0r
        rw [e, h11] at hc; cases hc
    have hL13 : LRow w13 57 16 CV.cs s' (ll ++ [q]) := by
      have hL11 : LRow w11 57 16 CV.cs s' (ll ++ [q]) := by
        rcases hA with ⟨hR, _⟩ | ⟨_, hR, _⟩
        · exact .inl (hR.rebase (Nat.zero_le _))
        · exact hR
      exact (hL11.keep A12.mod fun ad ha hk => bne ha (by simpa using hk)).keep0 M13
    have tk : ∀ k ∈ rowS s.a ++ [b0] ++ [], ∀ cs T, w10.heap[k]? = some (.cells cs T) → T ≠ 149 ∧ T ≠ 9 := fun k hk cs T hc => by
      simp at hk
      rcases hk with hk | rfl
      · obtain ⟨_, ⟨cur, hcur⟩, _⟩ := hrow k hk
        rw [hcur] at hc; cases hc; decide
      · rw [h10] at hc; cases hc; decide
    have M1013 := (M11.trans A12.mod).trans M13
    have hI : InD (grD D w) s'.a := fun ad ha => by
      rcases hA with ⟨hR, _⟩ | ⟨e1, hR, _⟩
      · have := (hR.block ad ha).1
        exact Or.inr (by omega)
      · rw [e1] at ha
        exact Or.inl (h4 ad ha)
    have hO2 : ∀ y ∈ ll ++ [q], OpD w13 (grD D w) y := fun y hy => by
      have hy : OpD w D y := by
        rcases List.mem_append.1 hy with hy | hy
        · exact h5 y hy
        · simp at hy; subst hy; exact hq
      exact ((hy.keep ⟨[], N10, by simp⟩).keepT M1013 tk).more fun k _ hk => Or.inl hk
    exact ⟨s', ll ++ [q], h13, Or.inl h2, hL13, hI, hO2, by rw [List.map_append]; rfl⟩
theorem RGetL_ok {w : World} {D : Nat → Prop} {b0 : Nat} {start : Int} {xs : List PCall} (h : RLogIs w D b0 start xs) (hb : LB start xs) (n : Int) :
    Calls Tryz.prog 55 #[.pointer (some ⟨b0, 0, none⟩), .int .i64 n] w fun e w' => ∃ v, e = .returned v ∧
      (if getE start xs.length n = 0 then ∃ q : CV, v = .tuple #[q.v, .int .i64 0] ∧ xs[(n - start - 1).toNat]? = some q.x ∧ OpAt w' q.x.op q.rs q.ts
      else v = .tuple #[(⟨⟨0, 0, op0⟩, nilS, nilS⟩ : CV).v, .int .i64 (getE start xs.length n)]) ∧ Mod [] w w' := by
  obtain ⟨s, ll, h1, h2, h3, h4, h5, rfl⟩ := h
  obtain ⟨bb1, bb2, bb3⟩ := hb
  have hn := h3.len
  have el : (ll.map (·.x)).length = ll.length := by simp
  rw [el] at bb3 ⊢
  refine ref16_Log_Get_go h1 ?_
  intro b1 f1
  refine brB_dec (fun g => ?_) fun g => ?_
  · have e : getE start ll.length n = 161 := by
      unfold getE atE
      split
      · rfl
      · rw [if_pos (by omega)]
    intro w2 A2 _
    show _ ∧ _
    rw [e, if_neg (by decide)]
    exact ⟨rfl, A2.mod⟩
  intro w3 A3 h13
  have s3 := A3.mod.size
  have l1 := A3.lt b1 (by simp)
  refine (rlast_ok h13 ⟨bb1, bb2⟩ (by omega)).mono ?_
  rintro _ w4 ⟨rfl, h14, M4⟩
  have s4 := M4.size
  have N4 := A3.mod.go0 M4 (by simp)
  refine ⟨_, rfl, Keep.of0 M4, _, _, _, _, h14, brB_dec (fun g2 => ?_) fun g2 => ?_⟩
  · have e : getE start ll.length n = 160 := by
      unfold getE atE
      rw [if_neg (by omega), if_neg (by omega), if_pos (by omega)]
    intro w5 A5 _
    show _ ∧ _
    rw [e, if_neg (by decide)]
    exact ⟨rfl, N4.go0 A5.mod (by simpa using f1)⟩
  have e : getE start ll.length n = 0 := by
    unfold getE
    rw [if_neg (by omega)]
    exact atE_ok.2 (by omega)
  obtain ⟨k, hk⟩ : ∃ k : Nat, n - start - 1 = k := ⟨(n - start - 1).toNat, by omega⟩
  have hk2 : k < ll.length := by omega
  obtain ⟨q, hq⟩ : ∃ q, ll[k]? = some q := ⟨_, List.getElem?_eq_getElem hk2⟩
  have ew : IntKind.wrap .i64 (IntKind.wrap .i64 (n - start) - 1) = (k : Int) := by rw [wrap_id (x := n - start) (by omega) (by omega), wrap_id (by omega) (by omega)]; omega
  rw [ew]
  have hcs := h3.cs h5
  refine (hcs.sl.keep0 N4).ixW hq fun ad had => ?_
  intro w5 A5 _
  refine ldCV_of (had w5 A5.mod) ?_
  have N5 := N4.go0 A5.mod (by simp)
  intro w6 A6 _
  show _ ∧ _
  rw [e, if_pos rfl]
  have ek : (n - start - 1).toNat = k := by omega
  have N6 := N5.go0 A6.mod (by simpa using f1)
  exact ⟨⟨q, rfl, by rw [ek, List.getElem?_map, hq]; rfl, (hcs.op q (List.mem_of_getElem? hq)).keep0 N6⟩, N6⟩
theorem RCutL_ok {w : World} {D : Nat → Prop} {b0 : Nat} {start : Int} {xs : List PCall} (h : RLogIs w D b0 start xs) (hb : LB start xs) (n : Int) :
    Calls Tryz.prog 48 #[.pointer (some ⟨b0, 0, none⟩), .int .i64 n] w fun e w' => e = .returned (.int .i64 (atE start xs.length n)) ∧
      RLogIs w' (grD D w) b0 start (if atE start xs.length n = 0 then xs.take (n - start).toNat else xs) ∧ Mod [b0] w w' := by
  have h0 := h
  obtain ⟨s, ll, h1, h2, h3, h4, h5, rfl⟩ := h
  obtain ⟨bb1, bb2, bb3⟩ := hb
  have hn := h3.len
  have lt0 := lt_of_block h1
  have el : (ll.map (·.x)).length = ll.length := by simp
  rw [el] at bb3 ⊢
  refine go_of (ref16_Log_Cut_go h1 ?_)
  intro w2 A2 h12
  refine (rsince_ok h12 (h3.keep0 A2.mod) ⟨bb1, bb2⟩ bb3 n).mono ?_
  rintro _ w3 ⟨s3, rfl, _, h13, M3⟩
  have N3 := A2.mod.go0 M3 (by simp)
  have s3' := N3.size
  refine ⟨_, _, _, _, rfl, _, _, _, _, h13, ?_⟩
  refine brB_of (fun g2 => ?_) fun g2 => ?_
  · have g2 : atE start ll.length n = 0 := by simpa using g2
    rw [if_pos g2, g2]
    have hr := atE_ok.1 g2
    obtain ⟨k, hk⟩ : ∃ k : Nat, n - start = k := ⟨(n - start).toNat, by omega⟩
    have ew : IntKind.wrap .i64 (n - start) = (k : Int) := by rw [wrap_id (by omega) (by omega)]; omega
    have ek : (n - start).toNat = k := by omega
    rw [ew, ek]
    refine slV_take ((h3.keep0 N3).sl CV.cs_len) (by omega) h3.cap fun a' c' hS => ?_
    intro w4 A4 h14
    have N4 := N3.go0 A4.mod (by simp)
    refine fresh_app (s := ⟨a', k, c'⟩) (hS.keep0 A4.mod) (by rw [List.length_take]; omega) fun s5 w50 w5 hR M5 hK => ?_
    have N5 := N4.go0 M5 (by simp)
    have s4 := N4.size
    refine ⟨hK _ (fun b hb => by simp at hb; subst hb; exact lt_of_block h14), fun w6 A6 h16 => ?_⟩
    have hR6 : Row w6 w4.heap.size 57 16 CV.cs s5.a s5.n s5.c (ll.take k) := hR.keep A6.mod fun ad ha hk => by
      have := (hR.block ad ha).1
      simp at hk; omega
    refine ⟨rfl, ⟨s5, ll.take k, h16, Or.inl h2, .inl (hR6.rebase (Nat.zero_le _)), fun ad ha => Or.inr (by have := (hR.block ad ha).1; omega), fun q hq => ?_, by rw [List.map_take]⟩, (N5.trans A6.mod).less (by simp)⟩
    exact (((h5 q (List.mem_of_mem_take hq)).keep ⟨[], N5, by simp⟩).keepT A6.mod fun k hk cs T hc => by simp at hk; subst hk; rw [M5.keep0 h14] at hc; cases hc; decide).more fun k _ hk => Or.inl hk
  · have g2 : atE start ll.length n ≠ 0 := by simpa using g2
    rw [if_neg g2]
    exact ⟨rfl, (h0.keep0 N3).more fun k _ hk => Or.inl hk, N3.less (by simp)⟩
theorem RDropL_ok {w : World} {D : Nat → Prop} {b0 : Nat} {start : Int} {xs : List PCall} (h : RLogIs w D b0 start xs) (hb : LB start xs) (n : Int) :
    Calls Tryz.prog 49 #[.pointer (some ⟨b0, 0, none⟩), .int .i64 n] w fun e w' => e = .returned (.int .i64 (atE start xs.length n)) ∧
      RLogIs w' (grD D w) b0 (if atE start xs.length n = 0 then n else start) (if atE start xs.length n = 0 then xs.drop (n - start).toNat else xs) ∧ Mod [b0] w w' := by
  have h0 := h
  obtain ⟨s, ll, h1, h2, h3, h4, h5, rfl⟩ := h
  obtain ⟨bb1, bb2, bb3⟩ := hb
  have lt0 := lt_of_block h1
  have el : (ll.map (·.x)).length = ll.length := by simp
  rw [el] at bb3 ⊢
  refine go_of (ref16_Log_Drop_go h1 ?_)
  intro w2 A2 h12
  have s2 := A2.mod.size
  refine (rsince_ok h12 (h3.keep0 A2.mod) ⟨bb1, bb2⟩ bb3 n).mono ?_
  rintro _ w3 ⟨s3, rfl, hS, h13, M3⟩
  have N3 := A2.mod.go0 M3 (by simp)
  refine ⟨_, _, _, _, rfl, _, _, _, _, h13, ?_⟩
  refine brB_of (fun g2 => ?_) fun g2 => ?_
  · have g2 : atE start ll.length n = 0 := by simpa using g2
    rw [if_pos g2] at hS
    rw [if_pos g2, if_pos g2, g2]
    intro w6 A6 h16
    have hR6 : Row w6 w2.heap.size 57 16 CV.cs s3.a s3.n s3.c (ll.drop (n - start).toNat) := hS.keep A6.mod fun ad ha hk => by
      have := (hS.block ad ha).1
      simp at hk; omega
    refine ⟨rfl, ⟨s3, _, h16, Or.inl h2, .inl (hR6.rebase (Nat.zero_le _)), fun ad ha => Or.inr (by have := (hS.block ad ha).1; omega), fun q hq => ?_, by rw [List.map_drop]⟩, (N3.trans A6.mod).less (by simp)⟩
    exact (((h5 q (List.mem_of_mem_drop hq)).keep ⟨[], N3, by simp⟩).keepT A6.mod fun k hk cs T hc => by simp at hk; subst hk; rw [h13] at hc; cases hc; decide).more fun k _ hk => Or.inl hk
  · have g2 : atE start ll.length n ≠ 0 := by simpa using g2
    rw [if_neg g2, if_neg g2]
    exact ⟨rfl, (h0.keep0 N3).more fun k _ hk => Or.inl hk, N3.less (by simp)⟩
set_option maxHeartbeats 1000000 in
theorem RJoinL_ok {w : World} {D : Nat → Prop} {b0 : Nat} {start : Int} {xs : List PCall} (h : RLogIs w D b0 start xs) (hb : LB start xs) (n : Int) {t : Sl} {lt : List CV} (ht : SlAt w 16 CV.cs t.a t.n lt) (hO : ∀ q ∈ lt, OpD w D q) (hl : lt.length ≤ 100000) :
    Calls Tryz.prog 50 #[.pointer (some ⟨b0, 0, none⟩), .int .i64 n, .slice t.a t.n t.c] w fun e w' => e = .returned (.int .i64 (joinE start xs.length n (lt.map (·.x)))) ∧
      RLogIs w' (grD D w) b0 start (if joinE start xs.length n (lt.map (·.x)) = 0 then xs.take (n - start).toNat ++ lt.map (·.x) else xs) ∧ Mod [b0] w w' := by
  have h0 := h
  obtain ⟨s, ll, h1, h2, h3, h4, h5, rfl⟩ := h
  obtain ⟨bb1, bb2, bb3⟩ := hb
  have hn := h3.len
  have lt0 := lt_of_block h1
  have el : (ll.map (·.x)).length = ll.length := by simp
  rw [el] at bb3 ⊢
  have hCt : CsAt w t lt := ⟨ht, fun q hq => (hO q hq).1.at⟩
  refine go_of (ref16_Log_Join_go h1 ?_)
  intro w2 A2 h12
  refine (rsince_ok h12 (h3.keep0 A2.mod) ⟨bb1, bb2⟩ bb3 n).mono ?_
  rintro _ w3 ⟨s3, rfl, _, h13, M3⟩
  have N3 := A2.mod.go0 M3 (by simp)
  refine ⟨_, _, _, _, rfl, _, _, _, _, h13, ?_⟩
  have bad : ∀ {w' : World}, Mod [] w w' → joinE start ll.length n (lt.map (·.x)) ≠ 0 → RLogIs w' (grD D w) b0 start (if joinE start ll.length n (lt.map (·.x)) = 0 then (ll.map (·.x)).take (n - start).toNat ++ lt.map (·.x) else ll.map (·.x)) ∧ Mod [b0] w w' := fun {w'} M hne => by
    rw [if_neg hne]
    exact ⟨(h0.keep0 M).more fun k _ hk => Or.inl hk, M.less (by simp)⟩
  refine brB_of (fun g2 => ?_) fun g2 => ?_
  · have g2 : atE start ll.length n ≠ 0 := by simpa using g2
    have e : joinE start ll.length n (lt.map (·.x)) = atE start ll.length n := by rw [joinE, if_pos g2]
    exact ⟨by rw [e], bad N3 (by rw [e]; exact g2)⟩
  have g2 : atE start ll.length n = 0 := by simpa using g2
  have e : joinE start ll.length n (lt.map (·.x)) = loadE n (lt.map (·.x)) := by rw [joinE, if_neg (by simpa using g2)]
  have hr := atE_ok.1 g2
  refine (RLoad_ok (hCt.keep0 N3) hl).mono ?_
  rintro _ w4 ⟨v, rfl, hv, M4⟩
  have N4 := N3.go0 M4 (by simp)
  by_cases g3 : loadE n (lt.map (·.x)) = 0
  · rw [if_pos g3] at hv
    obtain ⟨b9, rfl, _⟩ := hv
    refine ⟨_, _, rfl, _, _, _, _, M4.keep0 h13, brF rfl ?_⟩
    obtain ⟨k, hk⟩ : ∃ k : Nat, n - start = k := ⟨(n - start).toNat, by omega⟩
    have ew : IntKind.wrap .i64 (n - start) = (k : Int) := by rw [wrap_id (by omega) (by omega)]; omega
    have ek : (n - start).toNat = k := by omega
    rw [ew, ek]
    refine slV_take ((h3.keep0 N4).sl CV.cs_len) (by omega) h3.cap fun a' c' hS => ?_
    intro w5 A5 h15
    have N5 := N4.go0 A5.mod (by simp)
    have s5 := N5.size
    refine fresh_app (s := ⟨a', k, c'⟩) (hS.keep0 A5.mod) (by rw [List.length_take]; omega) fun s6 w60 w6 hR M6 hK => ?_
    have N6 := N5.go0 M6 (by simp)
    have s6' := M6.size
    refine ⟨hK _ (fun b hb => by simp at hb; subst hb; exact lt_of_block h15), ?_⟩
    obtain ⟨i0, hi, hz0, hz1, hz2⟩ := info_parts infoCall
    refine appendAll_of hR Tryz.underlying39 hi hz0 hz1 hz2 rfl (by decide) (ht.keep0 N6) CV.cs_len CV.cs_one (by rw [List.length_take]; omega) (by rw [List.length_take]; unfold maxLen; omega) (by omega) fun a7 n7 c7 w7 hR7 hM7 => ?_
    have M7 := hM7 _ (rowS_ok s6.a)
    have hrow := rowS_block hR
    have s7 := M7.size
    have h17 := M6.keep0 h15
    refine ⟨Keep.of M7 fun b hb _ hb' => ?_, fun w8 A8 h18 => ?_⟩
    · have := hrow b hb'; simp at hb; subst hb; have := lt_of_block h15; omega
    have hR8 : Row w8 w5.heap.size 57 16 CV.cs a7 n7 c7 (ll.take k ++ lt) := hR7.keep A8.mod fun ad ha hk => by
      have := (hR7.block ad ha).1
      simp at hk; omega
    have N8 : Mod [b0] w w8 := ((N6.trans M7).trans A8.mod).less fun i hi hl => by
      simp at hi ⊢
      rcases hi with hi | hi
      · have := hrow i hi; omega
      · exact hi
    refine ⟨by rw [e, g3], ?_, N8⟩
    rw [e, if_pos g3]
    refine ⟨⟨a7, n7, c7⟩, ll.take k ++ lt, h18, Or.inl h2, .inl (hR8.rebase (Nat.zero_le _)), fun ad ha => Or.inr (by have := (hR7.block ad ha).1; omega), fun q hq => ?_, by rw [List.map_append, List.map_take]⟩
    have hq : OpD w D q := by
      rcases List.mem_append.1 hq with hq | hq
      · exact h5 q (List.mem_of_mem_take hq)
      · exact hO q hq
    exact (hq.keepT N8 fun k hk cs T hc => by simp at hk; subst hk; rw [h1] at hc; cases hc; decide).more fun k _ hk => Or.inl hk
  · rw [if_neg g3] at hv
    subst hv
    refine ⟨_, _, rfl, _, _, _, _, M4.keep0 h13, ?_⟩
    refine brB_of (fun g => ⟨by rw [e], bad N4 (by rw [e]; exact g3)⟩) fun g => absurd (by simpa using g) g3
theorem RSinceL_ok {w : World} {D : Nat → Prop} {b0 : Nat} {start : Int} {xs : List PCall} (h : RLogIs w D b0 start xs) (hb : LB start xs) (n : Int) :
    Calls Tryz.prog 54 #[.pointer (some ⟨b0, 0, none⟩), .int .i64 n] w fun e w' => ∃ s' : Sl, e = .returned (.tuple #[.slice s'.a s'.n s'.c, .int .i64 (atE start xs.length n)]) ∧
      (CallsAt w' s' (if atE start xs.length n = 0 then xs.drop (n - start).toNat else [])) ∧ Mod [] w w' := by
  obtain ⟨s, ll, h1, h2, h3, h4, h5, rfl⟩ := h
  obtain ⟨bb1, bb2, bb3⟩ := hb
  have el : (ll.map (·.x)).length = ll.length := by simp
  rw [el] at bb3 ⊢
  refine (rsince_ok h1 h3 ⟨bb1, bb2⟩ bb3 n).mono ?_
  rintro _ w' ⟨s', rfl, hS, _, M⟩
  refine ⟨s', rfl, ?_, M⟩
  by_cases g : atE start ll.length n = 0
  · rw [if_pos g] at hS ⊢
    exact ⟨_, hS.sl CV.cs_len, fun q hq => ((h5 q (List.mem_of_mem_drop hq)).1.at).keep0 M, by rw [List.map_drop]⟩
  · rw [if_neg g] at hS ⊢
    rw [hS]
    exact ⟨[], (Row.nil w' 0 57 16 CV.cs).sl CV.cs_len, by simp, rfl⟩
theorem same16_ok {w : World} {D D' : Nat → Prop} {b0 b1 : Nat} {start start' : Int} {xs ys : List PCall} (h : LogIs w D b0 start xs) (hb : LB start xs) (h' : RLogIs w D' b1 start' ys) (hb' : LB start' ys) :
    Calls Tryz.prog 53 #[.pointer (some ⟨b0, 0, none⟩), .pointer (some ⟨b1, 0, none⟩)] w fun e w' => e = .returned (.bool (decide (start = start' ∧ xs = ys))) ∧ Mod [] w w' := by
  refine go_of (law16_same_go ?_)
  refine (Span_ok h hb).mono ?_
  rintro _ w1 ⟨rfl, M1⟩
  refine ⟨_, _, rfl, ?_⟩
  refine (Since_ok (h.keep0 M1) hb start).mono ?_
  rintro _ w2 ⟨v, rfl, hv, M2⟩
  have a2 : atE start xs.length start = 0 := atE_ok.2 (by omega)
  have e0 : (start - start).toNat = 0 := by omega
  rw [a2, if_pos rfl, e0, List.drop_zero] at hv
  obtain ⟨s2, rfl, hc2⟩ := hv
  refine ⟨_, _, _, _, rfl, ?_⟩
  have N2 := M1.go0 M2 (by simp)
  have h2 := h'.keep0 N2
  obtain ⟨s', ll, g1, g2, g3, g4, g5, gm⟩ := h2
  have hn := g3.len
  have el : ys.length = ll.length := by rw [← gm]; simp
  obtain ⟨b1', b2', b3'⟩ := hb'
  refine ldInt_of (x := start') (by rw [cell_at g1]; rfl) ?_
  refine brB_of (fun g => ?_) fun g => ?_
  · have g : start = start' := by simpa using g
    subst g
    refine (rlast_ok g1 ⟨b1', b2'⟩ (by omega)).mono ?_
    rintro _ w3 ⟨rfl, g1', M3⟩
    refine ⟨_, rfl, brB_of (fun g => ?_) fun g => ?_⟩
    · refine brT rfl ?_
      refine ldSlice_of (x := s'.a) (n := s'.n) (c := s'.c) (by rw [addr_add, cell_at g1']; rfl) ?_
      have hA : CallsAt w3 s' ys := ⟨ll, (g3.keep0 M3).sl CV.cs_len, fun q hq => ((g5 q hq).1.at).keep0 M3, gm⟩
      refine (CallsR_ok (hc2.at.keep0 M3) hA (by have := hb.2.2; omega)).mono ?_
      rintro _ w4 ⟨rfl, M4⟩
      exact ⟨_, rfl, by simp, (N2.go0 M3 (by simp)).go0 M4 (by simp)⟩
    · have g : ¬ (xs.length : Int) = (s'.n : Int) := by intro he; rw [he] at g; simp at g
      refine ⟨?_, N2.go0 M3 (by simp)⟩
      congr 1; symm
      rw [decide_eq_false_iff_not]
      rintro ⟨_, rfl⟩
      omega
  · have g : ¬ start = start' := by simpa using g
    exact ⟨by simp [g], N2⟩
end Go.Proofs.YtohgihgddknmmaaGreat

/- OplogDoes: behind a call. -/
namespace Go.Proofs.YtohgihgddknmmaaGreat
open Go Go.RowKit
set_option linter.unusedVariables false
set_option linter.unusedSimpArgs false

/-- One cell of a row's element is written. -/
theorem Row.store1 {α : Type} {w : World} {base T sz : Nat} {enc : α → List Value} {a : Option Addr} {n c : Nat} {l : List α} {i k : Nat} {x y : α} {v : Value} {F : World → Prop} (h : Row w base T sz enc a n c l) (hs : ∀ x, (enc x).length = sz) (hk : k < sz) (hl : leafB v = true) (hx : l[i]? = some x) (hy : enc y = (enc x).set k v)
    (hF : ∀ ad w', a = some ad → Row w' base T sz enc a n c (l.set i y) → Mod [ad.block] w w' → F w') : ixA a n (i : Int) sz fun q => st w (q.add k) [v] F := by
  obtain ⟨hn, hlen, ho⟩ := h
  have hi : i < l.length := (List.getElem?_eq_some_iff.1 hx).1
  rcases ho with ⟨ho, h0⟩ | ⟨g, cap, cur, hv, hb, hg, hnc, hcm, hsz, htk⟩
  · omega
  · simp only [Value.slice.injEq] at hv
    obtain ⟨rfl, _, rfl⟩ := hv
    have hle : (i + 1) * sz ≤ c * sz := Nat.mul_le_mul_right sz (by omega)
    have hle1 : i * sz + sz ≤ cur.size := by rw [hsz]; rw [Nat.add_mul, Nat.one_mul] at hle; exact hle
    refine ⟨⟨g, 0, none⟩, rfl, by omega, by omega, ?_⟩
    have ea : (Addr.add ⟨g, 0, none⟩ (((i : Int).toNat) * sz)).add k = ⟨g, i * sz + k, none⟩ := by
      rw [Int.toNat_natCast, addr_add, addr_add, Nat.zero_add]
    dsimp only
    rw [ea]
    refine st_of hg (by simp [hl]) (by simp; omega) fun w' h1 h2 => hF ⟨g, 0, none⟩ w' rfl ⟨by rw [List.length_set]; exact hn, ?_, .inr ⟨g, c, setFrom cur (i * sz + k) [v], rfl, hb, h1, hnc, hcm, by rw [size_setFrom]; exact hsz, ?_⟩⟩ h2
    · rw [flatMap_len hs, List.length_set, hn]
    · refine List.ext_getElem? fun j => ?_
      rw [List.getElem?_take]
      by_cases hj : j < n * sz
      · rw [if_pos hj, setFrom_get _ _ _ _ (by simp; omega)]
        have hsz0 : 0 < sz := by omega
        have hq : j / sz < l.length := Nat.div_lt_of_lt_mul (by rw [Nat.mul_comm, ← hn]; exact hj)
        have hr := Nat.mod_lt j hsz0
        have e : j / sz * sz + j % sz = j := by rw [Nat.mul_comm]; exact Nat.div_add_mod j sz
        have hcur : cur.toList[j]? = (enc l[j / sz])[j % sz]? := by
          have hm2 := flatMap_get hs l (j / sz) (j % sz) _ (List.getElem?_eq_getElem hq) hr
          rw [e] at hm2
          rw [← hm2, ← htk, List.getElem?_take, if_pos hj]
        by_cases he : j / sz = i
        · rw [he] at e
          have hm := flatMap_get hs (l.set i y) i (j % sz) y (List.getElem?_set_self hi) hr
          rw [e] at hm
          rw [hm, hy, List.getElem?_set]
          have hxx : l[j / sz] = x := by
            have := (List.getElem?_eq_some_iff.1 hx).2
            simp only [he]; exact this
          by_cases hjk : k = j % sz
          · rw [if_pos hjk, if_pos (show k < (enc x).length by rw [hs]; omega), if_pos (show i * sz + k ≤ j ∧ j < i * sz + k + [v].length by simp only [List.length_cons, List.length_nil]; omega)]
            have : j - (i * sz + k) = 0 := by omega
            rw [this]; rfl
          · rw [if_neg hjk, if_neg (show ¬ (i * sz + k ≤ j ∧ j < i * sz + k + [v].length) by simp only [List.length_cons, List.length_nil]; omega), hcur, hxx]
        · have hg' : (l.set i y)[j / sz]? = some l[j / sz] := by rw [List.getElem?_set_ne (Ne.symm he)]; exact List.getElem?_eq_getElem hq
          have hm := flatMap_get hs (l.set i y) (j / sz) (j % sz) _ hg' hr
          rw [e] at hm
          rw [hm, if_neg, hcur]
          simp only [List.length_cons, List.length_nil]
          rintro ⟨g1, g2⟩
          have h3 : i * sz ≤ j := by omega
          have h4 : j < (i + 1) * sz := by rw [Nat.add_mul]; omega
          exact he (Nat.div_eq_of_lt_le (by omega) (by omega))
      · rw [if_neg hj, List.getElem?_eq_none]
        rw [flatMap_len hs, List.length_set, ← hn]; omega
/-- Texts that may be written over. -/
def TSh (w : World) (D : Nat → Prop) (t : Sl) : Prop := (∃ l : List ByteArray, Row w 0 9 1 encS t.a t.n t.c l) ∧ InD D t.a
theorem set_map (l : List ByteArray) (j : Nat) (s : ByteArray) : (l.set j s).flatMap encS = (l.flatMap encS).set j (.string s) := by
  have e : ∀ l : List ByteArray, l.flatMap encS = l.map fun s => Value.string s := fun l => by
    induction l with
    | nil => rfl
    | cons x r ih => rw [List.flatMap_cons, ih]; rfl
  rw [e, e, List.map_set]
theorem setFrom_one (c : Array Value) (i : Nat) (v : Value) : (setFrom c i [v]).toList = c.toList.set i v := by simp [setFrom]
theorem TSh.store {w w' : World} {D : Nat → Prop} {t : Sl} {g j : Nat} {s : ByteArray} {cur : Array Value} (h : TSh w D t) (hg : w.heap[g]? = some (.cells cur 9)) (hg' : w'.heap[g]? = some (.cells (setFrom cur j [.string s]) 9)) (M : Mod [g] w w') : TSh w' D t := by
  obtain ⟨⟨l, hR⟩, hI⟩ := h
  refine ⟨?_, hI⟩
  by_cases hb : ∃ ad, t.a = some ad ∧ ad.block = g
  · obtain ⟨ad, ha, hbg⟩ := hb
    obtain ⟨hn, hlen, ho⟩ := hR
    rcases ho with ⟨ho, h0⟩ | ⟨g2, cap, cur2, hv, hb2, hg2, hnc, hcm, hsz, htk⟩
    · simp only [Value.slice.injEq] at ho
      rw [ho.1] at ha; cases ha
    · simp only [Value.slice.injEq] at hv
      obtain ⟨e1, _, e3⟩ := hv
      rw [e1] at ha
      cases ha
      have hbg : g2 = g := hbg
      subst hbg
      rw [hg] at hg2
      cases hg2
      refine ⟨l.set j s, by rw [List.length_set]; exact hn, ?_, .inr ⟨g2, cap, _, by rw [e1, e3], hb2, hg', hnc, hcm, by rw [size_setFrom]; exact hsz, ?_⟩⟩
      · rw [set_map, List.length_set]; exact hlen
      · rw [setFrom_one, List.take_set, htk, set_map]
  · exact ⟨l, hR.keep M fun ad ha hk => hb ⟨ad, ha, by simpa using hk⟩⟩
theorem TSh.keep {w w' : World} {D : Nat → Prop} {t : Sl} {S : List Nat} (h : TSh w D t) (M : Mod S w w') (hS : ∀ k ∈ S, ∀ cs T, w.heap[k]? = some (.cells cs T) → T ≠ 9) : TSh w' D t := by
  obtain ⟨⟨l, hR⟩, hI⟩ := h
  exact ⟨⟨l, hR.keep M fun ad ha hk => by obtain ⟨_, cur, hc⟩ := hR.block ad ha; exact hS _ hk _ _ hc rfl⟩, hI⟩
/-- Calls that may be written over. -/
def CSh (w : World) (D : Nat → Prop) (s : Sl) (n : Nat) : Prop := ∃ ll : List CV, Row w 0 57 16 CV.cs s.a s.n s.c ll ∧ InD D s.a ∧ (∀ q ∈ ll, TSh w D q.ts) ∧ ll.length = n
theorem CallsOwn.sh {w : World} {B : Nat} {s : Sl} {xs : List PCall} (h : CallsOwn w B s xs) : CSh w (fun k => B ≤ k ∧ k < w.heap.size) s xs.length := by
  obtain ⟨ll, h1, h2, rfl⟩ := h
  refine ⟨ll, h1.rebase (Nat.zero_le _), fun ad ha => ?_, fun q hq => ⟨⟨_, (h2 q hq).topics.rebase (Nat.zero_le _)⟩, fun ad ha => ?_⟩, by simp⟩
  · obtain ⟨hb, cur, hc⟩ := h1.block ad ha
    exact ⟨hb, lt_of_block hc⟩
  · obtain ⟨hb, cur, hc⟩ := (h2 q hq).topics.block ad ha
    exact ⟨hb, lt_of_block hc⟩
theorem CSh.keep0 {w w' : World} {D : Nat → Prop} {s : Sl} {n : Nat} (h : CSh w D s n) (M : Mod [] w w') : CSh w' D s n := by
  obtain ⟨ll, h1, h2, h3, h4⟩ := h
  exact ⟨ll, h1.keep0 M, h2, fun q hq => (h3 q hq).keep M (by simp), h4⟩
end Go.Proofs.YtohgihgddknmmaaGreat

/- OplogDoes: a round's end. -/
namespace Go.Proofs.YtohgihgddknmmaaGreat
open Go Go.RowKit
set_option linter.unusedVariables false
set_option linter.unusedSimpArgs false

def spoilt : ByteArray := ⟨#[115, 112, 111, 105, 108, 116]⟩
theorem TSh.sl {w : World} {D : Nat → Prop} {t : Sl} (h : TSh w D t) : ∃ l : List ByteArray, Row w 0 9 1 encS t.a t.n t.c l ∧ t.n = l.length ∧ t.n ≤ maxLen := by
  obtain ⟨⟨l, hR⟩, _⟩ := h
  refine ⟨l, hR, (hR.sl encS_len).1, ?_⟩
  obtain ⟨_, hlen, ho⟩ := hR
  rcases ho with ⟨ho, h0⟩ | ⟨g2, cap, cur2, hv, hb2, hg2, hnc, hcm, hsz, htk⟩
  · unfold maxLen; omega
  · omega
set_option maxHeartbeats 4000000 in
set_option maxRecDepth 20000 in
theorem Does_tail {a_1 : Option Addr} {n_1 c_1 : Nat} {x_9 x y : Int} {bm0 : Nat} {x_m0_0 : Int} {x_m0_1 : Int} {x_m0_2 : Int} {x_m0_3 : Int} {x_m0_4 : Int} {s_m0_5 : ByteArray} {x_m0_6 : Int} {x_m0_7 : Int} {x_m0_8 : Int} {x_m0_9 : Int} {x_m0_10 : Int} {x_m0_11 : Int} {a_m0_12 : Option Addr} {n_m0_12 : Nat} {c_m0_12 : Nat} {s_m0_13 : ByteArray} {s_m0_14 : ByteArray} {x_m0_15 : Int} {t_m0_16 : Bool} {a_m0_17 : Option Addr} {n_m0_17 : Nat} {c_m0_17 : Nat} {a_m0_18 : Option Addr} {n_m0_18 : Nat} {c_m0_18 : Nat} {K1 : Kh} {w0 w : World} {Dg Dk : Nat → Prop} {bg bk : Nat} {start : Int} {xs : List PCall}
    (L : LogIs w Dg bg start xs) (K : RLogIs w Dk bk start xs) (hb : LB start xs) (hbm : bm0 < w.heap.size)
    (k : ∀ w', Mod [] w w' → K1 (law16_OplogDoes_v1 a_1 n_1 c_1 (some ⟨bk, 0, none⟩) (some ⟨bg, 0, none⟩) (IntKind.wrap .i64 (x_9 + 1))) law16_OplogDoes_m1 w') :
    law16_OplogDoes_C2 a_1 n_1 c_1 (some ⟨bg, 0, none⟩) (some ⟨bk, 0, none⟩) x_9 x x y y bm0 x_m0_0 x_m0_1 x_m0_2 x_m0_3 x_m0_4 s_m0_5 x_m0_6 x_m0_7 x_m0_8 x_m0_9 x_m0_10 x_m0_11 a_m0_12 n_m0_12 c_m0_12 s_m0_13 s_m0_14 x_m0_15 t_m0_16 a_m0_17 n_m0_17 c_m0_17 a_m0_18 n_m0_18 c_m0_18 K1 (fun v w' => v = .bool true ∧ Mod [] w0 w') w := by
  refine brF (by simp) (brF (by simp) ?_)
  refine (same16_ok L hb K hb).mono ?_
  rintro _ w1 ⟨rfl, M1⟩
  refine ⟨_, rfl, Keep.of0 M1, brF (by simp) ?_⟩
  have s1 := M1.size
  have L1 := L.keep0 M1
  have K1' := K.keep0 M1
  refine (Since_ok L1 hb x_m0_1).mono ?_
  rintro _ w2 ⟨v, rfl, hv, M2⟩
  have s2 := M2.size
  have hv2 : ∃ s' : Sl, v = .tuple #[.slice s'.a s'.n s'.c, .int .i64 (atE start xs.length x_m0_1)] ∧ CallsOwn w2 w1.heap.size s' (if atE start xs.length x_m0_1 = 0 then xs.drop (x_m0_1 - start).toNat else []) := by
    by_cases g : atE start xs.length x_m0_1 = 0
    · rw [if_pos g] at hv ⊢
      obtain ⟨s', rfl, hc⟩ := hv
      exact ⟨s', by rw [g], hc⟩
    · rw [if_neg g] at hv ⊢
      exact ⟨nilS, hv, [], Row.nil .., by simp, rfl⟩
  obtain ⟨sp, rfl, hp2⟩ := hv2
  generalize hps : (if atE start xs.length x_m0_1 = 0 then xs.drop (x_m0_1 - start).toNat else []) = ps at *
  have hpl : ps.length ≤ 100000 := by
    rw [← hps]; split
    · rw [List.length_drop]; have := hb.2.2; omega
    · simp
  refine ⟨_, _, _, _, rfl, Keep.of0 M2, ?_⟩
  have hsh := hp2.sh
  have hspn := hp2.len
  refine (RSinceL_ok (K1'.keep0 M2) hb x_m0_1).mono ?_
  rintro _ w3 ⟨sq, rfl, hq3, M3⟩
  rw [hps] at hq3
  have s3 := M3.size
  refine ⟨_, _, _, _, rfl, Keep.of0 M3, ?_⟩
  refine (OGet_ok ((L1.keep0 M2).keep0 M3) hb x_m0_1).mono ?_
  rintro _ w4 ⟨v, rfl, hv, M4⟩
  have s4 := M4.size
  have hv4 : ∃ q : CV, v = .tuple #[q.v, .int .i64 (getE start xs.length x_m0_1)] ∧ OpAt w4 q.x.op q.rs q.ts ∧ q.x = (if getE start xs.length x_m0_1 = 0 then (xs[(x_m0_1 - start - 1).toNat]?).getD call0 else call0) := by
    by_cases g : getE start xs.length x_m0_1 = 0
    · rw [if_pos g] at hv ⊢
      obtain ⟨q, rfl, hq, hO⟩ := hv
      exact ⟨q, by rw [g], hO.at, by rw [hq]; rfl⟩
    · rw [if_neg g] at hv ⊢
      exact ⟨⟨call0, nilS, nilS⟩, hv, (op0_own w4 0).at, rfl⟩
  obtain ⟨qa, rfl, hqa, hqax⟩ := hv4
  refine ⟨_, _, _, _, _, _, _, _, _, _, _, _, _, _, _, _, _, _, _, _, _, rfl, Keep.of0 M4, ?_⟩
  intro b5 f5 w5 A5
  have l5 := A5.lt b5 (by simp)
  have s5 := A5.mod.size
  have K25 := (M2.go0 M3 (by simp)).go0 (M4.go0 A5.mod (by simp)) (by simp)
  refine (RGetL_ok (K1'.keep0 K25) hb x_m0_1).mono ?_
  rintro _ w6 ⟨v, rfl, hv, M6⟩
  have s6 := M6.size
  have hv6 : ∃ q : CV, v = .tuple #[q.v, .int .i64 (getE start xs.length x_m0_1)] ∧ OpAt w6 q.x.op q.rs q.ts ∧ q.x = (if getE start xs.length x_m0_1 = 0 then (xs[(x_m0_1 - start - 1).toNat]?).getD call0 else call0) := by
    by_cases g : getE start xs.length x_m0_1 = 0
    · rw [if_pos g] at hv ⊢
      obtain ⟨q, rfl, hq, hO⟩ := hv
      exact ⟨q, by rw [g], hO, by rw [hq]; rfl⟩
    · rw [if_neg g] at hv ⊢
      exact ⟨⟨call0, nilS, nilS⟩, hv, (op0_own w6 0).at, rfl⟩
  obtain ⟨qb, rfl, hqb, hqbx⟩ := hv6
  refine ⟨_, _, _, _, _, _, _, _, _, _, _, _, _, _, _, _, _, _, _, _, _, rfl, Keep.of0 M6, ?_⟩
  intro b7 f7 w7 A7
  have l7 := A7.lt b7 (by simp)
  have s7 := A7.mod.size
  have K37 := (M4.go0 A5.mod (by simp)).go0 (M6.go0 A7.mod (by simp)) (by simp)
  have hpA : CallsAt w7 sp ps := ((hp2.keep0 M3).keep0 K37).at
  refine (CallsR_ok hpA (hq3.keep0 K37) (by omega)).mono ?_
  rintro _ w8 ⟨rfl, M8⟩
  have s8 := M8.size
  refine ⟨_, rfl, Keep.of0 M8, brF (by simp) (brF (by simp) ?_)⟩
  refine al_of fun b9 w9 c9 M9 f9 => ?_
  refine al_of fun b10 w10 c10 M10 f10 => ?_
  have s9 := M9.size
  have s10 := M10.size
  have K410 := (A5.mod.go0 M6 (by simp)).go0 ((A7.mod.go0 M8 (by simp)).go0 (M9.go0 M10 (by simp)) (by simp)) (by simp)
  have hA1 : CallsAt w10 ⟨some ⟨b9, 0, none⟩, 1, 1⟩ [qa.x] := ⟨[qa], SlAt.one (enc := CV.cs) (x := qa) (T := 57) (M10.keep0 c9), fun y hy => by simp at hy; subst hy; exact hqa.keep0 K410, rfl⟩
  have hA2 : CallsAt w10 ⟨some ⟨b10, 0, none⟩, 1, 1⟩ [qb.x] := ⟨[qb], SlAt.one (enc := CV.cs) (x := qb) (T := 57) c10, fun y hy => by simp at hy; subst hy; exact hqb.keep0 ((A7.mod.go0 M8 (by simp)).go0 (M9.go0 M10 (by simp)) (by simp)), rfl⟩
  refine (CallsR_ok hA1 hA2 (by simp)).mono ?_
  rintro _ w11 ⟨rfl, M11⟩
  have s11 := M11.size
  refine ⟨_, rfl, Keep.of0 M11, brF (by simp [hqax, hqbx]) (brF (by simp) ?_)⟩
  -- what is told is spoilt
  have K211 : Mod [] w2 w11 := (M3.go0 K37 (by simp)).go0 ((M8.go0 M9 (by simp)).go0 (M10.go0 M11 (by simp)) (by simp)) (by simp)
  have hsh11 := hsh.keep0 K211
  have N11 : Mod [] w w11 := (M1.go0 M2 (by simp)).go0 K211 (by simp)
  refine law16_OplogDoes_rule3 (fun mm i w' => ∃ j : Nat, i = j ∧ j ≤ ps.length ∧ CSh w' (fun k => w1.heap.size ≤ k ∧ k < w2.heap.size) sp ps.length ∧ Mod [] w w' ∧ w11.heap.size ≤ w'.heap.size ∧ mm = ps.length - j) ps.length ⟨0, rfl, by omega, hsh11, N11, Nat.le_refl _, rfl⟩ ?_
  rintro mm i w12 ⟨j, rfl, hj, hS12, N12, s12, rfl⟩
  refine brB_dec (fun hlt => ?_) fun hge => k w12 N12
  refine law16_OplogDoes_rule4 (fun mm i w' => ∃ t : Nat, i = t ∧ CSh w' (fun k => w1.heap.size ≤ k ∧ k < w2.heap.size) sp ps.length ∧ Mod [] w w' ∧ w11.heap.size ≤ w'.heap.size ∧ t ≤ 9223372036854775807 ∧ mm = 9223372036854775807 - t) 9223372036854775807 ⟨0, rfl, hS12, N12, s12, by omega, rfl⟩ ?_
  rintro mm i w13 ⟨t, rfl, hS13, N13, s13, ht, rfl⟩
  obtain ⟨ll, hR, hI, hT, hl⟩ := hS13
  obtain ⟨q, hq⟩ : ∃ q, ll[j]? = some q := ⟨_, List.getElem?_eq_getElem (by omega)⟩
  have hTq := hT q (List.mem_of_getElem? hq)
  obtain ⟨tl, hRt, htn, htm⟩ := hTq.sl
  have hK : ∀ {S : List Nat} {w'}, Mod S w13 w' → (∀ b ∈ S, w1.heap.size ≤ b ∧ b < w2.heap.size) → Keep [bm0, b5, b7] w13 w' := fun {S w'} M hS => Keep.of M fun b hb _ hbS => by
    have := hS b hbS
    simp at hb; omega
  have tsl : ∀ {ad : Addr}, (∀ j v, (CV.cs q)[j]? = some v → w13.cell? (ad.add j) = some v) → w13.cell? ((ad.add 2).add 13) = some (.slice q.ts.a q.ts.n q.ts.c) := fun {ad} h => by
    rw [add_add]; exact h 15 _ rfl
  refine (hR.sl CV.cs_len).ix hq fun ad had => ldSlice_of (tsl had) ?_
  unfold maxLen at htm
  refine brB_dec (fun htl => ?_) fun htg => ?_
  · obtain ⟨sx, hsx⟩ : ∃ sx, tl[t]? = some sx := ⟨_, List.getElem?_eq_getElem (by omega)⟩
    refine (hR.sl CV.cs_len).ix hq fun ad had => ldSlice_of (tsl had) ?_
    have hadd0 : ∀ q : Addr, q.add 0 = q := addr_zero
    -- the text's cell
    obtain ⟨hn0, hlen0, ho⟩ := hRt
    rcases ho with ⟨ho, h0⟩ | ⟨g, cap, cur, hv, hb2, hg, hnc, hcm, hsz, htk⟩
    · omega
    · simp only [Value.slice.injEq] at hv
      obtain ⟨e1, _, e3⟩ := hv
      have hDg := hTq.2 _ e1
      refine ⟨⟨g, 0, none⟩, e1, by omega, by omega, ?_⟩
      dsimp only
      have ea : (Addr.add ⟨g, 0, none⟩ (((t : Int).toNat) * 1)) = ⟨g, t, none⟩ := by
        rw [Int.toNat_natCast, addr_add, Nat.zero_add, Nat.mul_one]
      rw [ea]
      refine st_of hg rfl (by simp; omega) fun w14 h14 M14 => ?_
      have hS14 : ∀ b ∈ [g], w1.heap.size ≤ b ∧ b < w2.heap.size := fun b hb => by simp at hb; subst hb; exact hDg
      have hR14 : Row w14 0 57 16 CV.cs sp.a sp.n sp.c ll := hR.keep M14 fun ad ha hk => by
        obtain ⟨_, cur2, hc2⟩ := hR.block ad ha
        simp at hk; rw [hk, hg] at hc2; cases hc2
      refine ⟨hK M14 hS14, ?_⟩
      refine law16_OplogDoes_leaf4 (9223372036854775807 - (t + 1)) (by omega) ⟨t + 1, by rw [wrap_id (by omega) (by omega)]; omega, ⟨ll, hR14, hI, fun y hy => (hT y hy).store hg h14 M14, hl⟩, N13.go0 M14 (by have := (hS14 g (by simp)).1; simp; omega), by have := M14.size; omega, by omega, rfl⟩
  · refine Row.store1 (enc := CV.cs) (y := (⟨⟨q.x.c, 99, q.x.op⟩, q.rs, q.ts⟩ : CV)) (k := 1) hR CV.cs_len (by omega) rfl hq rfl fun ad w14 had hR14 M14 => ?_
    have hDg := hI ad had
    have hS14 : ∀ b ∈ [ad.block], w1.heap.size ≤ b ∧ b < w2.heap.size := fun b hb => by simp at hb; subst hb; exact hDg
    refine ⟨hK M14 hS14, ?_⟩
    obtain ⟨_, curR, hcR⟩ := hR.block ad had
    refine law16_OplogDoes_leaf3 (ps.length - (j + 1)) (by omega) ⟨j + 1, by rw [wrap_id (by omega) (by omega)]; omega, by omega, ⟨_, hR14, hI, fun y hy => ?_, by rw [List.length_set]; exact hl⟩, N13.go0 M14 (by have := (hS14 ad.block (by simp)).1; simp; omega), by have := M14.size; omega, rfl⟩
    have keepT : ∀ {t : Sl}, TSh w13 (fun k => w1.heap.size ≤ k ∧ k < w2.heap.size) t → TSh w14 (fun k => w1.heap.size ≤ k ∧ k < w2.heap.size) t := fun {t} h => h.keep M14 fun k hk cs T hc => by
      simp at hk; subst hk; rw [hcR] at hc; cases hc; decide
    rcases List.mem_or_eq_of_mem_set hy with hy | rfl
    · exact keepT (hT y hy)
    · exact keepT hTq
end Go.Proofs.YtohgihgddknmmaaGreat

/- OplogDoes. -/
namespace Go.Proofs.YtohgihgddknmmaaGreat
open Go Go.RowKit
set_option linter.unusedVariables false
set_option linter.unusedSimpArgs false

/-- A script's call. -/
structure SV where
  kind : Int
  n : Int
  c : CV
  l : Sl
def SV.cs (q : SV) : List Value := [.int .i64 q.kind, .int .i64 q.n, .int .i64 q.c.x.c, .int .i64 q.c.x.n, .int .i64 q.c.x.op.kind, .string q.c.x.op.part.t, .int .i64 q.c.x.op.part.n, .int .i64 q.c.x.op.n, .int .i64 q.c.x.op.off, .int .i64 q.c.x.op.b.prod, .int .i64 q.c.x.op.b.epoch, .int .i64 q.c.x.op.b.seq, .slice q.c.rs.a q.c.rs.n q.c.rs.c, .string q.c.x.op.g, .string q.c.x.op.m, .int .i64 q.c.x.op.gen, .bool q.c.x.op.robin, .slice q.c.ts.a q.c.ts.n q.c.ts.c, .slice q.l.a q.l.n q.l.c]
structure SVRd (w : World) (q : SV) : Prop where
  c : OpRd w q.c.x.op q.c.rs q.c.ts
  l : ∃ ll : List CV, SlAt w 16 CV.cs q.l.a q.l.n ll ∧ ∀ y ∈ ll, OpRd w y.x.op y.rs y.ts
  w : q.l.n ≤ maxLen
theorem ldSV_of {w : World} {a : Addr} {q : SV} {F : Int → Int → Int → Int → Int → ByteArray → Int → Int → Int → Int → Int → Int → Option Addr → Nat → Nat → ByteArray → ByteArray → Int → Bool → Option Addr → Nat → Nat → Option Addr → Nat → Nat → Prop} (h : ∀ j v, q.cs[j]? = some v → w.cell? (a.add j) = some v) (hF : F q.kind q.n q.c.x.c q.c.x.n q.c.x.op.kind q.c.x.op.part.t q.c.x.op.part.n q.c.x.op.n q.c.x.op.off q.c.x.op.b.prod q.c.x.op.b.epoch q.c.x.op.b.seq q.c.rs.a q.c.rs.n q.c.rs.c q.c.x.op.g q.c.x.op.m q.c.x.op.gen q.c.x.op.robin q.c.ts.a q.c.ts.n q.c.ts.c q.l.a q.l.n q.l.c) :
    ldInt .i64 w a fun x0 => ldInt .i64 w (a.add 1) fun x1 => ldInt .i64 w (a.add 2) fun x2 => ldInt .i64 w (a.add 3) fun x3 => ldInt .i64 w (a.add 4) fun x4 => ldStr w (a.add 5) fun x5 => ldInt .i64 w (a.add 6) fun x6 => ldInt .i64 w (a.add 7) fun x7 => ldInt .i64 w (a.add 8) fun x8 => ldInt .i64 w (a.add 9) fun x9 => ldInt .i64 w (a.add 10) fun x10 => ldInt .i64 w (a.add 11) fun x11 => ldSlice w (a.add 12) fun a12 n12 c12 => ldStr w (a.add 13) fun x13 => ldStr w (a.add 14) fun x14 => ldInt .i64 w (a.add 15) fun x15 => ldBool w (a.add 16) fun x16 => ldSlice w (a.add 17) fun a17 n17 c17 => ldSlice w (a.add 18) fun a18 n18 c18 => F x0 x1 x2 x3 x4 x5 x6 x7 x8 x9 x10 x11 a12 n12 c12 x13 x14 x15 x16 a17 n17 c17 a18 n18 c18 :=
  ldInt_of (x := q.kind) (by simpa [add_zero] using h 0 _ rfl) (ldInt_of (h 1 _ rfl) (ldInt_of (h 2 _ rfl) (ldInt_of (h 3 _ rfl) (ldInt_of (h 4 _ rfl) (ldStr_of (h 5 _ rfl) (ldInt_of (h 6 _ rfl) (ldInt_of (h 7 _ rfl) (ldInt_of (h 8 _ rfl) (ldInt_of (h 9 _ rfl) (ldInt_of (h 10 _ rfl) (ldInt_of (h 11 _ rfl) (ldSlice_of (h 12 _ rfl) (ldStr_of (h 13 _ rfl) (ldStr_of (h 14 _ rfl) (ldInt_of (h 15 _ rfl) (ldBool_of (h 16 _ rfl) (ldSlice_of (h 17 _ rfl) (ldSlice_of (h 18 _ rfl) hF))))))))))))))))))
/-- The two logs. -/
structure Two (w0 w : World) (Dg Dk : Nat → Prop) (bg bk : Nat) (start : Int) (xs : List PCall) (m : Nat) : Prop where
  g : LogIs w Dg bg start xs
  k : RLogIs w Dk bk start xs
  sep : ∀ i, Dg i → ¬ Dk i
  lo : ∀ i, Dg i ∨ Dk i → w0.heap.size ≤ i ∧ i < w.heap.size
  s : 0 ≤ start ∧ start + (xs.length : Int) ≤ 1099511627776
  len : xs.length ≤ m
theorem Two.lb {w0 w : World} {Dg Dk : Nat → Prop} {bg bk : Nat} {start : Int} {xs : List PCall} {m : Nat} (h : Two w0 w Dg Dk bg bk start xs m) (hm : m ≤ 100000) : LB start xs := ⟨h.s.1, by have := h.s; omega, by have := h.len; omega⟩
theorem Two.keep0 {w0 w w' : World} {Dg Dk : Nat → Prop} {bg bk : Nat} {start : Int} {xs : List PCall} {m : Nat} (h : Two w0 w Dg Dk bg bk start xs m) (M : Mod [] w w') : Two w0 w' Dg Dk bg bk start xs m :=
  ⟨h.g.keep0 M, h.k.keep0 M, h.sep, fun i hi => by have := h.lo i hi; have := M.size; omega, h.s, h.len⟩
/-- First the log was turned, then the document's. -/
theorem Two.turn {w0 w w1 w2 : World} {Dg Dk : Nat → Prop} {bg bk bg' : Nat} {start start' : Int} {xs ys : List PCall} {m m' : Nat} {E : Nat → Prop} (h : Two w0 w Dg Dk bg bk start xs m) (L : LogIs w1 E bg' start' ys) (hE : ∀ i, E i → Dg i ∨ w.heap.size ≤ i) (MG : ModD Dg w w1) (K : RLogIs w2 (grD Dk w1) bk start' ys) (MK : ModD Dk w1 w2)
    (hs : 0 ≤ start' ∧ start' + (ys.length : Int) ≤ 1099511627776) (hl : ys.length ≤ m') (hw : w0.heap.size ≤ w.heap.size) : ∃ Dg' Dk', Two w0 w2 Dg' Dk' bg' bk start' ys m' := by
  have s1 := MG.size
  have s2 := MK.size
  refine ⟨fun i => E i ∧ i < w1.heap.size, fun i => grD Dk w1 i ∧ i < w2.heap.size, ?_, K.tight, ?_, ?_, hs, hl⟩
  · refine L.tight.apart MK fun i hi hi2 => ?_
    rcases hE i hi2.1 with hd | hd
    · exact h.sep i hd hi
    · have := h.lo i (.inr hi); omega
  · intro i hi hi2
    rcases hi2.1 with hd | hd
    · rcases hE i hi.1 with he | he
      · exact h.sep i he hd
      · have := h.lo i (.inr hd); omega
    · omega
  · intro i hi
    rcases hi with hi | hi
    · rcases hE i hi.1 with he | he
      · have := h.lo i (.inl he); omega
      · omega
    · rcases hi.1 with he | he
      · have := h.lo i (.inr he); omega
      · omega
theorem RLogIs.wider {w : World} {D D' : Nat → Prop} {b0 : Nat} {start : Int} {xs : List PCall} (h : RLogIs w D b0 start xs) (hD : ∀ k, D k → D' k) : RLogIs w D' b0 start xs := h.more fun k _ => hD k
theorem Mod.D {D : Nat → Prop} {b : Nat} {w w' : World} (M : Mod [b] w w') (h : D b) : ModD D w w' := ⟨[b], M, fun k hk _ => by simp at hk; subst hk; exact h⟩
theorem take_len {xs ys : List PCall} {k : Nat} : (xs.take k ++ ys).length ≤ xs.length + ys.length := by rw [List.length_append, List.length_take]; omega
theorem joinE_ok {start : Int} {len : Nat} {n : Int} {ys : List PCall} (h : joinE start len n ys = 0) : atE start len n = 0 ∧ loadE n ys = 0 := by
  unfold joinE at h
  split at h
  · exact absurd h (by assumption)
  · rename_i hg
    exact ⟨by simpa using hg, h⟩
theorem loadE_len {start : Int} {ys : List PCall} (h : loadE start ys = 0) : start + (ys.length : Int) ≤ 1099511627776 := by
  unfold loadE at h
  split at h
  · omega
  · omega
set_option maxHeartbeats 8000000 in
set_option maxRecDepth 20000 in
theorem Does16_law {a : Option Addr} {n c : Nat} {sl : List SV} (start : Int) (w : World) (h : SlAt w 19 SV.cs a n sl) (hO : ∀ q ∈ sl, SVRd w q) (hw : n ≤ maxLen) :
    Calls Tryz.prog 9 #[.int .i64 start, .slice a n c] w fun e w' => e = .returned (.bool true) ∧ Mod [] w w' := by
  unfold maxLen at hw
  have hn := h.1
  have none0 : ∀ w', CsAt w' nilS [] := fun w' => ⟨(Row.nil w' 0 57 16 CV.cs).sl CV.cs_len, by simp⟩
  refine go_of (law16_OplogDoes_go ?_)
  refine (Load_ok (start := start) (none0 w) (by simp)).mono ?_
  rintro _ w1 ⟨v, rfl, hv, M1⟩
  have s1 := M1.size
  have e0 : (([] : List CV).map (·.x)) = ([] : List PCall) := rfl
  rw [e0] at hv
  by_cases g : loadE start [] = 0
  · rw [if_pos g] at hv
    obtain ⟨b0, rfl, f0, sg, lg, hg, hRg, hOg, hmg, _⟩ := hv
    refine ⟨_, _, rfl, ?_⟩
    refine (RLoad_ok (start := start) (none0 w1) (by simp)).mono ?_
    rintro _ w2 ⟨v, rfl, hv, M2⟩
    have s2 := M2.size
    rw [e0, if_pos g] at hv
    obtain ⟨b1, rfl, f1, sk, hk, hRk⟩ := hv
    refine ⟨_, _, rfl, brF (by simp) (brF (by simp) (brF (by simp) (brF (by simp) ?_)))⟩
    obtain ⟨hs0, hs1, _⟩ := load_chk g
    have L2 : LogIs w2 (fun k => w.heap.size ≤ k ∧ k < w1.heap.size) b0 start [] := (LogIs.loaded f0 hg hRg hOg hmg fun k hk hl => ⟨hk, hl⟩).keep0 M2
    have K2 : RLogIs w2 (fun k => w1.heap.size ≤ k ∧ k < w2.heap.size) b1 start [] := ⟨sk, [], hk, ⟨f1, lt_of_block hk⟩, .inl (hRk.rebase (Nat.zero_le _)), fun ad ha => by
      obtain ⟨hb, cur, hc⟩ := hRk.block ad ha
      exact ⟨hb, lt_of_block hc⟩, by simp, rfl⟩
    have T2 : Two w w2 (fun k => w.heap.size ≤ k ∧ k < w1.heap.size) (fun k => w1.heap.size ≤ k ∧ k < w2.heap.size) b0 b1 start [] 0 := ⟨L2, K2, fun i hi hi2 => by omega, fun i hi => by omega, ⟨hs0, by simpa using hs1⟩, by simp⟩
    have N2 := M1.go0 M2 (by simp)
    refine law16_OplogDoes_rule1 (fun mm p5 x9 w' => ∃ (i bg : Nat) (Dg Dk : Nat → Prop) (st : Int) (xs : List PCall), x9 = i ∧ i ≤ sl.length ∧ i ≤ 40 ∧ p5 = some ⟨bg, 0, none⟩ ∧ Two w w' Dg Dk bg b1 st xs (12 * i) ∧ Mod [] w w' ∧ mm = sl.length - i) sl.length ⟨0, b0, _, _, start, [], rfl, by omega, by omega, rfl, T2, N2, rfl⟩ ?_
    clear T2 L2 K2
    rintro mm p5 x9 w3 ⟨i, bg, Dg, Dk, st, xs, rfl, hi, hi40, rfl, T3, N3, rfl⟩
    have s3 := N3.size
    refine brB_dec (fun hlt => ?_) fun hge => fix_step N3
    refine brB_dec (fun hlt2 => ?_) fun hge => fix_step N3
    obtain ⟨q, hq⟩ : ∃ q, sl[i]? = some q := ⟨_, List.getElem?_eq_getElem (by omega)⟩
    have hrd := hO q (List.mem_of_getElem? hq)
    refine (h.keep0 N3).ix hq fun ad had => ldSV_of had ?_
    intro b37 f37 w4 A4
    have l37 := A4.lt b37 (by simp)
    have s4 := A4.mod.size
    have N4 := N3.go0 A4.mod (by simp)
    obtain ⟨li, hli, hlr⟩ := hrd.l
    refine (LCut_ok (hli.keep0 N4) (fun y hy => (hlr y hy).keep0 N4) hrd.w).mono ?_
    rintro _ w5 ⟨_, rfl, sc, lc, rfl, hR5, hOw5, hlen5, M5⟩
    have s5 := M5.size
    have N5 := N4.go0 M5 (by simp)
    have K35 := A4.mod.go0 M5 (by simp)
    have hl12 : lc.length ≤ 12 := by rw [hlen5]; unfold cutLen; omega
    refine ⟨_, _, _, rfl, Keep.of0 M5, ?_⟩
    have T5 := T3.keep0 K35
    have hLB : LB st xs := T3.lb (by omega)
    have hbg := T3.g.lt
    have hbk := T3.k.lt
    have hlo : ∀ i, Dg i ∨ Dk i → w.heap.size ≤ i ∧ i < w3.heap.size := T3.lo
    have b37D : ¬ Dg b37 ∧ ¬ Dk b37 := ⟨fun hd => by have := hlo _ (.inl hd); omega, fun hd => by have := hlo _ (.inr hd); omega⟩
    -- what is behind the call
    have tail : ∀ {w' : World} {Dg' Dk' : Nat → Prop} {bg' : Nat} {st' : Int} {xs' : List PCall} {x y : Int} {y0 : Int} {y1 : Int} {y2 : Int} {y3 : Int} {y4 : Int} {y5 : ByteArray} {y6 : Int} {y7 : Int} {y8 : Int} {y9 : Int} {y10 : Int} {y11 : Int} {y12 : Option Addr} {y13 : Nat} {y14 : Nat} {y15 : ByteArray} {y16 : ByteArray} {y17 : Int} {y18 : Bool} {y19 : Option Addr} {y20 : Nat} {y21 : Nat} {y22 : Option Addr} {y23 : Nat} {y24 : Nat}, Two w w' Dg' Dk' bg' b1 st' xs' (12 * (i + 1)) → Mod [] w w' → w5.heap.size ≤ w'.heap.size → _ := fun {w' Dg' Dk' bg' st' xs' x y y0 y1 y2 y3 y4 y5 y6 y7 y8 y9 y10 y11 y12 y13 y14 y15 y16 y17 y18 y19 y20 y21 y22 y23 y24} T N hsz =>
      law16_OplogDoes_cut2 (x_m0_00 := y0) (x_m0_10 := y1) (x_m0_20 := y2) (x_m0_30 := y3) (x_m0_40 := y4) (s_m0_50 := y5) (x_m0_60 := y6) (x_m0_70 := y7) (x_m0_80 := y8) (x_m0_90 := y9) (x_m0_100 := y10) (x_m0_110 := y11) (a_m0_120 := y12) (n_m0_120 := y13) (c_m0_120 := y14) (s_m0_130 := y15) (s_m0_140 := y16) (x_m0_150 := y17) (t_m0_160 := y18) (a_m0_170 := y19) (n_m0_170 := y20) (c_m0_170 := y21) (a_m0_180 := y22) (n_m0_180 := y23) (c_m0_180 := y24) (x_120 := x) (x_130 := x) (x_140 := y) (x_150 := y) (a_10 := a) (n_10 := n) (c_10 := c) (p_50 := some ⟨bg', 0, none⟩) (p_70 := some ⟨b1, 0, none⟩) (x_90 := (i : Int)) (bm00 := b37) (R := fun v w' => v = .bool true ∧ Mod [] w w') (w0 := w')
        (K1 := law16_OplogDoes_K1 a n c (some ⟨b1, 0, none⟩) (fun mm p5 x9 w' => ∃ (i bg : Nat) (Dg Dk : Nat → Prop) (st : Int) (xs : List PCall), x9 = i ∧ i ≤ sl.length ∧ i ≤ 40 ∧ p5 = some ⟨bg, 0, none⟩ ∧ Two w w' Dg Dk bg b1 st xs (12 * i) ∧ Mod [] w w' ∧ mm = sl.length - i) (sl.length - i))
        (fun a' n' c' p5 p7 x9 x12 x13 x14 x15 bm _ _ _ _ _ _ _ _ _ _ _ _ _ _ _ _ _ _ _ _ _ _ _ _ _ ww => a' = a ∧ n' = n ∧ c' = c ∧ p5 = some ⟨bg', 0, none⟩ ∧ p7 = some ⟨b1, 0, none⟩ ∧ x9 = (i : Int) ∧ x12 = x13 ∧ x14 = x15 ∧ bm = b37 ∧ ww = w')
        ⟨rfl, rfl, rfl, rfl, rfl, rfl, rfl, rfl, rfl, rfl⟩ (by
          rintro _ _ _ _ _ _ x12 _ x14 _ _ _ _ _ _ _ _ _ _ _ _ _ _ _ _ _ _ _ _ _ _ _ _ _ _ _ _ ⟨rfl, rfl, rfl, rfl, rfl, rfl, rfl, rfl, rfl, rfl⟩
          refine Does_tail T.g T.k (T.lb (by omega)) (by omega) fun w6 M6 => ?_
          exact law16_OplogDoes_leaf1 (sl.length - (i + 1)) (by omega) ⟨i + 1, bg', Dg', Dk', st', xs', by rw [wrap_id (by omega) (by omega)]; omega, by omega, by omega, rfl, T.keep0 M6, N.go0 M6 (by simp), rfl⟩)
    have kG : ∀ {w1 w2}, ModD Dg w1 w2 → Keep [b37] w1 w2 := fun {w1 w2} M => Keep.apart M fun b hb _ hd => by simp at hb; subst hb; exact b37D.1 hd
    have lenm : xs.length ≤ 12 * i := T3.len
    refine brB_of (fun g0 => ?_) fun g0 => ?_
    · -- a call is put
      refine al_of fun b6 w6 c6 M6 f6 => ?_
      have s6 := M6.size
      have N6 := N5.go0 M6 (by simp)
      refine (LCut_ok (ll := [q.c]) (SlAt.one (enc := CV.cs) (x := q.c) (T := 57) c6) (fun y hy => by simp at hy; subst hy; exact hrd.c.keep0 N6) (by unfold maxLen; omega)).mono ?_
      rintro _ w7 ⟨_, rfl, s7, l7, rfl, hR7, hOw7, hlen7, M7⟩
      have s7' := M7.size
      have N7 := N6.go0 M7 (by simp)
      have K37 := K35.go0 (M6.go0 M7 (by simp)) (by simp)
      have hl7 : l7.length = 1 := hlen7
      obtain ⟨y, rfl⟩ := List.length_eq_one_iff.1 hl7
      have hn7 := (hR7.sl CV.cs_len).1
      have hyO := hOw7 y (by simp)
      refine ⟨_, _, _, rfl, Keep.of0 M7, brF (by rw [hn7]; simp) ?_⟩
      refine SlAt.ix (i := 0) (hR7.sl CV.cs_len) rfl fun ad had => ldCV_of had ?_
      have T7 := T3.keep0 K37
      refine (OPut_ok T7.g hLB (q := y) hyO.at).mono ?_
      rintro _ w8 ⟨rfl, L8, D8, _⟩
      have s8 := D8.size
      -- the document's: what it holds is a call's own, too
      let Dk1 : Nat → Prop := fun k => Dk k ∨ (w6.heap.size ≤ k ∧ k < w7.heap.size)
      have hsep1 : ∀ i, Dg i → ¬ Dk1 i := fun i hi hi2 => by
        rcases hi2 with hd | hd
        · exact T3.sep i hi hd
        · have := hlo i (.inl hi); omega
      have T71 : Two w w7 Dg Dk1 bg b1 st xs (12 * i) := ⟨T7.g, T7.k.wider fun k hk => Or.inl hk, hsep1, fun i hi => by
        rcases hi with hd | hd | hd
        · have := hlo i (.inl hd); omega
        · have := hlo i (.inr hd); omega
        · omega, T7.s, T7.len⟩
      have hyD : OpD w7 Dk1 y := OpD.of hyO fun k hk hl => Or.inr ⟨hk, hl⟩
      have hyD8 : OpD w8 Dk1 y := hyD.keep (by
        obtain ⟨S, M, hS⟩ := D8
        exact ⟨S, M, fun k hk hl => hsep1 k (hS k hk hl)⟩)
      have K8 : RLogIs w8 Dk1 b1 st xs := T71.k.apart D8 hsep1
      have val : (if putE st xs.length y.x = 0 then Value.tuple #[.int .i64 (st + (xs.length : Nat) + 1), .int .i64 0] else Value.tuple #[.int .i64 0, .int .i64 (putE st xs.length y.x)]) = .tuple #[.int .i64 (if putE st xs.length y.x = 0 then st + (xs.length : Nat) + 1 else 0), .int .i64 (putE st xs.length y.x)] := by
        split
        · rename_i hp; rw [hp]
        · rfl
      rw [val]
      refine ⟨_, _, rfl, kG D8, ?_⟩
      refine SlAt.ix (i := 0) ((hR7.keep (D8.list.choose_spec.1) fun ad ha hk => ?_).sl CV.cs_len) rfl fun ad had => ldCV_of had ?_
      · have h1 := (hR7.block ad ha).1
        have h2 := hlo _ (.inl (D8.list.choose_spec.2 _ hk)); omega
      refine (RPutL_ok K8 hLB T3.s.2 hyD8).mono ?_
      rintro _ w9 ⟨rfl, K9, D9⟩
      rw [val]
      refine ⟨_, _, rfl, Keep.apart D9 (fun b hb _ hd => ?_), ?_⟩
      · simp at hb; subst hb
        rcases hd with hd | hd
        · exact b37D.2 hd
        · omega
      obtain ⟨Dg', Dk', T9⟩ := T71.turn (m' := 12 * (i + 1)) L8 (fun i hi => hi) D8 K9 D9 (by
        refine ⟨T3.s.1, ?_⟩
        split
        · rename_i hp
          rw [List.length_append]
          unfold putE at hp
          split at hp
          · rename_i h1; exact absurd hp h1
          · split at hp
            · omega
            · simp; omega
        · exact T3.s.2) (by split <;> (try simp) <;> omega) (by omega)
      exact tail T9 (D9.new (D8.new N7 fun i hi => (hlo i (.inl hi)).1) fun i hi => by
        rcases hi with hd | hd
        · exact (hlo i (.inr hd)).1
        · omega) (by have := D9.size; omega)
    refine brB_of (fun g1 => ?_) fun g1 => ?_
    · -- cut
      refine (OCut_ok T5.g hLB q.n).mono ?_
      rintro _ w6 ⟨rfl, L6, M6⟩
      have D6 : ModD Dg w5 w6 := M6.D hbg.2
      refine ⟨_, rfl, kG D6, ?_⟩
      refine (RCutL_ok (T5.k.apart D6 T3.sep) hLB q.n).mono ?_
      rintro _ w7 ⟨rfl, K7, M7⟩
      have D7 : ModD Dk w6 w7 := M7.D hbk.2
      refine ⟨_, rfl, Keep.apart D7 (fun b hb _ hd => by simp at hb; subst hb; exact b37D.2 hd), ?_⟩
      obtain ⟨Dg', Dk', T7⟩ := T5.turn (m' := 12 * (i + 1)) L6 (fun i hi => Or.inl hi) D6 K7 D7 (by
        refine ⟨T3.s.1, ?_⟩
        have := T3.s.2
        split
        · rw [List.length_take]; omega
        · exact this) (by split <;> (try rw [List.length_take]) <;> omega) (by omega)
      exact tail T7 (D7.new (D6.new N5 fun i hi => (hlo i (.inl hi)).1) fun i hi => (hlo i (.inr hi)).1) (by have := D6.size; have := D7.size; omega)
    refine brB_of (fun g2 => ?_) fun g2 => ?_
    · -- drop
      refine (ODrop_ok T5.g hLB q.n).mono ?_
      rintro _ w6 ⟨rfl, L6, M6⟩
      have D6 : ModD Dg w5 w6 := M6.D hbg.2
      refine ⟨_, rfl, kG D6, ?_⟩
      refine (RDropL_ok (T5.k.apart D6 T3.sep) hLB q.n).mono ?_
      rintro _ w7 ⟨rfl, K7, M7⟩
      have D7 : ModD Dk w6 w7 := M7.D hbk.2
      refine ⟨_, rfl, Keep.apart D7 (fun b hb _ hd => by simp at hb; subst hb; exact b37D.2 hd), ?_⟩
      obtain ⟨Dg', Dk', T7⟩ := T5.turn (m' := 12 * (i + 1)) L6 (fun i hi => hi) D6 K7 D7 (by
        have := T3.s
        by_cases ha : atE st xs.length q.n = 0
        · have hr := atE_ok.1 ha
          rw [if_pos ha, if_pos ha, List.length_drop]; omega
        · rw [if_neg ha, if_neg ha]; exact this) (by split <;> (try rw [List.length_drop]) <;> omega) (by omega)
      exact tail T7 (D7.new (D6.new N5 fun i hi => (hlo i (.inl hi)).1) fun i hi => (hlo i (.inr hi)).1) (by have := D6.size; have := D7.size; omega)
    refine brB_of (fun g3 => ?_) fun g3 => ?_
    · -- join
      have hC5 : CsAt w5 sc lc := ⟨hR5.sl CV.cs_len, fun y hy => (hOw5 y hy).at⟩
      let Dk1 : Nat → Prop := fun k => Dk k ∨ (w4.heap.size ≤ k ∧ k < w5.heap.size)
      have hsep1 : ∀ i, Dg i → ¬ Dk1 i := fun i hi hi2 => by
        rcases hi2 with hd | hd
        · exact T3.sep i hi hd
        · have := hlo i (.inl hi); omega
      have T51 : Two w w5 Dg Dk1 bg b1 st xs (12 * i) := ⟨T5.g, T5.k.wider fun k hk => Or.inl hk, hsep1, fun i hi => by
        rcases hi with hd | hd | hd
        · have := hlo i (.inl hd); omega
        · have := hlo i (.inr hd); omega
        · omega, T5.s, T5.len⟩
      refine (OJoin_ok T5.g hLB q.n hC5 (by omega)).mono ?_
      rintro _ w6 ⟨rfl, L6, D6⟩
      refine ⟨_, rfl, kG D6, ?_⟩
      obtain ⟨S6, M6, hS6⟩ := D6.list
      have hlD : ∀ y ∈ lc, OpD w6 Dk1 y := fun y hy => (OpD.of (hOw5 y hy) fun k hk hl => Or.inr ⟨hk, hl⟩).keep ⟨S6, M6, fun k hk hl => hsep1 k (hS6 k hk)⟩
      have hR6 := hR5.keep M6 fun ad ha hk => by
        have h1 := (hR5.block ad ha).1
        have h2 := hlo _ (.inl (hS6 _ hk)); omega
      refine (RJoinL_ok (T51.k.apart D6 hsep1) hLB q.n (hR6.sl CV.cs_len) hlD (by omega)).mono ?_
      rintro _ w7 ⟨rfl, K7, M7⟩
      have D7 : ModD Dk1 w6 w7 := M7.D (Or.inl hbk.2)
      refine ⟨_, rfl, Keep.apart D7 (fun b hb _ hd => ?_), ?_⟩
      · simp at hb; subst hb
        rcases hd with hd | hd
        · exact b37D.2 hd
        · omega
      have elc : (lc.map (·.x)).length = lc.length := by simp
      obtain ⟨Dg', Dk', T7⟩ := T51.turn (m' := 12 * (i + 1)) L6 (fun i hi => hi) D6 K7 D7 (by
        have := T3.s
        refine ⟨this.1, ?_⟩
        by_cases hj : joinE st xs.length q.n (lc.map (·.x)) = 0
        · obtain ⟨ha, hb⟩ := joinE_ok hj
          have hr := atE_ok.1 ha
          have h2 := loadE_len hb
          rw [if_pos hj, List.length_append, List.length_take]; omega
        · rw [if_neg hj]; exact this.2) (by
        split
        · have := take_len (xs := xs) (ys := lc.map (·.x)) (k := (q.n - st).toNat); omega
        · omega) (by omega)
      exact tail T7 (D7.new (D6.new N5 fun i hi => (hlo i (.inl hi)).1) fun i hi => by
        rcases hi with hd | hd
        · exact (hlo i (.inr hd)).1
        · omega) (by have := D6.size; have := D7.size; omega)
    refine brB_of (fun g4 => ?_) fun g4 => ?_
    · -- copy
      refine (OCopy_ok T5.g hLB).mono ?_
      rintro _ w6 ⟨_, rfl, b6, rfl, L6, M6⟩
      have s6 := M6.size
      refine ⟨_, rfl, Keep.of0 M6, ?_⟩
      refine (tickC_ok 9 9 w6).mono ?_
      rintro _ w7 ⟨rfl, M7⟩
      have s7 := M7.size
      have K57 := M6.go0 M7 (by simp)
      refine ⟨_, _, _, _, _, _, _, _, _, _, _, _, _, _, _, _, _, _, _, _, rfl, Keep.of0 M7, ?_⟩
      refine (OPut_ok (T5.g.keep0 K57) hLB (q := ⟨tickC 9 9, nilS, nilS⟩) (tickC_own w7 0 9 9).at).mono ?_
      rintro _ w8 ⟨rfl, L8, D8, _⟩
      have s8 := D8.size
      have val : (if putE st xs.length (tickC 9 9) = 0 then Value.tuple #[.int .i64 (st + (xs.length : Nat) + 1), .int .i64 0] else Value.tuple #[.int .i64 0, .int .i64 (putE st xs.length (tickC 9 9))]) = .tuple #[.int .i64 (if putE st xs.length (tickC 9 9) = 0 then st + (xs.length : Nat) + 1 else 0), .int .i64 (putE st xs.length (tickC 9 9))] := by
        split
        · rename_i hp; rw [hp]
        · rfl
      rw [val]
      refine ⟨_, _, rfl, kG D8, ?_⟩
      have hLB8 : LB st (if putE st xs.length (tickC 9 9) = 0 then xs ++ [tickC 9 9] else xs) := ⟨hLB.1, hLB.2.1, by have := hLB.2.2; split <;> (try simp) <;> omega⟩
      refine (OCut_ok L8 hLB8 q.n).mono ?_
      rintro _ w9 ⟨rfl, _, M9⟩
      have D9 : ModD Dg w8 w9 := M9.D hbg.2
      refine ⟨_, rfl, kG D9, brF (by simp) ?_⟩
      have hD89 : ModD Dg w7 w9 := D8.trans D9 fun i _ hi => hi
      have L9 : LogIs w9 (fun k => w5.heap.size ≤ k ∧ k < w6.heap.size) b6 st xs := ((L6.tight).keep0 M7).apart hD89 fun i hi hi2 => by have := hlo i (.inl hi); omega
      have K9 : RLogIs w9 Dk b1 st xs := (T5.k.keep0 K57).apart hD89 T3.sep
      have T9 : Two w w9 (fun k => w5.heap.size ≤ k ∧ k < w6.heap.size) Dk b6 b1 st xs (12 * (i + 1)) := ⟨L9, K9, fun i hi hi2 => by have := hlo i (.inr hi2); omega, fun i hi => by
        have := hD89.size
        rcases hi with hd | hd
        · omega
        · have := hlo i (.inr hd); omega, T3.s, by omega⟩
      exact tail T9 (hD89.new (N5.go0 K57 (by simp)) fun i hi => (hlo i (.inl hi)).1) (by have := hD89.size; omega)
    · -- nothing
      have T5' : Two w w5 Dg Dk bg b1 st xs (12 * (i + 1)) := ⟨T5.g, T5.k, T5.sep, T5.lo, T5.s, by omega⟩
      exact tail T5' N5 (Nat.le_refl _)
  · rw [if_neg g] at hv
    subst hv
    refine ⟨_, _, rfl, ?_⟩
    refine (RLoad_ok (start := start) (none0 w1) (by simp)).mono ?_
    rintro _ w2 ⟨v, rfl, hv, M2⟩
    rw [e0, if_neg g] at hv
    subst hv
    exact ⟨_, _, rfl, brF (by simp) (brF (by simp) (brT (by simp) (fix_step (M1.go0 M2 (by simp)))))⟩
end Go.Proofs.YtohgihgddknmmaaGreat

/- A script's calls, as they come in. -/
namespace Go.Proofs.YtohgihgddknmmaaGreat
open Go Go.RowKit
set_option linter.unusedVariables false
set_option linter.unusedSimpArgs false

theorem cSV : Tryz.prog.cellsOf 97 = 19 := by kernel_rfl
theorem cSl : Tryz.prog.cellsOf 39 = 1 := by kernel_rfl
theorem inv_op16 (w : World) (row : List Value) (h : OkT Tryz.prog w 97 row) (hl : row.length = Tryz.prog.cellsOf 97) : ∃ x : SV, row = SV.cs x ∧ SVRd w x := by
  rw [cSV] at hl
  match row, hl with
  | a :: b :: t, hl =>
    obtain ⟨_, hf⟩ := h.struct_inv Tryz.underlying97
    simp [cI, cB, cS, cE, cSF, cSP, cSR, cSS, cSC, cPt, cRc, cFd, cRp, cBt, cOp, cCl, cSl] at hf
    obtain ⟨h1, h2, h3, h4⟩ := hf
    obtain ⟨x1, e1, _⟩ := h1.int_inv Tryz.underlying3
    obtain ⟨x2, e2, _⟩ := h2.int_inv Tryz.underlying3
    have hlt : t.length = 17 := by simpa using hl
    obtain ⟨x3, e3, g3⟩ := inv_call w _ h3 (by rw [cCl, List.length_take]; omega)
    obtain ⟨ca, cn, cc, cl, e4, s4, g4, u4, c4⟩ := h4.slice_inv Tryz.underlying39 (inv_call w)
    have ht : t = t.take 16 ++ (t.drop 16).take 1 := by
      rw [List.take_of_length_le (l := t.drop 16) (by rw [List.length_drop]; omega), List.take_append_drop]
    rw [cCl] at s4
    simp at e1 e2
    subst e1 e2
    refine ⟨⟨x1, x2, x3, ⟨ca, cn, cc⟩⟩, ?_, ⟨g3, ⟨cl, s4, g4⟩, by show cn ≤ _; omega⟩⟩
    rw [ht, e3, e4]
    rfl
end Go.Proofs.YtohgihgddknmmaaGreat

/- OplogDoes, for every input. No conditions. -/
namespace Go.Proofs.YtohgihgddknmmaaGreat.oplogDoes
open Go.ChangeShapes Go.WideShapes Go.ChangeAt Go.RowKit
open Go.ChangeMaps (open_string shut_string)
set_option linter.unusedVariables false

theorem own : ownKnob Tryz.prog.godebug = none := by kernel_rfl
theorem laidOut : laidOutB Tryz.prog = true := by kernel_rfl

set_option maxRecDepth 100000 in
theorem lifted (os : Os) (started : os.Started) (H : Type) (enc : TypeId × Value → H) :
    ReturnsInHanded {} Tryz.checked os 9 .any (Rows.oplogDoesSpec.pre6 enc Tryz.prog Tryz.f9 Rows.oplogDoesRow.domain false) (Rows.oplogDoesSpec.post enc Tryz.prog Tryz.f9 false true false false) := by
  refine returnsInHanded_of_change (C := Tryz.checked) own started (by kernel_rfl) Tryz.func9
    (ChangeSpec.witness6 (enc := enc) (C := Tryz.checked) false ⟨#[], #[.int .i64 0, .slice none 0 0], []⟩ 8 (by kernel_rfl) (by kernel_rfl) (by kernel_rfl) (by kernel_rfl)) ?_
  intro W base args ds gs before hval0 hW hcnd _
  have hval : ∀ (j : Nat) t v, Tryz.f9.params[j]? = some t → args[j]? = some v → Value.okWide Tryz.prog W .any base t v := hval0
  have hW' := hW
  obtain ⟨p, q, hA0, hV, rfl, hfz, hnd⟩ := hW
  have hA : DataW.TrodAll enc Tryz.prog W 0 (fun _ => true) true Tryz.f9.params.toList args.toList ds p := hA0
  rw [Tryz.params9] at hA hval
  obtain ⟨v0, vs0, d0, ds0, p0, q0, hargs, rfl, rfl, h0, r0⟩ := trodAll_cons hA
  obtain ⟨v1, vs1, d1, ds1, p1, q1, rfl, rfl, rfl, h1, r1⟩ := trodAll_cons r0
  obtain ⟨rfl, rfl, rfl⟩ := trodAll_nil r1
  obtain rfl : args = #[v0, v1] := by cases args; simp_all
  obtain ⟨rfl, rfl⟩ := trodVars_none hV
  have k0 := h0
  have lt0 : ∀ x ∈ p0, x.block < W.heap.size := by obtain ⟨m, hm⟩ := k0; exact DataW.trod_lt m _ _ _ hm
  have k1 := h1
  have lt1 : ∀ x ∈ p1, x.block < W.heap.size := by obtain ⟨m, hm⟩ := k1; exact DataW.trod_lt m _ _ _ hm
  obtain ⟨a0, rfl, _, _, w0⟩ := open_int Tryz.underlying3 (hval 0 3 v0 rfl rfl) h0
  obtain ⟨b1, len1, cap1, rfl⟩ := okWide_slice Tryz.underlying92 (hval 1 92 v1 rfl rfl)
  obtain ⟨fuel1, hf1⟩ := h1
  obtain ⟨b1', len1', cap1', l1, e1, s1, g1, u1, c1⟩ := (trod_ok hf1).slice_inv Tryz.underlying92 (inv_op16 W)
  simp [Value.cells] at e1
  obtain ⟨rfl, rfl, rfl⟩ := e1
  rw [show Tryz.prog.cellsOf 97 = 19 by kernel_rfl] at s1
  clear hA0 hval0
  refine (Does16_law a0 W s1 g1 (by omega)).mono fun e W' ⟨he, hM⟩ => ?_
  have bel : Below W.heap.size W W' := hM.below (by simp)
  subst he
  exact ⟨_, rfl, _, _, _, [], _, [], hW', trodAll_mk1 (shut_bool Tryz.underlying4 _), (trodAll_cons_mk (Below.trod laidOut (by kernel_rfl) (of_decide_eq_true (by kernel_rfl)) k0 bel lt0) (trodAll_cons_mk (Below.trod laidOut (by kernel_rfl) (of_decide_eq_true (by kernel_rfl)) k1 bel lt1) trodAll_mk0)), rfl, bel.frame _, fun h => by cases h⟩

theorem over : Rows.oplogDoesRow.holds Tryz.pinned (OpenSpec.ofChange Rows.oplogDoesSpec) :=
  OpenClaim.holds_of_wide 9 Tryz.f9 rfl rfl rfl rfl rfl rfl rfl ⟨rfl, rfl, rfl, rfl, rfl⟩ rfl rfl rfl rfl rfl (by kernel_rfl) Tryz.func9 (by kernel_rfl)
    (of_decide_eq_true (by kernel_rfl)) (by unfold Func.isWrapper; first | (rw [if_pos (by decide +kernel)]; kernel_rfl) | (rw [if_neg (by decide +kernel)]; exact ⟨rfl, rfl⟩))
    (fun os started H enc _ => lifted os started H enc)

theorem proved : Rows.OplogDoesSaid := over
#print axioms proved
end Go.Proofs.YtohgihgddknmmaaGreat.oplogDoes
