/- The conditions of Go functions' bodies, printed by gen2.py. -/
import Derived.Test.YtohgihgddknmmaaTrkS
namespace Go.Proofs.Ytohgihgddknmmaa
open Go Go.RowKit
set_option linter.unusedVariables false
set_option maxRecDepth 100000

def law03_cut_an : List LA := []
/-- stagecoach/stagecoachlaw03.cut -/
def law03_cut_T (a0_r_0 : Bool) (a0_r_1 : ByteArray) (a0_r_2 : Bool) (a0_r_3 : ByteArray) (R : Value → World → Prop) (w : World) : Prop :=
  ∀ b1, w.heap.size ≤ b1 →
  ∀ b2, w.heap.size ≤ b2 →
  slS a0_r_1 0 (if 80 < (a0_r_1.size : Int) then 80 else (a0_r_1.size : Int)) fun s3 =>
  slS a0_r_3 0 (if 600 < (a0_r_3.size : Int) then 600 else (a0_r_3.size : Int)) fun s4 =>
  ∀ w5, Adv [] [b2, b1] w w5 →
  R (.agg #[(.bool a0_r_0), (.string s3), (.bool a0_r_2), (.string s4)]) w5
theorem law03_cut_eq (a0_r_0 : Bool) (a0_r_1 : ByteArray) (a0_r_2 : Bool) (a0_r_3 : ByteArray) (R : Value → World → Prop) (w : World) :
    dnF Try.prog law03_cut_an (code Try.f42) 400 [] (post3 Try.prog Try.f42 [] R) ⟨args0 0 [(.agg #[(.bool a0_r_0), (.string a0_r_1), (.bool a0_r_2), (.string a0_r_3)])], fun _ => undef⟩ ⟨[], w, [], [], true⟩ = law03_cut_T a0_r_0 a0_r_1 a0_r_2 a0_r_3 R w := by kernel_rfl
theorem law03_cut_go {a0_r_0 : Bool} {a0_r_1 : ByteArray} {a0_r_2 : Bool} {a0_r_3 : ByteArray} {R : Value → World → Prop} {w : World} (h : law03_cut_T a0_r_0 a0_r_1 a0_r_2 a0_r_3 R w) :
    Calls Try.prog 42 #[(.agg #[(.bool a0_r_0), (.string a0_r_1), (.bool a0_r_2), (.string a0_r_3)])] w fun e w' => ∃ v, e = .returned v ∧ R v w' :=
  calls_none Try.wide_mixed (f := 42) (args := [(.agg #[(.bool a0_r_0), (.string a0_r_1), (.bool a0_r_2), (.string a0_r_3)])]) Try.func42 rfl rfl (by kernel_rfl) rfl (Eq.mpr (law03_cut_eq a0_r_0 a0_r_1 a0_r_2 a0_r_3 R w) h)
def law03_Bound_la1 : LA := ⟨[0, 0, 1, 0, 1, 1], [1, 2, 3, 4], [(1, 0, 0), (2, 1, 0), (3, 2, 0)], 3, []⟩
def law03_Bound_an : List LA := [law03_Bound_la1]
def law03_Bound_v1 (bm0 : Nat) (bm1 : Nat) (bm2 : Nat) (x_4 : Int) : List Value := [(.pointer (some ⟨bm0, 0, none⟩)), (.pointer (some ⟨bm1, 0, none⟩)), (.pointer (some ⟨bm2, 0, none⟩)), (.int .i64 x_4)]
def law03_Bound_m1 (bm0 : Nat) (x_m0_0 : Int) (x_m0_1 : Int) (x_m0_2 : Int) (a_m0_3 : Option Addr) (n_m0_3 : Nat) (c_m0_3 : Nat) (bm1 : Nat) (bm2 : Nat) (x_m2_0 : Int) (x_m2_1 : Int) (x_m2_2 : Int) (a_m2_3 : Option Addr) (n_m2_3 : Nat) (c_m2_3 : Nat) : List TB := [⟨bm0, 32, [(.int .i64 x_m0_0), (.int .i64 x_m0_1), (.int .i64 x_m0_2), (.slice a_m0_3 n_m0_3 c_m0_3)], false⟩, ⟨bm1, 32, [(.int .i64 0), (.int .i64 0), (.int .i64 0), (.slice none 0 0)], false⟩, ⟨bm2, 32, [(.int .i64 x_m2_0), (.int .i64 x_m2_1), (.int .i64 x_m2_2), (.slice a_m2_3 n_m2_3 c_m2_3)], false⟩]
def law03_Bound_L1 (bm0 : Nat) (x_m0_0 : Int) (x_m0_1 : Int) (x_m0_2 : Int) (a_m0_3 : Option Addr) (n_m0_3 : Nat) (c_m0_3 : Nat) (bm1 : Nat) (bm2 : Nat) (x_m2_0 : Int) (x_m2_1 : Int) (x_m2_2 : Int) (x_4 : Int) (a_m2_3 : Option Addr) (n_m2_3 : Nat) (c_m2_3 : Nat) (K1 : Kh) (R : Value → World → Prop) (w : World) : Prop :=
  brB (decide (x_4 < (n_m0_3 : Int))) (
    brB (decide (x_4 < 20)) (
      ixA a_m0_3 n_m0_3 x_4 4 fun q4 =>
      ∀ w5, Adv [] [] w w5 →
      ldBool w5 q4 fun t6 => ldStr w5 (Addr.add q4 1) fun s7 => ldBool w5 (Addr.add q4 2) fun t8 => ldStr w5 (Addr.add q4 3) fun s9 =>
      Calls Try.prog 42 #[(.agg #[(.bool t6), (.string s7), (.bool t8), (.string s9)])] w5 fun e w10 => ∃ t11 : Bool, ∃ s12 : ByteArray, ∃ t13 : Bool, ∃ s14 : ByteArray, e = .returned (.agg #[(.bool t11), (.string s12), (.bool t13), (.string s14)]) ∧ Keep [bm0, bm1, bm2] w5 w10 ∧ (((.slice a_m2_3 n_m2_3 c_m2_3) : Value) = (.slice a_m2_3 n_m2_3 c_m2_3)) ∧
      al w10 (.cells #[(.bool t11), (.string s12), (.bool t13), (.string s14)] 90) fun b15 w16 =>
      effSl Try.prog (Builtin.append_ #[30, 30] 30 #[(.slice a_m2_3 n_m2_3 c_m2_3), (.slice (some ⟨b15, 0, none⟩) 1 1)]) w16 fun a18 n19 c20 w17 => Keep [bm0, bm1, bm2] w16 w17 ∧
      ∀ w21, Adv [bm2] [] w17 w21 →
      K1 (law03_Bound_v1 bm0 bm1 bm2 (IntKind.wrap .i64 (x_4 + 1))) (law03_Bound_m1 bm0 x_m0_0 x_m0_1 x_m0_2 a_m0_3 n_m0_3 c_m0_3 bm1 bm2 x_m2_0 x_m2_1 x_m2_2 a18 n19 c20) w21)
    (
      ∀ w22, Adv [bm1] [] w w22 →
      R (.agg #[(.int .i64 x_m2_0), (.int .i64 x_m2_1), (.int .i64 x_m2_2), (.slice a_m2_3 n_m2_3 c_m2_3)]) w22))
  (
    ∀ w23, Adv [bm1] [] w w23 →
    R (.agg #[(.int .i64 x_m2_0), (.int .i64 x_m2_1), (.int .i64 x_m2_2), (.slice a_m2_3 n_m2_3 c_m2_3)]) w23)
theorem law03_Bound_L1_eq (bm0 : Nat) (x_m0_0 : Int) (x_m0_1 : Int) (x_m0_2 : Int) (a_m0_3 : Option Addr) (n_m0_3 : Nat) (c_m0_3 : Nat) (bm1 : Nat) (bm2 : Nat) (x_m2_0 : Int) (x_m2_1 : Int) (x_m2_2 : Int) (x_4 : Int) (a_m2_3 : Option Addr) (n_m2_3 : Nat) (c_m2_3 : Nat) (K1 : Kh) (js : Nat → Value) (R : Value → World → Prop) (w : World) :
    headA law03_Bound_la1 ((dnF Try.prog law03_Bound_an (code Try.f20) 396 [0, 0, 1, 0, 1, 1]) (kthen3 (atA law03_Bound_la1 K1) (kont3 Try.prog law03_Bound_an (code Try.f20) [1, 1, 0, 1, 0] [] (post3 Try.prog Try.f20 [] R)))) (law03_Bound_v1 bm0 bm1 bm2 x_4) js (law03_Bound_m1 bm0 x_m0_0 x_m0_1 x_m0_2 a_m0_3 n_m0_3 c_m0_3 bm1 bm2 x_m2_0 x_m2_1 x_m2_2 a_m2_3 n_m2_3 c_m2_3) w = law03_Bound_L1 bm0 x_m0_0 x_m0_1 x_m0_2 a_m0_3 n_m0_3 c_m0_3 bm1 bm2 x_m2_0 x_m2_1 x_m2_2 x_4 a_m2_3 n_m2_3 c_m2_3 K1 R w := by kernel_rfl
def law03_Bound_K1 (bm0 : Nat) (x_m0_0 : Int) (x_m0_1 : Int) (x_m0_2 : Int) (a_m0_3 : Option Addr) (n_m0_3 : Nat) (c_m0_3 : Nat) (bm1 : Nat) (bm2 : Nat) (x_m2_0 : Int) (x_m2_1 : Int) (x_m2_2 : Int) (I : Nat → Int → Option Addr → Nat → Nat → World → Prop) (m : Nat) (vals : List Value) (mem : List TB) (w : World) : Prop := ∃ m', m' < m ∧ ∃ x_4 a_m2_3 n_m2_3 c_m2_3, vals = (law03_Bound_v1 bm0 bm1 bm2 x_4) ∧ mem = (law03_Bound_m1 bm0 x_m0_0 x_m0_1 x_m0_2 a_m0_3 n_m0_3 c_m0_3 bm1 bm2 x_m2_0 x_m2_1 x_m2_2 a_m2_3 n_m2_3 c_m2_3) ∧ I m' x_4 a_m2_3 n_m2_3 c_m2_3 w
theorem law03_Bound_leaf1 {bm0 : Nat} {x_m0_0 : Int} {x_m0_1 : Int} {x_m0_2 : Int} {a_m0_3 : Option Addr} {n_m0_3 : Nat} {c_m0_3 : Nat} {bm1 : Nat} {bm2 : Nat} {x_m2_0 : Int} {x_m2_1 : Int} {x_m2_2 : Int} {I : Nat → Int → Option Addr → Nat → Nat → World → Prop} {m : Nat} {x_4 : Int} {a_m2_3 : Option Addr} {n_m2_3 : Nat} {c_m2_3 : Nat} {w : World} (m' : Nat) (h1 : m' < m) (h2 : I m' x_4 a_m2_3 n_m2_3 c_m2_3 w) : law03_Bound_K1 bm0 x_m0_0 x_m0_1 x_m0_2 a_m0_3 n_m0_3 c_m0_3 bm1 bm2 x_m2_0 x_m2_1 x_m2_2 I m (law03_Bound_v1 bm0 bm1 bm2 x_4) (law03_Bound_m1 bm0 x_m0_0 x_m0_1 x_m0_2 a_m0_3 n_m0_3 c_m0_3 bm1 bm2 x_m2_0 x_m2_1 x_m2_2 a_m2_3 n_m2_3 c_m2_3) w := ⟨m', h1, _, _, _, _, rfl, rfl, h2⟩
theorem law03_Bound_rule1 {bm0 : Nat} {x_m0_0 : Int} {x_m0_1 : Int} {x_m0_2 : Int} {a_m0_3 : Option Addr} {n_m0_3 : Nat} {c_m0_3 : Nat} {bm1 : Nat} {bm2 : Nat} {x_m2_0 : Int} {x_m2_1 : Int} {x_m2_2 : Int} {x_40 : Int} {a_m2_30 : Option Addr} {n_m2_30 : Nat} {c_m2_30 : Nat} {R : Value → World → Prop} {w0 : World} (I : Nat → Int → Option Addr → Nat → Nat → World → Prop) (m0 : Nat) (h0 : I m0 x_40 a_m2_30 n_m2_30 c_m2_30 w0)
    (hr : ∀ (m : Nat) (x_4 : Int) (a_m2_3 : Option Addr) (n_m2_3 : Nat) (c_m2_3 : Nat) (w : World), I m x_4 a_m2_3 n_m2_3 c_m2_3 w → law03_Bound_L1 bm0 x_m0_0 x_m0_1 x_m0_2 a_m0_3 n_m0_3 c_m0_3 bm1 bm2 x_m2_0 x_m2_1 x_m2_2 x_4 a_m2_3 n_m2_3 c_m2_3 (law03_Bound_K1 bm0 x_m0_0 x_m0_1 x_m0_2 a_m0_3 n_m0_3 c_m0_3 bm1 bm2 x_m2_0 x_m2_1 x_m2_2 I m) R w) :
    loopD3 law03_Bound_la1 (dnF Try.prog law03_Bound_an (code Try.f20) 396 [0, 0, 1, 0, 1, 1]) (kont3 Try.prog law03_Bound_an (code Try.f20) [1, 1, 0, 1, 0] [] (post3 Try.prog Try.f20 [] R)) (law03_Bound_v1 bm0 bm1 bm2 x_40) (law03_Bound_m1 bm0 x_m0_0 x_m0_1 x_m0_2 a_m0_3 n_m0_3 c_m0_3 bm1 bm2 x_m2_0 x_m2_1 x_m2_2 a_m2_30 n_m2_30 c_m2_30) w0 := by
  refine ⟨fun m vals mem w => ∃ x_4 a_m2_3 n_m2_3 c_m2_3, vals = (law03_Bound_v1 bm0 bm1 bm2 x_4) ∧ mem = (law03_Bound_m1 bm0 x_m0_0 x_m0_1 x_m0_2 a_m0_3 n_m0_3 c_m0_3 bm1 bm2 x_m2_0 x_m2_1 x_m2_2 a_m2_3 n_m2_3 c_m2_3) ∧ I m x_4 a_m2_3 n_m2_3 c_m2_3 w, m0, ⟨_, _, _, _, rfl, rfl, h0⟩, ?_⟩
  rintro m vals mem w ⟨x_4, a_m2_3, n_m2_3, c_m2_3, rfl, rfl, hI⟩
  refine ⟨rfl, rfl, fun js => ?_⟩
  have h := hr m x_4 a_m2_3 n_m2_3 c_m2_3 w hI
  rw [← law03_Bound_L1_eq _ _ _ _ _ _ _ _ _ _ _ _ _ _ _ _ _ js] at h
  exact h
/-- stagecoach/stagecoachlaw03.Bound -/
def law03_Bound_T (a0_b_0 : Int) (a0_b_1 : Int) (a0_b_2 : Int) (a0_b_3_a : Option Addr) (a0_b_3_n : Nat) (a0_b_3_c : Nat) (R : Value → World → Prop) (w : World) : Prop :=
  ∀ b1, w.heap.size ≤ b1 →
  ∀ b2, w.heap.size ≤ b2 →
  ∀ b3, w.heap.size ≤ b3 →
  ∀ w24, Adv [] [b3, b2, b1] w w24 →
  loopD3 law03_Bound_la1 (dnF Try.prog law03_Bound_an (code Try.f20) 396 [0, 0, 1, 0, 1, 1]) (kont3 Try.prog law03_Bound_an (code Try.f20) [1, 1, 0, 1, 0] [] (post3 Try.prog Try.f20 [] R)) (law03_Bound_v1 b1 b2 b3 0) (law03_Bound_m1 b1 a0_b_0 a0_b_1 a0_b_2 a0_b_3_a a0_b_3_n a0_b_3_c b2 b3 a0_b_0 a0_b_1 a0_b_2 none 0 0) w24
theorem law03_Bound_eq (a0_b_0 : Int) (a0_b_1 : Int) (a0_b_2 : Int) (a0_b_3_a : Option Addr) (a0_b_3_n : Nat) (a0_b_3_c : Nat) (R : Value → World → Prop) (w : World) :
    dnF Try.prog law03_Bound_an (code Try.f20) 400 [] (post3 Try.prog Try.f20 [] R) ⟨args0 0 [(.agg #[(.int .i64 a0_b_0), (.int .i64 a0_b_1), (.int .i64 a0_b_2), (.slice a0_b_3_a a0_b_3_n a0_b_3_c)])], fun _ => undef⟩ ⟨[], w, [], [], true⟩ = law03_Bound_T a0_b_0 a0_b_1 a0_b_2 a0_b_3_a a0_b_3_n a0_b_3_c R w := by kernel_rfl
theorem law03_Bound_go {a0_b_0 : Int} {a0_b_1 : Int} {a0_b_2 : Int} {a0_b_3_a : Option Addr} {a0_b_3_n : Nat} {a0_b_3_c : Nat} {R : Value → World → Prop} {w : World} (h : law03_Bound_T a0_b_0 a0_b_1 a0_b_2 a0_b_3_a a0_b_3_n a0_b_3_c R w) :
    Calls Try.prog 20 #[(.agg #[(.int .i64 a0_b_0), (.int .i64 a0_b_1), (.int .i64 a0_b_2), (.slice a0_b_3_a a0_b_3_n a0_b_3_c)])] w fun e w' => ∃ v, e = .returned v ∧ R v w' :=
  calls_none Try.wide_mixed (f := 20) (args := [(.agg #[(.int .i64 a0_b_0), (.int .i64 a0_b_1), (.int .i64 a0_b_2), (.slice a0_b_3_a a0_b_3_n a0_b_3_c)])]) Try.func20 rfl rfl (by kernel_rfl) rfl (Eq.mpr (law03_Bound_eq a0_b_0 a0_b_1 a0_b_2 a0_b_3_a a0_b_3_n a0_b_3_c R w) h)
def law04_Cut_la1 : LA := ⟨[0, 0, 1, 0, 1, 1, 1, 1, 1, 1, 1], [1, 2, 3, 4], [(1, 0, 0), (2, 1, 0), (3, 2, 0)], 3, []⟩
def law04_Cut_an : List LA := [law04_Cut_la1]
def law04_Cut_v1 (bm0 : Nat) (bm1 : Nat) (bm2 : Nat) (x_4 : Int) : List Value := [(.pointer (some ⟨bm0, 0, none⟩)), (.pointer (some ⟨bm1, 0, none⟩)), (.pointer (some ⟨bm2, 0, none⟩)), (.int .i64 x_4)]
def law04_Cut_m1 (bm0 : Nat) (x_m0_0 : Int) (s_m0_1 : ByteArray) (x_m0_2 : Int) (x_m0_3 : Int) (x_m0_4 : Int) (x_m0_5 : Int) (x_m0_6 : Int) (x_m0_7 : Int) (a_m0_8 : Option Addr) (n_m0_8 : Nat) (c_m0_8 : Nat) (s_m0_9 : ByteArray) (s_m0_10 : ByteArray) (x_m0_11 : Int) (t_m0_12 : Bool) (a_m0_13 : Option Addr) (n_m0_13 : Nat) (c_m0_13 : Nat) (bm1 : Nat) (bm2 : Nat) (x_m2_0 : Int) (s_m2_1 : ByteArray) (x_m2_2 : Int) (x_m2_3 : Int) (x_m2_4 : Int) (x_m2_5 : Int) (x_m2_6 : Int) (x_m2_7 : Int) (a_m2_8 : Option Addr) (n_m2_8 : Nat) (c_m2_8 : Nat) (s_m2_9 : ByteArray) (s_m2_10 : ByteArray) (x_m2_11 : Int) (t_m2_12 : Bool) (a_m2_13 : Option Addr) (n_m2_13 : Nat) (c_m2_13 : Nat) : List TB := [⟨bm0, 35, [(.int .i64 x_m0_0), (.string s_m0_1), (.int .i64 x_m0_2), (.int .i64 x_m0_3), (.int .i64 x_m0_4), (.int .i64 x_m0_5), (.int .i64 x_m0_6), (.int .i64 x_m0_7), (.slice a_m0_8 n_m0_8 c_m0_8), (.string s_m0_9), (.string s_m0_10), (.int .i64 x_m0_11), (.bool t_m0_12), (.slice a_m0_13 n_m0_13 c_m0_13)], false⟩, ⟨bm1, 35, [(.int .i64 0), (.string ByteArray.empty), (.int .i64 0), (.int .i64 0), (.int .i64 0), (.int .i64 0), (.int .i64 0), (.int .i64 0), (.slice none 0 0), (.string ByteArray.empty), (.string ByteArray.empty), (.int .i64 0), (.bool false), (.slice none 0 0)], false⟩, ⟨bm2, 35, [(.int .i64 x_m2_0), (.string s_m2_1), (.int .i64 x_m2_2), (.int .i64 x_m2_3), (.int .i64 x_m2_4), (.int .i64 x_m2_5), (.int .i64 x_m2_6), (.int .i64 x_m2_7), (.slice a_m2_8 n_m2_8 c_m2_8), (.string s_m2_9), (.string s_m2_10), (.int .i64 x_m2_11), (.bool t_m2_12), (.slice a_m2_13 n_m2_13 c_m2_13)], false⟩]
def law04_Cut_L1 (bm0 : Nat) (x_m0_0 : Int) (s_m0_1 : ByteArray) (x_m0_2 : Int) (x_m0_3 : Int) (x_m0_4 : Int) (x_m0_5 : Int) (x_m0_6 : Int) (x_m0_7 : Int) (a_m0_8 : Option Addr) (n_m0_8 : Nat) (c_m0_8 : Nat) (s_m0_9 : ByteArray) (s_m0_10 : ByteArray) (x_m0_11 : Int) (t_m0_12 : Bool) (a_m0_13 : Option Addr) (n_m0_13 : Nat) (c_m0_13 : Nat) (bm1 : Nat) (bm2 : Nat) (x_m2_0 : Int) (s_m2_1 : ByteArray) (x_m2_2 : Int) (x_m2_3 : Int) (x_m2_4 : Int) (x_m2_5 : Int) (x_m2_6 : Int) (x_m2_7 : Int) (a_m2_8 : Option Addr) (n_m2_8 : Nat) (c_m2_8 : Nat) (s_m2_9 : ByteArray) (s_m2_10 : ByteArray) (x_m2_11 : Int) (t_m2_12 : Bool) (x_4 : Int) (a_m2_13 : Option Addr) (n_m2_13 : Nat) (c_m2_13 : Nat) (K1 : Kh) (R : Value → World → Prop) (w : World) : Prop :=
  brB (decide (x_4 < (n_m0_13 : Int))) (
    brB (decide (x_4 < 12)) (
      ixA a_m0_13 n_m0_13 x_4 1 fun q15 =>
      ∀ w16, Adv [] [] w w16 →
      ldStr w16 q15 fun s17 =>
      ixA a_m0_13 n_m0_13 x_4 1 fun q18 =>
      ldStr w16 q18 fun s19 =>
      slS s17 0 (if 40 < (s19.size : Int) then 40 else (s19.size : Int)) fun s20 =>
      al w16 (.cells #[(.string s20)] 9) fun b21 w22 =>
      effSl Try.prog (Builtin.append_ #[33, 33] 33 #[(.slice a_m2_13 n_m2_13 c_m2_13), (.slice (some ⟨b21, 0, none⟩) 1 1)]) w22 fun a24 n25 c26 w23 => Keep [bm0, bm1, bm2] w22 w23 ∧
      ∀ w27, Adv [bm2] [] w23 w27 →
      K1 (law04_Cut_v1 bm0 bm1 bm2 (IntKind.wrap .i64 (x_4 + 1))) (law04_Cut_m1 bm0 x_m0_0 s_m0_1 x_m0_2 x_m0_3 x_m0_4 x_m0_5 x_m0_6 x_m0_7 a_m0_8 n_m0_8 c_m0_8 s_m0_9 s_m0_10 x_m0_11 t_m0_12 a_m0_13 n_m0_13 c_m0_13 bm1 bm2 x_m2_0 s_m2_1 x_m2_2 x_m2_3 x_m2_4 x_m2_5 x_m2_6 x_m2_7 a_m2_8 n_m2_8 c_m2_8 s_m2_9 s_m2_10 x_m2_11 t_m2_12 a24 n25 c26) w27)
    (
      ∀ w28, Adv [bm1] [] w w28 →
      R (.agg #[(.int .i64 x_m2_0), (.string s_m2_1), (.int .i64 x_m2_2), (.int .i64 x_m2_3), (.int .i64 x_m2_4), (.int .i64 x_m2_5), (.int .i64 x_m2_6), (.int .i64 x_m2_7), (.slice a_m2_8 n_m2_8 c_m2_8), (.string s_m2_9), (.string s_m2_10), (.int .i64 x_m2_11), (.bool t_m2_12), (.slice a_m2_13 n_m2_13 c_m2_13)]) w28))
  (
    ∀ w29, Adv [bm1] [] w w29 →
    R (.agg #[(.int .i64 x_m2_0), (.string s_m2_1), (.int .i64 x_m2_2), (.int .i64 x_m2_3), (.int .i64 x_m2_4), (.int .i64 x_m2_5), (.int .i64 x_m2_6), (.int .i64 x_m2_7), (.slice a_m2_8 n_m2_8 c_m2_8), (.string s_m2_9), (.string s_m2_10), (.int .i64 x_m2_11), (.bool t_m2_12), (.slice a_m2_13 n_m2_13 c_m2_13)]) w29)
theorem law04_Cut_L1_eq (bm0 : Nat) (x_m0_0 : Int) (s_m0_1 : ByteArray) (x_m0_2 : Int) (x_m0_3 : Int) (x_m0_4 : Int) (x_m0_5 : Int) (x_m0_6 : Int) (x_m0_7 : Int) (a_m0_8 : Option Addr) (n_m0_8 : Nat) (c_m0_8 : Nat) (s_m0_9 : ByteArray) (s_m0_10 : ByteArray) (x_m0_11 : Int) (t_m0_12 : Bool) (a_m0_13 : Option Addr) (n_m0_13 : Nat) (c_m0_13 : Nat) (bm1 : Nat) (bm2 : Nat) (x_m2_0 : Int) (s_m2_1 : ByteArray) (x_m2_2 : Int) (x_m2_3 : Int) (x_m2_4 : Int) (x_m2_5 : Int) (x_m2_6 : Int) (x_m2_7 : Int) (a_m2_8 : Option Addr) (n_m2_8 : Nat) (c_m2_8 : Nat) (s_m2_9 : ByteArray) (s_m2_10 : ByteArray) (x_m2_11 : Int) (t_m2_12 : Bool) (x_4 : Int) (a_m2_13 : Option Addr) (n_m2_13 : Nat) (c_m2_13 : Nat) (K1 : Kh) (js : Nat → Value) (R : Value → World → Prop) (w : World) :
    headA law04_Cut_la1 ((dnF Try.prog law04_Cut_an (code Try.f7) 391 [0, 0, 1, 0, 1, 1, 1, 1, 1, 1, 1]) (kthen3 (atA law04_Cut_la1 K1) (kont3 Try.prog law04_Cut_an (code Try.f7) [1, 1, 1, 1, 1, 1, 1, 0, 1, 0] [] (post3 Try.prog Try.f7 [] R)))) (law04_Cut_v1 bm0 bm1 bm2 x_4) js (law04_Cut_m1 bm0 x_m0_0 s_m0_1 x_m0_2 x_m0_3 x_m0_4 x_m0_5 x_m0_6 x_m0_7 a_m0_8 n_m0_8 c_m0_8 s_m0_9 s_m0_10 x_m0_11 t_m0_12 a_m0_13 n_m0_13 c_m0_13 bm1 bm2 x_m2_0 s_m2_1 x_m2_2 x_m2_3 x_m2_4 x_m2_5 x_m2_6 x_m2_7 a_m2_8 n_m2_8 c_m2_8 s_m2_9 s_m2_10 x_m2_11 t_m2_12 a_m2_13 n_m2_13 c_m2_13) w = law04_Cut_L1 bm0 x_m0_0 s_m0_1 x_m0_2 x_m0_3 x_m0_4 x_m0_5 x_m0_6 x_m0_7 a_m0_8 n_m0_8 c_m0_8 s_m0_9 s_m0_10 x_m0_11 t_m0_12 a_m0_13 n_m0_13 c_m0_13 bm1 bm2 x_m2_0 s_m2_1 x_m2_2 x_m2_3 x_m2_4 x_m2_5 x_m2_6 x_m2_7 a_m2_8 n_m2_8 c_m2_8 s_m2_9 s_m2_10 x_m2_11 t_m2_12 x_4 a_m2_13 n_m2_13 c_m2_13 K1 R w := by kernel_rfl
def law04_Cut_K1 (bm0 : Nat) (x_m0_0 : Int) (s_m0_1 : ByteArray) (x_m0_2 : Int) (x_m0_3 : Int) (x_m0_4 : Int) (x_m0_5 : Int) (x_m0_6 : Int) (x_m0_7 : Int) (a_m0_8 : Option Addr) (n_m0_8 : Nat) (c_m0_8 : Nat) (s_m0_9 : ByteArray) (s_m0_10 : ByteArray) (x_m0_11 : Int) (t_m0_12 : Bool) (a_m0_13 : Option Addr) (n_m0_13 : Nat) (c_m0_13 : Nat) (bm1 : Nat) (bm2 : Nat) (x_m2_0 : Int) (s_m2_1 : ByteArray) (x_m2_2 : Int) (x_m2_3 : Int) (x_m2_4 : Int) (x_m2_5 : Int) (x_m2_6 : Int) (x_m2_7 : Int) (a_m2_8 : Option Addr) (n_m2_8 : Nat) (c_m2_8 : Nat) (s_m2_9 : ByteArray) (s_m2_10 : ByteArray) (x_m2_11 : Int) (t_m2_12 : Bool) (I : Nat → Int → Option Addr → Nat → Nat → World → Prop) (m : Nat) (vals : List Value) (mem : List TB) (w : World) : Prop := ∃ m', m' < m ∧ ∃ x_4 a_m2_13 n_m2_13 c_m2_13, vals = (law04_Cut_v1 bm0 bm1 bm2 x_4) ∧ mem = (law04_Cut_m1 bm0 x_m0_0 s_m0_1 x_m0_2 x_m0_3 x_m0_4 x_m0_5 x_m0_6 x_m0_7 a_m0_8 n_m0_8 c_m0_8 s_m0_9 s_m0_10 x_m0_11 t_m0_12 a_m0_13 n_m0_13 c_m0_13 bm1 bm2 x_m2_0 s_m2_1 x_m2_2 x_m2_3 x_m2_4 x_m2_5 x_m2_6 x_m2_7 a_m2_8 n_m2_8 c_m2_8 s_m2_9 s_m2_10 x_m2_11 t_m2_12 a_m2_13 n_m2_13 c_m2_13) ∧ I m' x_4 a_m2_13 n_m2_13 c_m2_13 w
theorem law04_Cut_leaf1 {bm0 : Nat} {x_m0_0 : Int} {s_m0_1 : ByteArray} {x_m0_2 : Int} {x_m0_3 : Int} {x_m0_4 : Int} {x_m0_5 : Int} {x_m0_6 : Int} {x_m0_7 : Int} {a_m0_8 : Option Addr} {n_m0_8 : Nat} {c_m0_8 : Nat} {s_m0_9 : ByteArray} {s_m0_10 : ByteArray} {x_m0_11 : Int} {t_m0_12 : Bool} {a_m0_13 : Option Addr} {n_m0_13 : Nat} {c_m0_13 : Nat} {bm1 : Nat} {bm2 : Nat} {x_m2_0 : Int} {s_m2_1 : ByteArray} {x_m2_2 : Int} {x_m2_3 : Int} {x_m2_4 : Int} {x_m2_5 : Int} {x_m2_6 : Int} {x_m2_7 : Int} {a_m2_8 : Option Addr} {n_m2_8 : Nat} {c_m2_8 : Nat} {s_m2_9 : ByteArray} {s_m2_10 : ByteArray} {x_m2_11 : Int} {t_m2_12 : Bool} {I : Nat → Int → Option Addr → Nat → Nat → World → Prop} {m : Nat} {x_4 : Int} {a_m2_13 : Option Addr} {n_m2_13 : Nat} {c_m2_13 : Nat} {w : World} (m' : Nat) (h1 : m' < m) (h2 : I m' x_4 a_m2_13 n_m2_13 c_m2_13 w) : law04_Cut_K1 bm0 x_m0_0 s_m0_1 x_m0_2 x_m0_3 x_m0_4 x_m0_5 x_m0_6 x_m0_7 a_m0_8 n_m0_8 c_m0_8 s_m0_9 s_m0_10 x_m0_11 t_m0_12 a_m0_13 n_m0_13 c_m0_13 bm1 bm2 x_m2_0 s_m2_1 x_m2_2 x_m2_3 x_m2_4 x_m2_5 x_m2_6 x_m2_7 a_m2_8 n_m2_8 c_m2_8 s_m2_9 s_m2_10 x_m2_11 t_m2_12 I m (law04_Cut_v1 bm0 bm1 bm2 x_4) (law04_Cut_m1 bm0 x_m0_0 s_m0_1 x_m0_2 x_m0_3 x_m0_4 x_m0_5 x_m0_6 x_m0_7 a_m0_8 n_m0_8 c_m0_8 s_m0_9 s_m0_10 x_m0_11 t_m0_12 a_m0_13 n_m0_13 c_m0_13 bm1 bm2 x_m2_0 s_m2_1 x_m2_2 x_m2_3 x_m2_4 x_m2_5 x_m2_6 x_m2_7 a_m2_8 n_m2_8 c_m2_8 s_m2_9 s_m2_10 x_m2_11 t_m2_12 a_m2_13 n_m2_13 c_m2_13) w := ⟨m', h1, _, _, _, _, rfl, rfl, h2⟩
theorem law04_Cut_rule1 {bm0 : Nat} {x_m0_0 : Int} {s_m0_1 : ByteArray} {x_m0_2 : Int} {x_m0_3 : Int} {x_m0_4 : Int} {x_m0_5 : Int} {x_m0_6 : Int} {x_m0_7 : Int} {a_m0_8 : Option Addr} {n_m0_8 : Nat} {c_m0_8 : Nat} {s_m0_9 : ByteArray} {s_m0_10 : ByteArray} {x_m0_11 : Int} {t_m0_12 : Bool} {a_m0_13 : Option Addr} {n_m0_13 : Nat} {c_m0_13 : Nat} {bm1 : Nat} {bm2 : Nat} {x_m2_0 : Int} {s_m2_1 : ByteArray} {x_m2_2 : Int} {x_m2_3 : Int} {x_m2_4 : Int} {x_m2_5 : Int} {x_m2_6 : Int} {x_m2_7 : Int} {a_m2_8 : Option Addr} {n_m2_8 : Nat} {c_m2_8 : Nat} {s_m2_9 : ByteArray} {s_m2_10 : ByteArray} {x_m2_11 : Int} {t_m2_12 : Bool} {x_40 : Int} {a_m2_130 : Option Addr} {n_m2_130 : Nat} {c_m2_130 : Nat} {R : Value → World → Prop} {w0 : World} (I : Nat → Int → Option Addr → Nat → Nat → World → Prop) (m0 : Nat) (h0 : I m0 x_40 a_m2_130 n_m2_130 c_m2_130 w0)
    (hr : ∀ (m : Nat) (x_4 : Int) (a_m2_13 : Option Addr) (n_m2_13 : Nat) (c_m2_13 : Nat) (w : World), I m x_4 a_m2_13 n_m2_13 c_m2_13 w → law04_Cut_L1 bm0 x_m0_0 s_m0_1 x_m0_2 x_m0_3 x_m0_4 x_m0_5 x_m0_6 x_m0_7 a_m0_8 n_m0_8 c_m0_8 s_m0_9 s_m0_10 x_m0_11 t_m0_12 a_m0_13 n_m0_13 c_m0_13 bm1 bm2 x_m2_0 s_m2_1 x_m2_2 x_m2_3 x_m2_4 x_m2_5 x_m2_6 x_m2_7 a_m2_8 n_m2_8 c_m2_8 s_m2_9 s_m2_10 x_m2_11 t_m2_12 x_4 a_m2_13 n_m2_13 c_m2_13 (law04_Cut_K1 bm0 x_m0_0 s_m0_1 x_m0_2 x_m0_3 x_m0_4 x_m0_5 x_m0_6 x_m0_7 a_m0_8 n_m0_8 c_m0_8 s_m0_9 s_m0_10 x_m0_11 t_m0_12 a_m0_13 n_m0_13 c_m0_13 bm1 bm2 x_m2_0 s_m2_1 x_m2_2 x_m2_3 x_m2_4 x_m2_5 x_m2_6 x_m2_7 a_m2_8 n_m2_8 c_m2_8 s_m2_9 s_m2_10 x_m2_11 t_m2_12 I m) R w) :
    loopD3 law04_Cut_la1 (dnF Try.prog law04_Cut_an (code Try.f7) 391 [0, 0, 1, 0, 1, 1, 1, 1, 1, 1, 1]) (kont3 Try.prog law04_Cut_an (code Try.f7) [1, 1, 1, 1, 1, 1, 1, 0, 1, 0] [] (post3 Try.prog Try.f7 [] R)) (law04_Cut_v1 bm0 bm1 bm2 x_40) (law04_Cut_m1 bm0 x_m0_0 s_m0_1 x_m0_2 x_m0_3 x_m0_4 x_m0_5 x_m0_6 x_m0_7 a_m0_8 n_m0_8 c_m0_8 s_m0_9 s_m0_10 x_m0_11 t_m0_12 a_m0_13 n_m0_13 c_m0_13 bm1 bm2 x_m2_0 s_m2_1 x_m2_2 x_m2_3 x_m2_4 x_m2_5 x_m2_6 x_m2_7 a_m2_8 n_m2_8 c_m2_8 s_m2_9 s_m2_10 x_m2_11 t_m2_12 a_m2_130 n_m2_130 c_m2_130) w0 := by
  refine ⟨fun m vals mem w => ∃ x_4 a_m2_13 n_m2_13 c_m2_13, vals = (law04_Cut_v1 bm0 bm1 bm2 x_4) ∧ mem = (law04_Cut_m1 bm0 x_m0_0 s_m0_1 x_m0_2 x_m0_3 x_m0_4 x_m0_5 x_m0_6 x_m0_7 a_m0_8 n_m0_8 c_m0_8 s_m0_9 s_m0_10 x_m0_11 t_m0_12 a_m0_13 n_m0_13 c_m0_13 bm1 bm2 x_m2_0 s_m2_1 x_m2_2 x_m2_3 x_m2_4 x_m2_5 x_m2_6 x_m2_7 a_m2_8 n_m2_8 c_m2_8 s_m2_9 s_m2_10 x_m2_11 t_m2_12 a_m2_13 n_m2_13 c_m2_13) ∧ I m x_4 a_m2_13 n_m2_13 c_m2_13 w, m0, ⟨_, _, _, _, rfl, rfl, h0⟩, ?_⟩
  rintro m vals mem w ⟨x_4, a_m2_13, n_m2_13, c_m2_13, rfl, rfl, hI⟩
  refine ⟨rfl, rfl, fun js => ?_⟩
  have h := hr m x_4 a_m2_13 n_m2_13 c_m2_13 w hI
  rw [← law04_Cut_L1_eq _ _ _ _ _ _ _ _ _ _ _ _ _ _ _ _ _ _ _ _ _ _ _ _ _ _ _ _ _ _ _ _ _ _ _ _ _ _ _ _ _ js] at h
  exact h
/-- stagecoach/stagecoachlaw04.Cut -/
def law04_Cut_T (a0_o_0 : Int) (a0_o_1 : ByteArray) (a0_o_2 : Int) (a0_o_3 : Int) (a0_o_4 : Int) (a0_o_5 : Int) (a0_o_6 : Int) (a0_o_7 : Int) (a0_o_8_a : Option Addr) (a0_o_8_n : Nat) (a0_o_8_c : Nat) (a0_o_9 : ByteArray) (a0_o_10 : ByteArray) (a0_o_11 : Int) (a0_o_12 : Bool) (a0_o_13_a : Option Addr) (a0_o_13_n : Nat) (a0_o_13_c : Nat) (R : Value → World → Prop) (w : World) : Prop :=
  ∀ b1, w.heap.size ≤ b1 →
  ∀ b2, w.heap.size ≤ b2 →
  ∀ b3, w.heap.size ≤ b3 →
  slS a0_o_1 0 (if 40 < (a0_o_1.size : Int) then 40 else (a0_o_1.size : Int)) fun s4 =>
  slS a0_o_9 0 (if 40 < (a0_o_9.size : Int) then 40 else (a0_o_9.size : Int)) fun s5 =>
  slS a0_o_10 0 (if 40 < (a0_o_10.size : Int) then 40 else (a0_o_10.size : Int)) fun s6 =>
  ∀ w7, Adv [] [b3, b2, b1] w w7 →
  Calls Try.prog 20 #[(.agg #[(.int .i64 a0_o_5), (.int .i64 a0_o_6), (.int .i64 a0_o_7), (.slice a0_o_8_a a0_o_8_n a0_o_8_c)])] w7 fun e w8 => ∃ x9 : Int, ∃ x10 : Int, ∃ x11 : Int, ∃ (a12 : Option Addr) (n13 c14 : Nat), e = .returned (.agg #[(.int .i64 x9), (.int .i64 x10), (.int .i64 x11), (.slice a12 n13 c14)]) ∧ Keep [b1, b2, b3] w7 w8 ∧
  ∀ w30, Adv [b3] [] w8 w30 →
  loopD3 law04_Cut_la1 (dnF Try.prog law04_Cut_an (code Try.f7) 391 [0, 0, 1, 0, 1, 1, 1, 1, 1, 1, 1]) (kont3 Try.prog law04_Cut_an (code Try.f7) [1, 1, 1, 1, 1, 1, 1, 0, 1, 0] [] (post3 Try.prog Try.f7 [] R)) (law04_Cut_v1 b1 b2 b3 0) (law04_Cut_m1 b1 a0_o_0 a0_o_1 a0_o_2 a0_o_3 a0_o_4 a0_o_5 a0_o_6 a0_o_7 a0_o_8_a a0_o_8_n a0_o_8_c a0_o_9 a0_o_10 a0_o_11 a0_o_12 a0_o_13_a a0_o_13_n a0_o_13_c b2 b3 a0_o_0 s4 a0_o_2 a0_o_3 a0_o_4 x9 x10 x11 a12 n13 c14 s5 s6 a0_o_11 a0_o_12 none 0 0) w30
theorem law04_Cut_eq (a0_o_0 : Int) (a0_o_1 : ByteArray) (a0_o_2 : Int) (a0_o_3 : Int) (a0_o_4 : Int) (a0_o_5 : Int) (a0_o_6 : Int) (a0_o_7 : Int) (a0_o_8_a : Option Addr) (a0_o_8_n : Nat) (a0_o_8_c : Nat) (a0_o_9 : ByteArray) (a0_o_10 : ByteArray) (a0_o_11 : Int) (a0_o_12 : Bool) (a0_o_13_a : Option Addr) (a0_o_13_n : Nat) (a0_o_13_c : Nat) (R : Value → World → Prop) (w : World) :
    dnF Try.prog law04_Cut_an (code Try.f7) 400 [] (post3 Try.prog Try.f7 [] R) ⟨args0 0 [(.agg #[(.int .i64 a0_o_0), (.string a0_o_1), (.int .i64 a0_o_2), (.int .i64 a0_o_3), (.int .i64 a0_o_4), (.int .i64 a0_o_5), (.int .i64 a0_o_6), (.int .i64 a0_o_7), (.slice a0_o_8_a a0_o_8_n a0_o_8_c), (.string a0_o_9), (.string a0_o_10), (.int .i64 a0_o_11), (.bool a0_o_12), (.slice a0_o_13_a a0_o_13_n a0_o_13_c)])], fun _ => undef⟩ ⟨[], w, [], [], true⟩ = law04_Cut_T a0_o_0 a0_o_1 a0_o_2 a0_o_3 a0_o_4 a0_o_5 a0_o_6 a0_o_7 a0_o_8_a a0_o_8_n a0_o_8_c a0_o_9 a0_o_10 a0_o_11 a0_o_12 a0_o_13_a a0_o_13_n a0_o_13_c R w := by kernel_rfl
theorem law04_Cut_go {a0_o_0 : Int} {a0_o_1 : ByteArray} {a0_o_2 : Int} {a0_o_3 : Int} {a0_o_4 : Int} {a0_o_5 : Int} {a0_o_6 : Int} {a0_o_7 : Int} {a0_o_8_a : Option Addr} {a0_o_8_n : Nat} {a0_o_8_c : Nat} {a0_o_9 : ByteArray} {a0_o_10 : ByteArray} {a0_o_11 : Int} {a0_o_12 : Bool} {a0_o_13_a : Option Addr} {a0_o_13_n : Nat} {a0_o_13_c : Nat} {R : Value → World → Prop} {w : World} (h : law04_Cut_T a0_o_0 a0_o_1 a0_o_2 a0_o_3 a0_o_4 a0_o_5 a0_o_6 a0_o_7 a0_o_8_a a0_o_8_n a0_o_8_c a0_o_9 a0_o_10 a0_o_11 a0_o_12 a0_o_13_a a0_o_13_n a0_o_13_c R w) :
    Calls Try.prog 7 #[(.agg #[(.int .i64 a0_o_0), (.string a0_o_1), (.int .i64 a0_o_2), (.int .i64 a0_o_3), (.int .i64 a0_o_4), (.int .i64 a0_o_5), (.int .i64 a0_o_6), (.int .i64 a0_o_7), (.slice a0_o_8_a a0_o_8_n a0_o_8_c), (.string a0_o_9), (.string a0_o_10), (.int .i64 a0_o_11), (.bool a0_o_12), (.slice a0_o_13_a a0_o_13_n a0_o_13_c)])] w fun e w' => ∃ v, e = .returned v ∧ R v w' :=
  calls_none Try.wide_mixed (f := 7) (args := [(.agg #[(.int .i64 a0_o_0), (.string a0_o_1), (.int .i64 a0_o_2), (.int .i64 a0_o_3), (.int .i64 a0_o_4), (.int .i64 a0_o_5), (.int .i64 a0_o_6), (.int .i64 a0_o_7), (.slice a0_o_8_a a0_o_8_n a0_o_8_c), (.string a0_o_9), (.string a0_o_10), (.int .i64 a0_o_11), (.bool a0_o_12), (.slice a0_o_13_a a0_o_13_n a0_o_13_c)])]) Try.func7 rfl rfl (by kernel_rfl) rfl (Eq.mpr (law04_Cut_eq a0_o_0 a0_o_1 a0_o_2 a0_o_3 a0_o_4 a0_o_5 a0_o_6 a0_o_7 a0_o_8_a a0_o_8_n a0_o_8_c a0_o_9 a0_o_10 a0_o_11 a0_o_12 a0_o_13_a a0_o_13_n a0_o_13_c R w) h)
def law22_tick_an : List LA := []
/-- stagecoach/stagecoachlaw22.tick -/
def law22_tick_T (R : Value → World → Prop) (w : World) : Prop :=
  ∀ b1, w.heap.size ≤ b1 →
  ∀ w2, Adv [] [b1] w w2 →
  R (.agg #[(.int .i64 12), (.string ByteArray.empty), (.int .i64 0), (.int .i64 1), (.int .i64 0), (.int .i64 0), (.int .i64 0), (.int .i64 0), (.slice none 0 0), (.string ByteArray.empty), (.string ByteArray.empty), (.int .i64 0), (.bool false), (.slice none 0 0)]) w2
theorem law22_tick_eq (R : Value → World → Prop) (w : World) :
    dnF Try.prog law22_tick_an (code Try.f16) 400 [] (post3 Try.prog Try.f16 [] R) ⟨args0 0 [], fun _ => undef⟩ ⟨[], w, [], [], true⟩ = law22_tick_T R w := by kernel_rfl
theorem law22_tick_go {R : Value → World → Prop} {w : World} (h : law22_tick_T R w) :
    Calls Try.prog 16 #[] w fun e w' => ∃ v, e = .returned v ∧ R v w' :=
  calls_none Try.wide_mixed (f := 16) (args := []) Try.func16 rfl rfl (by kernel_rfl) rfl (Eq.mpr (law22_tick_eq R w) h)
def law22_fixed_an : List LA := []
/-- stagecoach/stagecoachlaw22.fixed -/
def law22_fixed_T (R : Value → World → Prop) (w : World) : Prop :=
  Calls Try.prog 6 #[(.int .i64 5), (.int .i64 3)] w fun e w1 => ∃ p2 : Option Addr, ∃ x3 : Int, e = .returned (.tuple #[(.pointer p2), (.int .i64 x3)]) ∧
  brB (Option.isNone p2) (
    R (.bool false) w1)
  (
    brB (x3 != 0) (
      R (.bool false) w1)
    (
      Calls Try.prog 16 #[] w1 fun e w4 => ∃ x5 : Int, ∃ s6 : ByteArray, ∃ x7 : Int, ∃ x8 : Int, ∃ x9 : Int, ∃ x10 : Int, ∃ x11 : Int, ∃ x12 : Int, ∃ (a13 : Option Addr) (n14 c15 : Nat), ∃ s16 : ByteArray, ∃ s17 : ByteArray, ∃ x18 : Int, ∃ t19 : Bool, ∃ (a20 : Option Addr) (n21 c22 : Nat), e = .returned (.agg #[(.int .i64 x5), (.string s6), (.int .i64 x7), (.int .i64 x8), (.int .i64 x9), (.int .i64 x10), (.int .i64 x11), (.int .i64 x12), (.slice a13 n14 c15), (.string s16), (.string s17), (.int .i64 x18), (.bool t19), (.slice a20 n21 c22)]) ∧
      Calls Try.prog 9 #[(.pointer p2), (.agg #[(.int .i64 x5), (.string s6), (.int .i64 x7), (.int .i64 x8), (.int .i64 x9), (.int .i64 x10), (.int .i64 x11), (.int .i64 x12), (.slice a13 n14 c15), (.string s16), (.string s17), (.int .i64 x18), (.bool t19), (.slice a20 n21 c22)])] w4 fun e w23 => ∃ x24 : Int, ∃ x25 : Int, ∃ x26 : Int, ∃ x27 : Int, ∃ x28 : Int, ∃ x29 : Int, ∃ x30 : Int, ∃ x31 : Int, ∃ x32 : Int, ∃ x33 : Int, ∃ (a34 : Option Addr) (n35 c36 : Nat), ∃ x37 : Int, ∃ x38 : Int, ∃ x39 : Int, ∃ x40 : Int, ∃ (a41 : Option Addr) (n42 c43 : Nat), ∃ (a44 : Option Addr) (n45 c46 : Nat), ∃ x47 : Int, e = .returned (.tuple #[(.agg #[(.int .i64 x24), (.int .i64 x25), (.int .i64 x26), (.int .i64 x27), (.int .i64 x28), (.int .i64 x29), (.int .i64 x30), (.int .i64 x31), (.int .i64 x32), (.int .i64 x33), (.slice a34 n35 c36), (.int .i64 x37), (.int .i64 x38), (.int .i64 x39), (.int .i64 x40), (.slice a41 n42 c43), (.slice a44 n45 c46)]), (.int .i64 x47)]) ∧
      ∀ b48, w23.heap.size ≤ b48 →
      ∀ w49, Adv [] [b48] w23 w49 →
      Calls Try.prog 16 #[] w49 fun e w50 => ∃ x51 : Int, ∃ s52 : ByteArray, ∃ x53 : Int, ∃ x54 : Int, ∃ x55 : Int, ∃ x56 : Int, ∃ x57 : Int, ∃ x58 : Int, ∃ (a59 : Option Addr) (n60 c61 : Nat), ∃ s62 : ByteArray, ∃ s63 : ByteArray, ∃ x64 : Int, ∃ t65 : Bool, ∃ (a66 : Option Addr) (n67 c68 : Nat), e = .returned (.agg #[(.int .i64 x51), (.string s52), (.int .i64 x53), (.int .i64 x54), (.int .i64 x55), (.int .i64 x56), (.int .i64 x57), (.int .i64 x58), (.slice a59 n60 c61), (.string s62), (.string s63), (.int .i64 x64), (.bool t65), (.slice a66 n67 c68)]) ∧ Keep [b48] w49 w50 ∧
      Calls Try.prog 9 #[(.pointer p2), (.agg #[(.int .i64 x51), (.string s52), (.int .i64 x53), (.int .i64 x54), (.int .i64 x55), (.int .i64 x56), (.int .i64 x57), (.int .i64 x58), (.slice a59 n60 c61), (.string s62), (.string s63), (.int .i64 x64), (.bool t65), (.slice a66 n67 c68)])] w50 fun e w69 => ∃ x70 : Int, ∃ x71 : Int, ∃ x72 : Int, ∃ x73 : Int, ∃ x74 : Int, ∃ x75 : Int, ∃ x76 : Int, ∃ x77 : Int, ∃ x78 : Int, ∃ x79 : Int, ∃ (a80 : Option Addr) (n81 c82 : Nat), ∃ x83 : Int, ∃ x84 : Int, ∃ x85 : Int, ∃ x86 : Int, ∃ (a87 : Option Addr) (n88 c89 : Nat), ∃ (a90 : Option Addr) (n91 c92 : Nat), ∃ x93 : Int, e = .returned (.tuple #[(.agg #[(.int .i64 x70), (.int .i64 x71), (.int .i64 x72), (.int .i64 x73), (.int .i64 x74), (.int .i64 x75), (.int .i64 x76), (.int .i64 x77), (.int .i64 x78), (.int .i64 x79), (.slice a80 n81 c82), (.int .i64 x83), (.int .i64 x84), (.int .i64 x85), (.int .i64 x86), (.slice a87 n88 c89), (.slice a90 n91 c92)]), (.int .i64 x93)]) ∧ Keep [b48] w50 w69 ∧
      ∀ b94, w69.heap.size ≤ b94 →
      ∀ w95, Adv [] [b94] w69 w95 →
      Calls Try.prog 13 #[(.pointer p2)] w95 fun e w96 => ∃ (a97 : Option Addr) (n98 c99 : Nat), e = .returned (.slice a97 n98 c99) ∧ Keep [b48, b94] w95 w96 ∧
      Calls Try.prog 11 #[(.pointer p2), (.agg #[(.int .i64 1), (.int .i64 0), (.int .i64 5), (.int .i64 0), (.int .i64 0), (.int .i64 0), (.int .i64 0), (.int .i64 0), (.int .i64 0), (.int .i64 2), (.slice none 0 0), (.int .i64 0), (.int .i64 0), (.int .i64 0), (.int .i64 0), (.slice none 0 0), (.slice none 0 0)])] w96 fun e w100 => ∃ x101 : Int, ∃ x102 : Int, ∃ x103 : Int, ∃ x104 : Int, ∃ (a105 : Option Addr) (n106 c107 : Nat), ∃ (a108 : Option Addr) (n109 c110 : Nat), ∃ t111 : Bool, e = .returned (.tuple #[(.agg #[(.int .i64 x101), (.int .i64 x102), (.int .i64 x103), (.int .i64 x104), (.slice a105 n106 c107), (.slice a108 n109 c110)]), (.bool t111)]) ∧ Keep [b48, b94] w96 w100 ∧
      ∀ b112, w100.heap.size ≤ b112 →
      ∀ w113, Adv [] [b112] w100 w113 →
      Calls Try.prog 12 #[(.pointer p2)] w113 fun e w114 => ∃ x115 : Int, ∃ x116 : Int, ∃ x117 : Int, ∃ s118 : ByteArray, ∃ x119 : Int, ∃ x120 : Int, ∃ x121 : Int, ∃ x122 : Int, ∃ x123 : Int, ∃ x124 : Int, ∃ (a125 : Option Addr) (n126 c127 : Nat), ∃ s128 : ByteArray, ∃ s129 : ByteArray, ∃ x130 : Int, ∃ t131 : Bool, ∃ (a132 : Option Addr) (n133 c134 : Nat), ∃ t135 : Bool, e = .returned (.tuple #[(.agg #[(.int .i64 x115), (.int .i64 x116), (.int .i64 x117), (.string s118), (.int .i64 x119), (.int .i64 x120), (.int .i64 x121), (.int .i64 x122), (.int .i64 x123), (.int .i64 x124), (.slice a125 n126 c127), (.string s128), (.string s129), (.int .i64 x130), (.bool t131), (.slice a132 n133 c134)]), (.bool t135)]) ∧ Keep [b48, b94, b112] w113 w114 ∧
      ∀ b136, w114.heap.size ≤ b136 →
      ∀ w137, Adv [] [b136] w114 w137 →
      Calls Try.prog 11 #[(.pointer p2), (.agg #[(.int .i64 1), (.int .i64 0), (.int .i64 5), (.int .i64 4), (.int .i64 0), (.int .i64 0), (.int .i64 0), (.int .i64 0), (.int .i64 0), (.int .i64 1), (.slice none 0 0), (.int .i64 0), (.int .i64 7), (.int .i64 0), (.int .i64 0), (.slice none 0 0), (.slice none 0 0)])] w137 fun e w138 => ∃ x139 : Int, ∃ x140 : Int, ∃ x141 : Int, ∃ x142 : Int, ∃ (a143 : Option Addr) (n144 c145 : Nat), ∃ (a146 : Option Addr) (n147 c148 : Nat), ∃ t149 : Bool, e = .returned (.tuple #[(.agg #[(.int .i64 x139), (.int .i64 x140), (.int .i64 x141), (.int .i64 x142), (.slice a143 n144 c145), (.slice a146 n147 c148)]), (.bool t149)]) ∧ Keep [b48, b94, b112, b136] w137 w138 ∧
      ∀ b150, w138.heap.size ≤ b150 →
      ∀ w151, Adv [] [b150] w138 w151 →
      Calls Try.prog 11 #[(.pointer p2), (.agg #[(.int .i64 1), (.int .i64 0), (.int .i64 5), (.int .i64 0), (.int .i64 0), (.int .i64 0), (.int .i64 0), (.int .i64 0), (.int .i64 0), (.int .i64 1), (.slice none 0 0), (.int .i64 0), (.int .i64 0), (.int .i64 0), (.int .i64 0), (.slice none 0 0), (.slice none 0 0)])] w151 fun e w152 => ∃ x153 : Int, ∃ x154 : Int, ∃ x155 : Int, ∃ x156 : Int, ∃ (a157 : Option Addr) (n158 c159 : Nat), ∃ (a160 : Option Addr) (n161 c162 : Nat), ∃ t163 : Bool, e = .returned (.tuple #[(.agg #[(.int .i64 x153), (.int .i64 x154), (.int .i64 x155), (.int .i64 x156), (.slice a157 n158 c159), (.slice a160 n161 c162)]), (.bool t163)]) ∧ Keep [b48, b94, b112, b136, b150] w151 w152 ∧
      ∀ b164, w152.heap.size ≤ b164 →
      ∀ w165, Adv [] [b164] w152 w165 →
      Calls Try.prog 16 #[] w165 fun e w166 => ∃ x167 : Int, ∃ s168 : ByteArray, ∃ x169 : Int, ∃ x170 : Int, ∃ x171 : Int, ∃ x172 : Int, ∃ x173 : Int, ∃ x174 : Int, ∃ (a175 : Option Addr) (n176 c177 : Nat), ∃ s178 : ByteArray, ∃ s179 : ByteArray, ∃ x180 : Int, ∃ t181 : Bool, ∃ (a182 : Option Addr) (n183 c184 : Nat), e = .returned (.agg #[(.int .i64 x167), (.string s168), (.int .i64 x169), (.int .i64 x170), (.int .i64 x171), (.int .i64 x172), (.int .i64 x173), (.int .i64 x174), (.slice a175 n176 c177), (.string s178), (.string s179), (.int .i64 x180), (.bool t181), (.slice a182 n183 c184)]) ∧ Keep [b48, b94, b112, b136, b150, b164] w165 w166 ∧
      Calls Try.prog 9 #[(.pointer p2), (.agg #[(.int .i64 x167), (.string s168), (.int .i64 x169), (.int .i64 x170), (.int .i64 x171), (.int .i64 x172), (.int .i64 x173), (.int .i64 x174), (.slice a175 n176 c177), (.string s178), (.string s179), (.int .i64 x180), (.bool t181), (.slice a182 n183 c184)])] w166 fun e w185 => ∃ x186 : Int, ∃ x187 : Int, ∃ x188 : Int, ∃ x189 : Int, ∃ x190 : Int, ∃ x191 : Int, ∃ x192 : Int, ∃ x193 : Int, ∃ x194 : Int, ∃ x195 : Int, ∃ (a196 : Option Addr) (n197 c198 : Nat), ∃ x199 : Int, ∃ x200 : Int, ∃ x201 : Int, ∃ x202 : Int, ∃ (a203 : Option Addr) (n204 c205 : Nat), ∃ (a206 : Option Addr) (n207 c208 : Nat), ∃ x209 : Int, e = .returned (.tuple #[(.agg #[(.int .i64 x186), (.int .i64 x187), (.int .i64 x188), (.int .i64 x189), (.int .i64 x190), (.int .i64 x191), (.int .i64 x192), (.int .i64 x193), (.int .i64 x194), (.int .i64 x195), (.slice a196 n197 c198), (.int .i64 x199), (.int .i64 x200), (.int .i64 x201), (.int .i64 x202), (.slice a203 n204 c205), (.slice a206 n207 c208)]), (.int .i64 x209)]) ∧ Keep [b48, b94, b112, b136, b150, b164] w166 w185 ∧
      ∀ b210, w185.heap.size ≤ b210 →
      ∀ w211, Adv [] [b210] w185 w211 →
      Calls Try.prog 9 #[(.pointer p2), (.agg #[(.int .i64 (-1)), (.string ByteArray.empty), (.int .i64 0), (.int .i64 0), (.int .i64 0), (.int .i64 0), (.int .i64 0), (.int .i64 0), (.slice none 0 0), (.string ByteArray.empty), (.string ByteArray.empty), (.int .i64 0), (.bool false), (.slice none 0 0)])] w211 fun e w212 => ∃ x213 : Int, ∃ x214 : Int, ∃ x215 : Int, ∃ x216 : Int, ∃ x217 : Int, ∃ x218 : Int, ∃ x219 : Int, ∃ x220 : Int, ∃ x221 : Int, ∃ x222 : Int, ∃ (a223 : Option Addr) (n224 c225 : Nat), ∃ x226 : Int, ∃ x227 : Int, ∃ x228 : Int, ∃ x229 : Int, ∃ (a230 : Option Addr) (n231 c232 : Nat), ∃ (a233 : Option Addr) (n234 c235 : Nat), ∃ x236 : Int, e = .returned (.tuple #[(.agg #[(.int .i64 x213), (.int .i64 x214), (.int .i64 x215), (.int .i64 x216), (.int .i64 x217), (.int .i64 x218), (.int .i64 x219), (.int .i64 x220), (.int .i64 x221), (.int .i64 x222), (.slice a223 n224 c225), (.int .i64 x226), (.int .i64 x227), (.int .i64 x228), (.int .i64 x229), (.slice a230 n231 c232), (.slice a233 n234 c235)]), (.int .i64 x236)]) ∧ Keep [b48, b94, b112, b136, b150, b164, b210] w211 w212 ∧
      ∀ b237, w212.heap.size ≤ b237 →
      ∀ w238, Adv [] [b237] w212 w238 →
      Calls Try.prog 6 #[(.int .i64 0), (.int .i64 3)] w238 fun e w239 => ∃ p240 : Option Addr, ∃ x241 : Int, e = .returned (.tuple #[(.pointer p240), (.int .i64 x241)]) ∧ Keep [b48, b94, b112, b136, b150, b164, b210, b237] w238 w239 ∧
      Calls Try.prog 6 #[(.int .i64 1), (.int .i64 8)] w239 fun e w242 => ∃ p243 : Option Addr, ∃ x244 : Int, e = .returned (.tuple #[(.pointer p243), (.int .i64 x244)]) ∧ Keep [b48, b94, b112, b136, b150, b164, b210, b237] w239 w242 ∧
      brB (x47 == 0) (
        brB (x24 == 0) (
          brB (x25 == 5) (
            brB (x26 == 0) (
              brB ((n35 : Int) == 1) (
                brB (x93 == 220) (
                  brB ((n98 : Int) == 3) (
                    ixA a97 n98 2 17 fun q245 =>
                    ldInt .i64 w242 (Addr.add q245 2) fun x246 =>
                    brB (x246 == 2) (
                      brB (!t111) (
                        brB t135 (
                          brB (x116 == 1) (
                            brB t149 (
                              brB (x140 == 7) (
                                brB (!t163) (
                                  brB (x188 == 1) (
                                    brB (x209 == 0) (
                                      brB (x236 == 41) (
                                        brB (x241 == 1) (
                                          brB (x244 == 1) (
                                            Calls Try.prog 14 #[(.pointer p2)] w242 fun e w247 => ∃ x248 : Int, e = .returned (.int .i64 x248) ∧ Keep [b48, b94, b112, b136, b150, b164, b210, b237] w242 w247 ∧
                                            R (.bool (x248 == 4)) w247)
                                          (
                                            R (.bool false) w242))
                                        (
                                          R (.bool false) w242))
                                      (
                                        R (.bool false) w242))
                                    (
                                      R (.bool false) w242))
                                  (
                                    R (.bool false) w242))
                                (
                                  R (.bool false) w242))
                              (
                                R (.bool false) w242))
                            (
                              R (.bool false) w242))
                          (
                            R (.bool false) w242))
                        (
                          R (.bool false) w242))
                      (
                        R (.bool false) w242))
                    (
                      R (.bool false) w242))
                  (
                    R (.bool false) w242))
                (
                  R (.bool false) w242))
              (
                R (.bool false) w242))
            (
              R (.bool false) w242))
          (
            R (.bool false) w242))
        (
          R (.bool false) w242))
      (
        R (.bool false) w242)))
theorem law22_fixed_eq (R : Value → World → Prop) (w : World) :
    dnF Try.prog law22_fixed_an (code Try.f15) 400 [] (post3 Try.prog Try.f15 [] R) ⟨args0 0 [], fun _ => undef⟩ ⟨[], w, [], [], true⟩ = law22_fixed_T R w := by kernel_rfl
theorem law22_fixed_go {R : Value → World → Prop} {w : World} (h : law22_fixed_T R w) :
    Calls Try.prog 15 #[] w fun e w' => ∃ v, e = .returned v ∧ R v w' :=
  calls_none Try.wide_mixed (f := 15) (args := []) Try.func15 rfl rfl (by kernel_rfl) rfl (Eq.mpr (law22_fixed_eq R w) h)
def law22_SessionOnce_la1 : LA := ⟨[0, 0, 1, 0, 1, 1, 1, 1], [0, 1, 5, 7, 8], [], 0, []⟩
def law22_SessionOnce_la2 : LA := ⟨[1, 1, 1, 1, 1, 1, 0, 0, 1, 0, 0, 1, 0, 1, 1, 1, 1], [0, 1, 5, 7, 8], [], 2, []⟩
def law22_SessionOnce_an : List LA := [law22_SessionOnce_la1, law22_SessionOnce_la2]
def law22_SessionOnce_v1 (a_0 : Option Addr) (n_0 : Nat) (c_0 : Nat) (a_1 : Option Addr) (n_1 : Nat) (c_1 : Nat) (p_5 : Option Addr) (x_7 : Int) (x_8 : Int) : List Value := [(.slice a_0 n_0 c_0), (.slice a_1 n_1 c_1), (.pointer p_5), (.int .i64 x_7), (.int .i64 x_8)]
def law22_SessionOnce_m1 : List TB := []
def law22_SessionOnce_v2 (a_0 : Option Addr) (n_0 : Nat) (c_0 : Nat) (a_1 : Option Addr) (n_1 : Nat) (c_1 : Nat) (p_5 : Option Addr) (x_7 : Int) (x_8 : Int) : List Value := [(.slice a_0 n_0 c_0), (.slice a_1 n_1 c_1), (.pointer p_5), (.int .i64 x_7), (.int .i64 x_8)]
def law22_SessionOnce_m2 (bm0 : Nat) (x_m0_0 : Int) (s_m0_1 : ByteArray) (x_m0_2 : Int) (x_m0_3 : Int) (x_m0_4 : Int) (x_m0_5 : Int) (x_m0_6 : Int) (x_m0_7 : Int) (a_m0_8 : Option Addr) (n_m0_8 : Nat) (c_m0_8 : Nat) (s_m0_9 : ByteArray) (s_m0_10 : ByteArray) (x_m0_11 : Int) (t_m0_12 : Bool) (a_m0_13 : Option Addr) (n_m0_13 : Nat) (c_m0_13 : Nat) (bm1 : Nat) (x_m1_0 : Int) (x_m1_1 : Int) (x_m1_2 : Int) (x_m1_3 : Int) (x_m1_4 : Int) (x_m1_5 : Int) (x_m1_6 : Int) (x_m1_7 : Int) (x_m1_8 : Int) (x_m1_9 : Int) (a_m1_10 : Option Addr) (n_m1_10 : Nat) (c_m1_10 : Nat) (x_m1_11 : Int) (x_m1_12 : Int) (x_m1_13 : Int) (x_m1_14 : Int) (a_m1_15 : Option Addr) (n_m1_15 : Nat) (c_m1_15 : Nat) (a_m1_16 : Option Addr) (n_m1_16 : Nat) (c_m1_16 : Nat) : List TB := [⟨bm0, 35, [(.int .i64 x_m0_0), (.string s_m0_1), (.int .i64 x_m0_2), (.int .i64 x_m0_3), (.int .i64 x_m0_4), (.int .i64 x_m0_5), (.int .i64 x_m0_6), (.int .i64 x_m0_7), (.slice a_m0_8 n_m0_8 c_m0_8), (.string s_m0_9), (.string s_m0_10), (.int .i64 x_m0_11), (.bool t_m0_12), (.slice a_m0_13 n_m0_13 c_m0_13)], false⟩, ⟨bm1, 44, [(.int .i64 x_m1_0), (.int .i64 x_m1_1), (.int .i64 x_m1_2), (.int .i64 x_m1_3), (.int .i64 x_m1_4), (.int .i64 x_m1_5), (.int .i64 x_m1_6), (.int .i64 x_m1_7), (.int .i64 x_m1_8), (.int .i64 x_m1_9), (.slice a_m1_10 n_m1_10 c_m1_10), (.int .i64 x_m1_11), (.int .i64 x_m1_12), (.int .i64 x_m1_13), (.int .i64 x_m1_14), (.slice a_m1_15 n_m1_15 c_m1_15), (.slice a_m1_16 n_m1_16 c_m1_16)], false⟩]
def law22_SessionOnce_L1 (a_0 : Option Addr) (n_0 : Nat) (c_0 : Nat) (a_1 : Option Addr) (n_1 : Nat) (c_1 : Nat) (p_5 : Option Addr) (x_7 : Int) (x_8 : Int) (K1 : Kh) (R : Value → World → Prop) (w : World) : Prop :=
  brB (decide (x_8 < (n_0 : Int))) (
    brB (decide (x_8 < 40)) (
      ixA a_0 n_0 x_8 14 fun q4 =>
      ldInt .i64 w q4 fun x5 => ldStr w (Addr.add q4 1) fun s6 => ldInt .i64 w (Addr.add q4 2) fun x7 => ldInt .i64 w (Addr.add q4 3) fun x8 => ldInt .i64 w (Addr.add q4 4) fun x9 => ldInt .i64 w (Addr.add q4 5) fun x10 => ldInt .i64 w (Addr.add q4 6) fun x11 => ldInt .i64 w (Addr.add q4 7) fun x12 => ldSlice w (Addr.add q4 8) fun a13 n14 c15 => ldStr w (Addr.add q4 9) fun s16 => ldStr w (Addr.add q4 10) fun s17 => ldInt .i64 w (Addr.add q4 11) fun x18 => ldBool w (Addr.add q4 12) fun t19 => ldSlice w (Addr.add q4 13) fun a20 n21 c22 =>
      Calls Try.prog 7 #[(.agg #[(.int .i64 x5), (.string s6), (.int .i64 x7), (.int .i64 x8), (.int .i64 x9), (.int .i64 x10), (.int .i64 x11), (.int .i64 x12), (.slice a13 n14 c15), (.string s16), (.string s17), (.int .i64 x18), (.bool t19), (.slice a20 n21 c22)])] w fun e w23 => ∃ x24 : Int, ∃ s25 : ByteArray, ∃ x26 : Int, ∃ x27 : Int, ∃ x28 : Int, ∃ x29 : Int, ∃ x30 : Int, ∃ x31 : Int, ∃ (a32 : Option Addr) (n33 c34 : Nat), ∃ s35 : ByteArray, ∃ s36 : ByteArray, ∃ x37 : Int, ∃ t38 : Bool, ∃ (a39 : Option Addr) (n40 c41 : Nat), e = .returned (.agg #[(.int .i64 x24), (.string s25), (.int .i64 x26), (.int .i64 x27), (.int .i64 x28), (.int .i64 x29), (.int .i64 x30), (.int .i64 x31), (.slice a32 n33 c34), (.string s35), (.string s36), (.int .i64 x37), (.bool t38), (.slice a39 n40 c41)]) ∧
      ∀ b42, w23.heap.size ≤ b42 →
      ∀ w43, Adv [] [b42] w23 w43 →
      Calls Try.prog 8 #[(.agg #[(.int .i64 x24), (.string s25), (.int .i64 x26), (.int .i64 x27), (.int .i64 x28), (.int .i64 x29), (.int .i64 x30), (.int .i64 x31), (.slice a32 n33 c34), (.string s35), (.string s36), (.int .i64 x37), (.bool t38), (.slice a39 n40 c41)])] w43 fun e w44 => ∃ x45 : Int, e = .returned (.int .i64 x45) ∧ Keep [b42] w43 w44 ∧
      brB (x45 != 0) (
        K1 (law22_SessionOnce_v1 a_0 n_0 c_0 a_1 n_1 c_1 p_5 x_7 (IntKind.wrap .i64 (x_8 + 1))) (law22_SessionOnce_m1) w44)
      (
        Calls Try.prog 9 #[(.pointer p_5), (.agg #[(.int .i64 x24), (.string s25), (.int .i64 x26), (.int .i64 x27), (.int .i64 x28), (.int .i64 x29), (.int .i64 x30), (.int .i64 x31), (.slice a32 n33 c34), (.string s35), (.string s36), (.int .i64 x37), (.bool t38), (.slice a39 n40 c41)])] w44 fun e w46 => ∃ x47 : Int, ∃ x48 : Int, ∃ x49 : Int, ∃ x50 : Int, ∃ x51 : Int, ∃ x52 : Int, ∃ x53 : Int, ∃ x54 : Int, ∃ x55 : Int, ∃ x56 : Int, ∃ (a57 : Option Addr) (n58 c59 : Nat), ∃ x60 : Int, ∃ x61 : Int, ∃ x62 : Int, ∃ x63 : Int, ∃ (a64 : Option Addr) (n65 c66 : Nat), ∃ (a67 : Option Addr) (n68 c69 : Nat), ∃ x70 : Int, e = .returned (.tuple #[(.agg #[(.int .i64 x47), (.int .i64 x48), (.int .i64 x49), (.int .i64 x50), (.int .i64 x51), (.int .i64 x52), (.int .i64 x53), (.int .i64 x54), (.int .i64 x55), (.int .i64 x56), (.slice a57 n58 c59), (.int .i64 x60), (.int .i64 x61), (.int .i64 x62), (.int .i64 x63), (.slice a64 n65 c66), (.slice a67 n68 c69)]), (.int .i64 x70)]) ∧ Keep [b42] w44 w46 ∧
        ∀ b71, w46.heap.size ≤ b71 →
        brB (x70 != 0) (
          ∀ w72, Adv [] [b71] w46 w72 →
          R (.bool false) w72)
        (
          brB ((n58 : Int) != 1) (
            ∀ w73, Adv [] [b71] w46 w73 →
            R (.bool false) w73)
          (
            ixA a57 n58 0 16 fun q74 =>
            ∀ w75, Adv [] [b71] w46 w75 →
            ldInt .i64 w75 (Addr.add q74 1) fun x76 =>
            brB (x76 != (IntKind.wrap .i64 (x_7 + 1))) (
              R (.bool false) w75)
            (
              ixA a57 n58 0 16 fun q77 =>
              ldInt .i64 w75 (Addr.add q77 2) fun x78 => ldStr w75 (Addr.add (Addr.add q77 2) 1) fun s79 => ldInt .i64 w75 (Addr.add (Addr.add q77 2) 2) fun x80 => ldInt .i64 w75 (Addr.add (Addr.add q77 2) 3) fun x81 => ldInt .i64 w75 (Addr.add (Addr.add q77 2) 4) fun x82 => ldInt .i64 w75 (Addr.add (Addr.add q77 2) 5) fun x83 => ldInt .i64 w75 (Addr.add (Addr.add q77 2) 6) fun x84 => ldInt .i64 w75 (Addr.add (Addr.add q77 2) 7) fun x85 => ldSlice w75 (Addr.add (Addr.add q77 2) 8) fun a86 n87 c88 => ldStr w75 (Addr.add (Addr.add q77 2) 9) fun s89 => ldStr w75 (Addr.add (Addr.add q77 2) 10) fun s90 => ldInt .i64 w75 (Addr.add (Addr.add q77 2) 11) fun x91 => ldBool w75 (Addr.add (Addr.add q77 2) 12) fun t92 => ldSlice w75 (Addr.add (Addr.add q77 2) 13) fun a93 n94 c95 =>
              Calls Try.prog 10 #[(.agg #[(.int .i64 x78), (.string s79), (.int .i64 x80), (.int .i64 x81), (.int .i64 x82), (.int .i64 x83), (.int .i64 x84), (.int .i64 x85), (.slice a86 n87 c88), (.string s89), (.string s90), (.int .i64 x91), (.bool t92), (.slice a93 n94 c95)]), (.agg #[(.int .i64 x24), (.string s25), (.int .i64 x26), (.int .i64 x27), (.int .i64 x28), (.int .i64 x29), (.int .i64 x30), (.int .i64 x31), (.slice a32 n33 c34), (.string s35), (.string s36), (.int .i64 x37), (.bool t38), (.slice a39 n40 c41)])] w75 fun e w96 => ∃ t97 : Bool, e = .returned (.bool t97) ∧ Keep [b42, b71] w75 w96 ∧
              brB (!t97) (
                R (.bool false) w96)
              (
                brB (decide (x_8 < (n_1 : Int))) (
                  ixA a_1 n_1 x_8 1 fun q98 =>
                  ldInt .i64 w96 q98 fun x99 =>
                  brB (decide ((bAnd .i64 x99 65535) < (IntKind.wrap .i64 (x_7 + 1)))) (
                    ixA a_1 n_1 x_8 1 fun q100 =>
                    ldInt .i64 w96 q100 fun x101 =>
                    Calls Try.prog 11 #[(.pointer p_5), (.agg #[(.int .i64 1), (.int .i64 0), (.int .i64 3), (.int .i64 0), (.int .i64 0), (.int .i64 0), (.int .i64 0), (.int .i64 0), (.int .i64 0), (.int .i64 (bAnd .i64 x101 65535)), (.slice none 0 0), (.int .i64 0), (.int .i64 0), (.int .i64 0), (.int .i64 0), (.slice none 0 0), (.slice none 0 0)])] w96 fun e w102 => ∃ x103 : Int, ∃ x104 : Int, ∃ x105 : Int, ∃ x106 : Int, ∃ (a107 : Option Addr) (n108 c109 : Nat), ∃ (a110 : Option Addr) (n111 c112 : Nat), ∃ t113 : Bool, e = .returned (.tuple #[(.agg #[(.int .i64 x103), (.int .i64 x104), (.int .i64 x105), (.int .i64 x106), (.slice a107 n108 c109), (.slice a110 n111 c112)]), (.bool t113)]) ∧ Keep [b42, b71] w96 w102 ∧
                    ∀ b114, w102.heap.size ≤ b114 →
                    brB t113 (
                      ∀ w115, Adv [] [b114] w102 w115 →
                      R (.bool false) w115)
                    (
                      ∀ w178, Adv [] [b114] w102 w178 →
                      cutD3 law22_SessionOnce_la2 ((dnF Try.prog law22_SessionOnce_an (code Try.f3) 387 [1, 1, 1, 1, 1, 1, 0, 0, 1, 0, 0, 1, 0, 1, 1, 1, 1]) (kont3 Try.prog law22_SessionOnce_an (code Try.f3) [1, 1, 1, 1, 0, 1, 0, 0, 1, 0, 0, 1, 1, 1, 1, 1] [K1] (post3 Try.prog Try.f3 [] R))) (law22_SessionOnce_v2 a_0 n_0 c_0 a_1 n_1 c_1 p_5 (IntKind.wrap .i64 (x_7 + 1)) x_8) (law22_SessionOnce_m2 b42 x24 s25 x26 x27 x28 x29 x30 x31 a32 n33 c34 s35 s36 x37 t38 a39 n40 c41 b71 x47 x48 x49 x50 x51 x52 x53 x54 x55 x56 a57 n58 c59 x60 x61 x62 x63 a64 n65 c66 a67 n68 c69) w178))
                  (
                    cutD3 law22_SessionOnce_la2 ((dnF Try.prog law22_SessionOnce_an (code Try.f3) 387 [1, 1, 1, 1, 1, 1, 0, 0, 1, 0, 0, 1, 0, 1, 1, 1, 1]) (kont3 Try.prog law22_SessionOnce_an (code Try.f3) [1, 1, 1, 1, 0, 1, 0, 0, 1, 0, 0, 1, 1, 1, 1, 1] [K1] (post3 Try.prog Try.f3 [] R))) (law22_SessionOnce_v2 a_0 n_0 c_0 a_1 n_1 c_1 p_5 (IntKind.wrap .i64 (x_7 + 1)) x_8) (law22_SessionOnce_m2 b42 x24 s25 x26 x27 x28 x29 x30 x31 a32 n33 c34 s35 s36 x37 t38 a39 n40 c41 b71 x47 x48 x49 x50 x51 x52 x53 x54 x55 x56 a57 n58 c59 x60 x61 x62 x63 a64 n65 c66 a67 n68 c69) w96))
                (
                  cutD3 law22_SessionOnce_la2 ((dnF Try.prog law22_SessionOnce_an (code Try.f3) 387 [1, 1, 1, 1, 1, 1, 0, 0, 1, 0, 0, 1, 0, 1, 1, 1, 1]) (kont3 Try.prog law22_SessionOnce_an (code Try.f3) [1, 1, 1, 1, 0, 1, 0, 0, 1, 0, 0, 1, 1, 1, 1, 1] [K1] (post3 Try.prog Try.f3 [] R))) (law22_SessionOnce_v2 a_0 n_0 c_0 a_1 n_1 c_1 p_5 (IntKind.wrap .i64 (x_7 + 1)) x_8) (law22_SessionOnce_m2 b42 x24 s25 x26 x27 x28 x29 x30 x31 a32 n33 c34 s35 s36 x37 t38 a39 n40 c41 b71 x47 x48 x49 x50 x51 x52 x53 x54 x55 x56 a57 n58 c59 x60 x61 x62 x63 a64 n65 c66 a67 n68 c69) w96)))))))
    (
      Calls Try.prog 15 #[] w fun e w179 => ∃ t180 : Bool, e = .returned (.bool t180) ∧
      R (.bool t180) w179))
  (
    Calls Try.prog 15 #[] w fun e w181 => ∃ t182 : Bool, e = .returned (.bool t182) ∧
    R (.bool t182) w181)
theorem law22_SessionOnce_L1_eq (a_0 : Option Addr) (n_0 : Nat) (c_0 : Nat) (a_1 : Option Addr) (n_1 : Nat) (c_1 : Nat) (p_5 : Option Addr) (x_7 : Int) (x_8 : Int) (K1 : Kh) (js : Nat → Value) (R : Value → World → Prop) (w : World) :
    headA law22_SessionOnce_la1 ((dnF Try.prog law22_SessionOnce_an (code Try.f3) 394 [0, 0, 1, 0, 1, 1, 1, 1]) (kthen3 (atA law22_SessionOnce_la1 K1) (kont3 Try.prog law22_SessionOnce_an (code Try.f3) [1, 1, 1, 1, 0, 1, 0] [] (post3 Try.prog Try.f3 [] R)))) (law22_SessionOnce_v1 a_0 n_0 c_0 a_1 n_1 c_1 p_5 x_7 x_8) js (law22_SessionOnce_m1) w = law22_SessionOnce_L1 a_0 n_0 c_0 a_1 n_1 c_1 p_5 x_7 x_8 K1 R w := by kernel_rfl
def law22_SessionOnce_K1 (a_0 : Option Addr) (n_0 : Nat) (c_0 : Nat) (a_1 : Option Addr) (n_1 : Nat) (c_1 : Nat) (p_5 : Option Addr) (I : Nat → Int → Int → World → Prop) (m : Nat) (vals : List Value) (mem : List TB) (w : World) : Prop := ∃ m', m' < m ∧ ∃ x_7 x_8, vals = (law22_SessionOnce_v1 a_0 n_0 c_0 a_1 n_1 c_1 p_5 x_7 x_8) ∧ mem = (law22_SessionOnce_m1) ∧ I m' x_7 x_8 w
theorem law22_SessionOnce_leaf1 {a_0 : Option Addr} {n_0 : Nat} {c_0 : Nat} {a_1 : Option Addr} {n_1 : Nat} {c_1 : Nat} {p_5 : Option Addr} {I : Nat → Int → Int → World → Prop} {m : Nat} {x_7 : Int} {x_8 : Int} {w : World} (m' : Nat) (h1 : m' < m) (h2 : I m' x_7 x_8 w) : law22_SessionOnce_K1 a_0 n_0 c_0 a_1 n_1 c_1 p_5 I m (law22_SessionOnce_v1 a_0 n_0 c_0 a_1 n_1 c_1 p_5 x_7 x_8) (law22_SessionOnce_m1) w := ⟨m', h1, _, _, rfl, rfl, h2⟩
theorem law22_SessionOnce_rule1 {a_0 : Option Addr} {n_0 : Nat} {c_0 : Nat} {a_1 : Option Addr} {n_1 : Nat} {c_1 : Nat} {p_5 : Option Addr} {x_70 : Int} {x_80 : Int} {R : Value → World → Prop} {w0 : World} (I : Nat → Int → Int → World → Prop) (m0 : Nat) (h0 : I m0 x_70 x_80 w0)
    (hr : ∀ (m : Nat) (x_7 : Int) (x_8 : Int) (w : World), I m x_7 x_8 w → law22_SessionOnce_L1 a_0 n_0 c_0 a_1 n_1 c_1 p_5 x_7 x_8 (law22_SessionOnce_K1 a_0 n_0 c_0 a_1 n_1 c_1 p_5 I m) R w) :
    loopD3 law22_SessionOnce_la1 (dnF Try.prog law22_SessionOnce_an (code Try.f3) 394 [0, 0, 1, 0, 1, 1, 1, 1]) (kont3 Try.prog law22_SessionOnce_an (code Try.f3) [1, 1, 1, 1, 0, 1, 0] [] (post3 Try.prog Try.f3 [] R)) (law22_SessionOnce_v1 a_0 n_0 c_0 a_1 n_1 c_1 p_5 x_70 x_80) (law22_SessionOnce_m1) w0 := by
  refine ⟨fun m vals mem w => ∃ x_7 x_8, vals = (law22_SessionOnce_v1 a_0 n_0 c_0 a_1 n_1 c_1 p_5 x_7 x_8) ∧ mem = (law22_SessionOnce_m1) ∧ I m x_7 x_8 w, m0, ⟨_, _, rfl, rfl, h0⟩, ?_⟩
  rintro m vals mem w ⟨x_7, x_8, rfl, rfl, hI⟩
  refine ⟨rfl, rfl, fun js => ?_⟩
  have h := hr m x_7 x_8 w hI
  rw [← law22_SessionOnce_L1_eq _ _ _ _ _ _ _ _ _ _ js] at h
  exact h
def law22_SessionOnce_C2 (a_0 : Option Addr) (n_0 : Nat) (c_0 : Nat) (a_1 : Option Addr) (n_1 : Nat) (c_1 : Nat) (p_5 : Option Addr) (x_7 : Int) (x_8 : Int) (bm0 : Nat) (x_m0_0 : Int) (s_m0_1 : ByteArray) (x_m0_2 : Int) (x_m0_3 : Int) (x_m0_4 : Int) (x_m0_5 : Int) (x_m0_6 : Int) (x_m0_7 : Int) (a_m0_8 : Option Addr) (n_m0_8 : Nat) (c_m0_8 : Nat) (s_m0_9 : ByteArray) (s_m0_10 : ByteArray) (x_m0_11 : Int) (t_m0_12 : Bool) (a_m0_13 : Option Addr) (n_m0_13 : Nat) (c_m0_13 : Nat) (bm1 : Nat) (x_m1_0 : Int) (x_m1_1 : Int) (x_m1_2 : Int) (x_m1_3 : Int) (x_m1_4 : Int) (x_m1_5 : Int) (x_m1_6 : Int) (x_m1_7 : Int) (x_m1_8 : Int) (x_m1_9 : Int) (a_m1_10 : Option Addr) (n_m1_10 : Nat) (c_m1_10 : Nat) (x_m1_11 : Int) (x_m1_12 : Int) (x_m1_13 : Int) (x_m1_14 : Int) (a_m1_15 : Option Addr) (n_m1_15 : Nat) (c_m1_15 : Nat) (a_m1_16 : Option Addr) (n_m1_16 : Nat) (c_m1_16 : Nat) (K1 : Kh) (R : Value → World → Prop) (w : World) : Prop :=
  Calls Try.prog 11 #[(.pointer p_5), (.agg #[(.int .i64 1), (.int .i64 0), (.int .i64 3), (.int .i64 x_8), (.int .i64 0), (.int .i64 0), (.int .i64 0), (.int .i64 0), (.int .i64 0), (.int .i64 x_7), (.slice none 0 0), (.int .i64 0), (.int .i64 x_7), (.int .i64 0), (.int .i64 0), (.slice none 0 0), (.slice none 0 0)])] w fun e w116 => ∃ x117 : Int, ∃ x118 : Int, ∃ x119 : Int, ∃ x120 : Int, ∃ (a121 : Option Addr) (n122 c123 : Nat), ∃ (a124 : Option Addr) (n125 c126 : Nat), ∃ t127 : Bool, e = .returned (.tuple #[(.agg #[(.int .i64 x117), (.int .i64 x118), (.int .i64 x119), (.int .i64 x120), (.slice a121 n122 c123), (.slice a124 n125 c126)]), (.bool t127)]) ∧ Keep [bm0, bm1] w w116 ∧
  ∀ b128, w116.heap.size ≤ b128 →
  ∀ w129, Adv [] [b128] w116 w129 →
  Calls Try.prog 11 #[(.pointer p_5), (.agg #[(.int .i64 1), (.int .i64 0), (.int .i64 3), (.int .i64 x_8), (.int .i64 0), (.int .i64 0), (.int .i64 0), (.int .i64 0), (.int .i64 0), (.int .i64 x_7), (.slice none 0 0), (.int .i64 0), (.int .i64 x_7), (.int .i64 0), (.int .i64 0), (.slice none 0 0), (.slice none 0 0)])] w129 fun e w130 => ∃ x131 : Int, ∃ x132 : Int, ∃ x133 : Int, ∃ x134 : Int, ∃ (a135 : Option Addr) (n136 c137 : Nat), ∃ (a138 : Option Addr) (n139 c140 : Nat), ∃ t141 : Bool, e = .returned (.tuple #[(.agg #[(.int .i64 x131), (.int .i64 x132), (.int .i64 x133), (.int .i64 x134), (.slice a135 n136 c137), (.slice a138 n139 c140)]), (.bool t141)]) ∧ Keep [bm0, bm1, b128] w129 w130 ∧
  ∀ b142, w130.heap.size ≤ b142 →
  ∀ w143, Adv [] [b142] w130 w143 →
  Calls Try.prog 12 #[(.pointer p_5)] w143 fun e w144 => ∃ x145 : Int, ∃ x146 : Int, ∃ x147 : Int, ∃ s148 : ByteArray, ∃ x149 : Int, ∃ x150 : Int, ∃ x151 : Int, ∃ x152 : Int, ∃ x153 : Int, ∃ x154 : Int, ∃ (a155 : Option Addr) (n156 c157 : Nat), ∃ s158 : ByteArray, ∃ s159 : ByteArray, ∃ x160 : Int, ∃ t161 : Bool, ∃ (a162 : Option Addr) (n163 c164 : Nat), ∃ t165 : Bool, e = .returned (.tuple #[(.agg #[(.int .i64 x145), (.int .i64 x146), (.int .i64 x147), (.string s148), (.int .i64 x149), (.int .i64 x150), (.int .i64 x151), (.int .i64 x152), (.int .i64 x153), (.int .i64 x154), (.slice a155 n156 c157), (.string s158), (.string s159), (.int .i64 x160), (.bool t161), (.slice a162 n163 c164)]), (.bool t165)]) ∧ Keep [bm0, bm1, b128, b142] w143 w144 ∧
  ∀ b166, w144.heap.size ≤ b166 →
  brB (!t127) (
    ∀ w167, Adv [] [b166] w144 w167 →
    R (.bool false) w167)
  (
    brB (x118 != x_7) (
      ∀ w168, Adv [] [b166] w144 w168 →
      R (.bool false) w168)
    (
      brB t141 (
        ∀ w169, Adv [] [b166] w144 w169 →
        R (.bool false) w169)
      (
        brB t165 (
          ∀ w170, Adv [] [b166] w144 w170 →
          R (.bool false) w170)
        (
          ∀ w171, Adv [] [b166] w144 w171 →
          Calls Try.prog 13 #[(.pointer p_5)] w171 fun e w172 => ∃ (a173 : Option Addr) (n174 c175 : Nat), e = .returned (.slice a173 n174 c175) ∧ Keep [bm0, bm1, b128, b142, b166] w171 w172 ∧
          brB ((n174 : Int) != 0) (
            R (.bool false) w172)
          (
            Calls Try.prog 14 #[(.pointer p_5)] w172 fun e w176 => ∃ x177 : Int, e = .returned (.int .i64 x177) ∧ Keep [bm0, bm1, b128, b142, b166] w172 w176 ∧
            brB (x177 != x_8) (
              R (.bool false) w176)
            (
              K1 (law22_SessionOnce_v1 a_0 n_0 c_0 a_1 n_1 c_1 p_5 x_7 (IntKind.wrap .i64 (x_8 + 1))) (law22_SessionOnce_m1) w176))))))
theorem law22_SessionOnce_C2_eq (a_0 : Option Addr) (n_0 : Nat) (c_0 : Nat) (a_1 : Option Addr) (n_1 : Nat) (c_1 : Nat) (p_5 : Option Addr) (x_7 : Int) (x_8 : Int) (bm0 : Nat) (x_m0_0 : Int) (s_m0_1 : ByteArray) (x_m0_2 : Int) (x_m0_3 : Int) (x_m0_4 : Int) (x_m0_5 : Int) (x_m0_6 : Int) (x_m0_7 : Int) (a_m0_8 : Option Addr) (n_m0_8 : Nat) (c_m0_8 : Nat) (s_m0_9 : ByteArray) (s_m0_10 : ByteArray) (x_m0_11 : Int) (t_m0_12 : Bool) (a_m0_13 : Option Addr) (n_m0_13 : Nat) (c_m0_13 : Nat) (bm1 : Nat) (x_m1_0 : Int) (x_m1_1 : Int) (x_m1_2 : Int) (x_m1_3 : Int) (x_m1_4 : Int) (x_m1_5 : Int) (x_m1_6 : Int) (x_m1_7 : Int) (x_m1_8 : Int) (x_m1_9 : Int) (a_m1_10 : Option Addr) (n_m1_10 : Nat) (c_m1_10 : Nat) (x_m1_11 : Int) (x_m1_12 : Int) (x_m1_13 : Int) (x_m1_14 : Int) (a_m1_15 : Option Addr) (n_m1_15 : Nat) (c_m1_15 : Nat) (a_m1_16 : Option Addr) (n_m1_16 : Nat) (c_m1_16 : Nat) (K1 : Kh) (js : Nat → Value) (R : Value → World → Prop) (w : World) :
    headA law22_SessionOnce_la2 ((dnF Try.prog law22_SessionOnce_an (code Try.f3) 387 [1, 1, 1, 1, 1, 1, 0, 0, 1, 0, 0, 1, 0, 1, 1, 1, 1]) (kont3 Try.prog law22_SessionOnce_an (code Try.f3) [1, 1, 1, 1, 0, 1, 0, 0, 1, 0, 0, 1, 1, 1, 1, 1] [K1] (post3 Try.prog Try.f3 [] R))) (law22_SessionOnce_v2 a_0 n_0 c_0 a_1 n_1 c_1 p_5 x_7 x_8) js (law22_SessionOnce_m2 bm0 x_m0_0 s_m0_1 x_m0_2 x_m0_3 x_m0_4 x_m0_5 x_m0_6 x_m0_7 a_m0_8 n_m0_8 c_m0_8 s_m0_9 s_m0_10 x_m0_11 t_m0_12 a_m0_13 n_m0_13 c_m0_13 bm1 x_m1_0 x_m1_1 x_m1_2 x_m1_3 x_m1_4 x_m1_5 x_m1_6 x_m1_7 x_m1_8 x_m1_9 a_m1_10 n_m1_10 c_m1_10 x_m1_11 x_m1_12 x_m1_13 x_m1_14 a_m1_15 n_m1_15 c_m1_15 a_m1_16 n_m1_16 c_m1_16) w = law22_SessionOnce_C2 a_0 n_0 c_0 a_1 n_1 c_1 p_5 x_7 x_8 bm0 x_m0_0 s_m0_1 x_m0_2 x_m0_3 x_m0_4 x_m0_5 x_m0_6 x_m0_7 a_m0_8 n_m0_8 c_m0_8 s_m0_9 s_m0_10 x_m0_11 t_m0_12 a_m0_13 n_m0_13 c_m0_13 bm1 x_m1_0 x_m1_1 x_m1_2 x_m1_3 x_m1_4 x_m1_5 x_m1_6 x_m1_7 x_m1_8 x_m1_9 a_m1_10 n_m1_10 c_m1_10 x_m1_11 x_m1_12 x_m1_13 x_m1_14 a_m1_15 n_m1_15 c_m1_15 a_m1_16 n_m1_16 c_m1_16 K1 R w := by kernel_rfl
theorem law22_SessionOnce_cut2 {a_00 : Option Addr} {n_00 : Nat} {c_00 : Nat} {a_10 : Option Addr} {n_10 : Nat} {c_10 : Nat} {p_50 : Option Addr} {x_70 : Int} {x_80 : Int} {bm00 : Nat} {x_m0_00 : Int} {s_m0_10 : ByteArray} {x_m0_20 : Int} {x_m0_30 : Int} {x_m0_40 : Int} {x_m0_50 : Int} {x_m0_60 : Int} {x_m0_70 : Int} {a_m0_80 : Option Addr} {n_m0_80 : Nat} {c_m0_80 : Nat} {s_m0_90 : ByteArray} {s_m0_100 : ByteArray} {x_m0_110 : Int} {t_m0_120 : Bool} {a_m0_130 : Option Addr} {n_m0_130 : Nat} {c_m0_130 : Nat} {bm10 : Nat} {x_m1_00 : Int} {x_m1_10 : Int} {x_m1_20 : Int} {x_m1_30 : Int} {x_m1_40 : Int} {x_m1_50 : Int} {x_m1_60 : Int} {x_m1_70 : Int} {x_m1_80 : Int} {x_m1_90 : Int} {a_m1_100 : Option Addr} {n_m1_100 : Nat} {c_m1_100 : Nat} {x_m1_110 : Int} {x_m1_120 : Int} {x_m1_130 : Int} {x_m1_140 : Int} {a_m1_150 : Option Addr} {n_m1_150 : Nat} {c_m1_150 : Nat} {a_m1_160 : Option Addr} {n_m1_160 : Nat} {c_m1_160 : Nat} {K1 : Kh} {R : Value → World → Prop} {w0 : World} (J : Option Addr → Nat → Nat → Option Addr → Nat → Nat → Option Addr → Int → Int → Nat → Int → ByteArray → Int → Int → Int → Int → Int → Int → Option Addr → Nat → Nat → ByteArray → ByteArray → Int → Bool → Option Addr → Nat → Nat → Nat → Int → Int → Int → Int → Int → Int → Int → Int → Int → Int → Option Addr → Nat → Nat → Int → Int → Int → Int → Option Addr → Nat → Nat → Option Addr → Nat → Nat → World → Prop) (h0 : J a_00 n_00 c_00 a_10 n_10 c_10 p_50 x_70 x_80 bm00 x_m0_00 s_m0_10 x_m0_20 x_m0_30 x_m0_40 x_m0_50 x_m0_60 x_m0_70 a_m0_80 n_m0_80 c_m0_80 s_m0_90 s_m0_100 x_m0_110 t_m0_120 a_m0_130 n_m0_130 c_m0_130 bm10 x_m1_00 x_m1_10 x_m1_20 x_m1_30 x_m1_40 x_m1_50 x_m1_60 x_m1_70 x_m1_80 x_m1_90 a_m1_100 n_m1_100 c_m1_100 x_m1_110 x_m1_120 x_m1_130 x_m1_140 a_m1_150 n_m1_150 c_m1_150 a_m1_160 n_m1_160 c_m1_160 w0)
    (hr : ∀ (a_0 : Option Addr) (n_0 : Nat) (c_0 : Nat) (a_1 : Option Addr) (n_1 : Nat) (c_1 : Nat) (p_5 : Option Addr) (x_7 : Int) (x_8 : Int) (bm0 : Nat) (x_m0_0 : Int) (s_m0_1 : ByteArray) (x_m0_2 : Int) (x_m0_3 : Int) (x_m0_4 : Int) (x_m0_5 : Int) (x_m0_6 : Int) (x_m0_7 : Int) (a_m0_8 : Option Addr) (n_m0_8 : Nat) (c_m0_8 : Nat) (s_m0_9 : ByteArray) (s_m0_10 : ByteArray) (x_m0_11 : Int) (t_m0_12 : Bool) (a_m0_13 : Option Addr) (n_m0_13 : Nat) (c_m0_13 : Nat) (bm1 : Nat) (x_m1_0 : Int) (x_m1_1 : Int) (x_m1_2 : Int) (x_m1_3 : Int) (x_m1_4 : Int) (x_m1_5 : Int) (x_m1_6 : Int) (x_m1_7 : Int) (x_m1_8 : Int) (x_m1_9 : Int) (a_m1_10 : Option Addr) (n_m1_10 : Nat) (c_m1_10 : Nat) (x_m1_11 : Int) (x_m1_12 : Int) (x_m1_13 : Int) (x_m1_14 : Int) (a_m1_15 : Option Addr) (n_m1_15 : Nat) (c_m1_15 : Nat) (a_m1_16 : Option Addr) (n_m1_16 : Nat) (c_m1_16 : Nat) (w : World), J a_0 n_0 c_0 a_1 n_1 c_1 p_5 x_7 x_8 bm0 x_m0_0 s_m0_1 x_m0_2 x_m0_3 x_m0_4 x_m0_5 x_m0_6 x_m0_7 a_m0_8 n_m0_8 c_m0_8 s_m0_9 s_m0_10 x_m0_11 t_m0_12 a_m0_13 n_m0_13 c_m0_13 bm1 x_m1_0 x_m1_1 x_m1_2 x_m1_3 x_m1_4 x_m1_5 x_m1_6 x_m1_7 x_m1_8 x_m1_9 a_m1_10 n_m1_10 c_m1_10 x_m1_11 x_m1_12 x_m1_13 x_m1_14 a_m1_15 n_m1_15 c_m1_15 a_m1_16 n_m1_16 c_m1_16 w → law22_SessionOnce_C2 a_0 n_0 c_0 a_1 n_1 c_1 p_5 x_7 x_8 bm0 x_m0_0 s_m0_1 x_m0_2 x_m0_3 x_m0_4 x_m0_5 x_m0_6 x_m0_7 a_m0_8 n_m0_8 c_m0_8 s_m0_9 s_m0_10 x_m0_11 t_m0_12 a_m0_13 n_m0_13 c_m0_13 bm1 x_m1_0 x_m1_1 x_m1_2 x_m1_3 x_m1_4 x_m1_5 x_m1_6 x_m1_7 x_m1_8 x_m1_9 a_m1_10 n_m1_10 c_m1_10 x_m1_11 x_m1_12 x_m1_13 x_m1_14 a_m1_15 n_m1_15 c_m1_15 a_m1_16 n_m1_16 c_m1_16 K1 R w) :
    cutD3 law22_SessionOnce_la2 ((dnF Try.prog law22_SessionOnce_an (code Try.f3) 387 [1, 1, 1, 1, 1, 1, 0, 0, 1, 0, 0, 1, 0, 1, 1, 1, 1]) (kont3 Try.prog law22_SessionOnce_an (code Try.f3) [1, 1, 1, 1, 0, 1, 0, 0, 1, 0, 0, 1, 1, 1, 1, 1] [K1] (post3 Try.prog Try.f3 [] R))) (law22_SessionOnce_v2 a_00 n_00 c_00 a_10 n_10 c_10 p_50 x_70 x_80) (law22_SessionOnce_m2 bm00 x_m0_00 s_m0_10 x_m0_20 x_m0_30 x_m0_40 x_m0_50 x_m0_60 x_m0_70 a_m0_80 n_m0_80 c_m0_80 s_m0_90 s_m0_100 x_m0_110 t_m0_120 a_m0_130 n_m0_130 c_m0_130 bm10 x_m1_00 x_m1_10 x_m1_20 x_m1_30 x_m1_40 x_m1_50 x_m1_60 x_m1_70 x_m1_80 x_m1_90 a_m1_100 n_m1_100 c_m1_100 x_m1_110 x_m1_120 x_m1_130 x_m1_140 a_m1_150 n_m1_150 c_m1_150 a_m1_160 n_m1_160 c_m1_160) w0 := by
  refine ⟨fun vals mem w => ∃ a_0 n_0 c_0 a_1 n_1 c_1 p_5 x_7 x_8 bm0 x_m0_0 s_m0_1 x_m0_2 x_m0_3 x_m0_4 x_m0_5 x_m0_6 x_m0_7 a_m0_8 n_m0_8 c_m0_8 s_m0_9 s_m0_10 x_m0_11 t_m0_12 a_m0_13 n_m0_13 c_m0_13 bm1 x_m1_0 x_m1_1 x_m1_2 x_m1_3 x_m1_4 x_m1_5 x_m1_6 x_m1_7 x_m1_8 x_m1_9 a_m1_10 n_m1_10 c_m1_10 x_m1_11 x_m1_12 x_m1_13 x_m1_14 a_m1_15 n_m1_15 c_m1_15 a_m1_16 n_m1_16 c_m1_16, vals = (law22_SessionOnce_v2 a_0 n_0 c_0 a_1 n_1 c_1 p_5 x_7 x_8) ∧ mem = (law22_SessionOnce_m2 bm0 x_m0_0 s_m0_1 x_m0_2 x_m0_3 x_m0_4 x_m0_5 x_m0_6 x_m0_7 a_m0_8 n_m0_8 c_m0_8 s_m0_9 s_m0_10 x_m0_11 t_m0_12 a_m0_13 n_m0_13 c_m0_13 bm1 x_m1_0 x_m1_1 x_m1_2 x_m1_3 x_m1_4 x_m1_5 x_m1_6 x_m1_7 x_m1_8 x_m1_9 a_m1_10 n_m1_10 c_m1_10 x_m1_11 x_m1_12 x_m1_13 x_m1_14 a_m1_15 n_m1_15 c_m1_15 a_m1_16 n_m1_16 c_m1_16) ∧ J a_0 n_0 c_0 a_1 n_1 c_1 p_5 x_7 x_8 bm0 x_m0_0 s_m0_1 x_m0_2 x_m0_3 x_m0_4 x_m0_5 x_m0_6 x_m0_7 a_m0_8 n_m0_8 c_m0_8 s_m0_9 s_m0_10 x_m0_11 t_m0_12 a_m0_13 n_m0_13 c_m0_13 bm1 x_m1_0 x_m1_1 x_m1_2 x_m1_3 x_m1_4 x_m1_5 x_m1_6 x_m1_7 x_m1_8 x_m1_9 a_m1_10 n_m1_10 c_m1_10 x_m1_11 x_m1_12 x_m1_13 x_m1_14 a_m1_15 n_m1_15 c_m1_15 a_m1_16 n_m1_16 c_m1_16 w, ⟨_, _, _, _, _, _, _, _, _, _, _, _, _, _, _, _, _, _, _, _, _, _, _, _, _, _, _, _, _, _, _, _, _, _, _, _, _, _, _, _, _, _, _, _, _, _, _, _, _, _, _, _, rfl, rfl, h0⟩, ?_⟩
  rintro vals mem w ⟨a_0, n_0, c_0, a_1, n_1, c_1, p_5, x_7, x_8, bm0, x_m0_0, s_m0_1, x_m0_2, x_m0_3, x_m0_4, x_m0_5, x_m0_6, x_m0_7, a_m0_8, n_m0_8, c_m0_8, s_m0_9, s_m0_10, x_m0_11, t_m0_12, a_m0_13, n_m0_13, c_m0_13, bm1, x_m1_0, x_m1_1, x_m1_2, x_m1_3, x_m1_4, x_m1_5, x_m1_6, x_m1_7, x_m1_8, x_m1_9, a_m1_10, n_m1_10, c_m1_10, x_m1_11, x_m1_12, x_m1_13, x_m1_14, a_m1_15, n_m1_15, c_m1_15, a_m1_16, n_m1_16, c_m1_16, rfl, rfl, hJ⟩
  refine ⟨rfl, rfl, fun js => ?_⟩
  have h := hr a_0 n_0 c_0 a_1 n_1 c_1 p_5 x_7 x_8 bm0 x_m0_0 s_m0_1 x_m0_2 x_m0_3 x_m0_4 x_m0_5 x_m0_6 x_m0_7 a_m0_8 n_m0_8 c_m0_8 s_m0_9 s_m0_10 x_m0_11 t_m0_12 a_m0_13 n_m0_13 c_m0_13 bm1 x_m1_0 x_m1_1 x_m1_2 x_m1_3 x_m1_4 x_m1_5 x_m1_6 x_m1_7 x_m1_8 x_m1_9 a_m1_10 n_m1_10 c_m1_10 x_m1_11 x_m1_12 x_m1_13 x_m1_14 a_m1_15 n_m1_15 c_m1_15 a_m1_16 n_m1_16 c_m1_16 w hJ
  rw [← law22_SessionOnce_C2_eq _ _ _ _ _ _ _ _ _ _ _ _ _ _ _ _ _ _ _ _ _ _ _ _ _ _ _ _ _ _ _ _ _ _ _ _ _ _ _ _ _ _ _ _ _ _ _ _ _ _ _ _ _ js] at h
  exact h
/-- stagecoach/stagecoachlaw22.SessionOnce -/
def law22_SessionOnce_T (a0_l_a : Option Addr) (a0_l_n : Nat) (a0_l_c : Nat) (a1_stale_a : Option Addr) (a1_stale_n : Nat) (a1_stale_c : Nat) (R : Value → World → Prop) (w : World) : Prop :=
  Calls Try.prog 6 #[(.int .i64 3), (.int .i64 5)] w fun e w1 => ∃ p2 : Option Addr, ∃ x3 : Int, e = .returned (.tuple #[(.pointer p2), (.int .i64 x3)]) ∧
  brB (Option.isNone p2) (
    R (.bool false) w1)
  (
    brB (x3 != 0) (
      R (.bool false) w1)
    (
      loopD3 law22_SessionOnce_la1 (dnF Try.prog law22_SessionOnce_an (code Try.f3) 394 [0, 0, 1, 0, 1, 1, 1, 1]) (kont3 Try.prog law22_SessionOnce_an (code Try.f3) [1, 1, 1, 1, 0, 1, 0] [] (post3 Try.prog Try.f3 [] R)) (law22_SessionOnce_v1 a0_l_a a0_l_n a0_l_c a1_stale_a a1_stale_n a1_stale_c p2 0 0) (law22_SessionOnce_m1) w1))
theorem law22_SessionOnce_eq (a0_l_a : Option Addr) (a0_l_n : Nat) (a0_l_c : Nat) (a1_stale_a : Option Addr) (a1_stale_n : Nat) (a1_stale_c : Nat) (R : Value → World → Prop) (w : World) :
    dnF Try.prog law22_SessionOnce_an (code Try.f3) 400 [] (post3 Try.prog Try.f3 [] R) ⟨args0 0 [(.slice a0_l_a a0_l_n a0_l_c), (.slice a1_stale_a a1_stale_n a1_stale_c)], fun _ => undef⟩ ⟨[], w, [], [], true⟩ = law22_SessionOnce_T a0_l_a a0_l_n a0_l_c a1_stale_a a1_stale_n a1_stale_c R w := by kernel_rfl
theorem law22_SessionOnce_go {a0_l_a : Option Addr} {a0_l_n : Nat} {a0_l_c : Nat} {a1_stale_a : Option Addr} {a1_stale_n : Nat} {a1_stale_c : Nat} {R : Value → World → Prop} {w : World} (h : law22_SessionOnce_T a0_l_a a0_l_n a0_l_c a1_stale_a a1_stale_n a1_stale_c R w) :
    Calls Try.prog 3 #[(.slice a0_l_a a0_l_n a0_l_c), (.slice a1_stale_a a1_stale_n a1_stale_c)] w fun e w' => ∃ v, e = .returned v ∧ R v w' :=
  calls_none Try.wide_mixed (f := 3) (args := [(.slice a0_l_a a0_l_n a0_l_c), (.slice a1_stale_a a1_stale_n a1_stale_c)]) Try.func3 rfl rfl (by kernel_rfl) rfl (Eq.mpr (law22_SessionOnce_eq a0_l_a a0_l_n a0_l_c a1_stale_a a1_stale_n a1_stale_c R w) h)
def law22_SessionFinds_la1 : LA := ⟨[0, 0, 1, 0, 1, 1, 1, 1, 1, 1, 1, 1, 1], [5, 11, 13, 14], [(11, 1, 0)], 2, []⟩
def law22_SessionFinds_an : List LA := [law22_SessionFinds_la1]
def law22_SessionFinds_v1 (x_5 : Int) (a_13 : Option Addr) (n_13 : Nat) (c_13 : Nat) (bm1 : Nat) (x_14 : Int) : List Value := [(.int .i64 x_5), (.pointer (some ⟨bm1, 0, none⟩)), (.slice a_13 n_13 c_13), (.int .i64 x_14)]
def law22_SessionFinds_m1 (bm0 : Nat) (x_m0_0 : Int) (x_m0_1 : Int) (x_m0_2 : Int) (x_m0_3 : Int) (a_m0_4 : Option Addr) (n_m0_4 : Nat) (c_m0_4 : Nat) (a_m0_5 : Option Addr) (n_m0_5 : Nat) (c_m0_5 : Nat) (bm1 : Nat) (x_m1_0 : Int) (x_m1_1 : Int) (x_m1_2 : Int) (x_m1_3 : Int) (x_m1_4 : Int) (x_m1_5 : Int) (x_m1_6 : Int) (x_m1_7 : Int) (x_m1_8 : Int) (x_m1_9 : Int) (a_m1_10 : Option Addr) (n_m1_10 : Nat) (c_m1_10 : Nat) (x_m1_11 : Int) (x_m1_12 : Int) (x_m1_13 : Int) (x_m1_14 : Int) (a_m1_15 : Option Addr) (n_m1_15 : Nat) (c_m1_15 : Nat) (a_m1_16 : Option Addr) (n_m1_16 : Nat) (c_m1_16 : Nat) : List TB := [⟨bm0, 42, [(.int .i64 x_m0_0), (.int .i64 x_m0_1), (.int .i64 x_m0_2), (.int .i64 x_m0_3), (.slice a_m0_4 n_m0_4 c_m0_4), (.slice a_m0_5 n_m0_5 c_m0_5)], false⟩, ⟨bm1, 44, [(.int .i64 x_m1_0), (.int .i64 x_m1_1), (.int .i64 x_m1_2), (.int .i64 x_m1_3), (.int .i64 x_m1_4), (.int .i64 x_m1_5), (.int .i64 x_m1_6), (.int .i64 x_m1_7), (.int .i64 x_m1_8), (.int .i64 x_m1_9), (.slice a_m1_10 n_m1_10 c_m1_10), (.int .i64 x_m1_11), (.int .i64 x_m1_12), (.int .i64 x_m1_13), (.int .i64 x_m1_14), (.slice a_m1_15 n_m1_15 c_m1_15), (.slice a_m1_16 n_m1_16 c_m1_16)], false⟩]
def law22_SessionFinds_L1 (x_5 : Int) (a_13 : Option Addr) (n_13 : Nat) (c_13 : Nat) (bm0 : Nat) (x_m0_0 : Int) (x_m0_1 : Int) (x_m0_2 : Int) (x_m0_3 : Int) (a_m0_4 : Option Addr) (n_m0_4 : Nat) (c_m0_4 : Nat) (a_m0_5 : Option Addr) (n_m0_5 : Nat) (c_m0_5 : Nat) (bm1 : Nat) (x_m1_0 : Int) (x_m1_1 : Int) (x_m1_2 : Int) (x_m1_3 : Int) (x_m1_4 : Int) (x_m1_5 : Int) (x_m1_6 : Int) (x_m1_7 : Int) (x_m1_8 : Int) (x_m1_9 : Int) (a_m1_10 : Option Addr) (n_m1_10 : Nat) (c_m1_10 : Nat) (x_m1_11 : Int) (x_m1_12 : Int) (x_m1_13 : Int) (x_m1_14 : Int) (a_m1_15 : Option Addr) (n_m1_15 : Nat) (c_m1_15 : Nat) (a_m1_16 : Option Addr) (n_m1_16 : Nat) (c_m1_16 : Nat) (x_14 : Int) (K1 : Kh) (R : Value → World → Prop) (w : World) : Prop :=
  brB (decide (x_14 < x_5)) (
    ixA a_13 n_13 x_14 17 fun q116 =>
    ldInt .i64 w q116 fun x117 => ldInt .i64 w (Addr.add q116 1) fun x118 => ldInt .i64 w (Addr.add q116 2) fun x119 => ldInt .i64 w (Addr.add q116 3) fun x120 => ldInt .i64 w (Addr.add q116 4) fun x121 => ldInt .i64 w (Addr.add q116 5) fun x122 => ldInt .i64 w (Addr.add q116 6) fun x123 => ldInt .i64 w (Addr.add q116 7) fun x124 => ldInt .i64 w (Addr.add q116 8) fun x125 => ldInt .i64 w (Addr.add q116 9) fun x126 => ldSlice w (Addr.add q116 10) fun a127 n128 c129 => ldInt .i64 w (Addr.add q116 11) fun x130 => ldInt .i64 w (Addr.add q116 12) fun x131 => ldInt .i64 w (Addr.add q116 13) fun x132 => ldInt .i64 w (Addr.add q116 14) fun x133 => ldSlice w (Addr.add q116 15) fun a134 n135 c136 => ldSlice w (Addr.add q116 16) fun a137 n138 c139 =>
    ∀ b140, w.heap.size ≤ b140 →
    ixA a_13 n_13 x_14 17 fun q141 =>
    ∀ w142, Adv [] [b140] w w142 →
    ldInt .i64 w142 (Addr.add q141 2) fun x143 =>
    brB (x143 != x_14) (
      R (.bool false) w142)
    (
      Calls Try.prog 17 #[(.agg #[(.int .i64 x117), (.int .i64 x118), (.int .i64 x_m1_2), (.int .i64 x120), (.int .i64 x121), (.int .i64 x122), (.int .i64 x123), (.int .i64 x124), (.int .i64 x125), (.int .i64 x126), (.slice a127 n128 c129), (.int .i64 x130), (.int .i64 x131), (.int .i64 x132), (.int .i64 x133), (.slice a134 n135 c136), (.slice a137 n138 c139)]), (.agg #[(.int .i64 x_m1_0), (.int .i64 x_m1_1), (.int .i64 x_m1_2), (.int .i64 x_m1_3), (.int .i64 x_m1_4), (.int .i64 x_m1_5), (.int .i64 x_m1_6), (.int .i64 x_m1_7), (.int .i64 x_m1_8), (.int .i64 x_m1_9), (.slice a_m1_10 n_m1_10 c_m1_10), (.int .i64 x_m1_11), (.int .i64 x_m1_12), (.int .i64 x_m1_13), (.int .i64 x_m1_14), (.slice a_m1_15 n_m1_15 c_m1_15), (.slice a_m1_16 n_m1_16 c_m1_16)])] w142 fun e w144 => ∃ t145 : Bool, e = .returned (.bool t145) ∧ Keep [bm0, bm1, b140] w142 w144 ∧
      brB (!t145) (
        R (.bool false) w144)
      (
        K1 (law22_SessionFinds_v1 x_5 a_13 n_13 c_13 bm1 (IntKind.wrap .i64 (x_14 + 1))) (law22_SessionFinds_m1 bm0 x_m0_0 x_m0_1 x_m0_2 x_m0_3 a_m0_4 n_m0_4 c_m0_4 a_m0_5 n_m0_5 c_m0_5 bm1 x_m1_0 x_m1_1 x_m1_2 x_m1_3 x_m1_4 x_m1_5 x_m1_6 x_m1_7 x_m1_8 x_m1_9 a_m1_10 n_m1_10 c_m1_10 x_m1_11 x_m1_12 x_m1_13 x_m1_14 a_m1_15 n_m1_15 c_m1_15 a_m1_16 n_m1_16 c_m1_16) w144)))
  (
    Calls Try.prog 15 #[] w fun e w146 => ∃ t147 : Bool, e = .returned (.bool t147) ∧ Keep [bm0, bm1] w w146 ∧
    R (.bool t147) w146)
theorem law22_SessionFinds_L1_eq (x_5 : Int) (a_13 : Option Addr) (n_13 : Nat) (c_13 : Nat) (bm0 : Nat) (x_m0_0 : Int) (x_m0_1 : Int) (x_m0_2 : Int) (x_m0_3 : Int) (a_m0_4 : Option Addr) (n_m0_4 : Nat) (c_m0_4 : Nat) (a_m0_5 : Option Addr) (n_m0_5 : Nat) (c_m0_5 : Nat) (bm1 : Nat) (x_m1_0 : Int) (x_m1_1 : Int) (x_m1_2 : Int) (x_m1_3 : Int) (x_m1_4 : Int) (x_m1_5 : Int) (x_m1_6 : Int) (x_m1_7 : Int) (x_m1_8 : Int) (x_m1_9 : Int) (a_m1_10 : Option Addr) (n_m1_10 : Nat) (c_m1_10 : Nat) (x_m1_11 : Int) (x_m1_12 : Int) (x_m1_13 : Int) (x_m1_14 : Int) (a_m1_15 : Option Addr) (n_m1_15 : Nat) (c_m1_15 : Nat) (a_m1_16 : Option Addr) (n_m1_16 : Nat) (c_m1_16 : Nat) (x_14 : Int) (K1 : Kh) (js : Nat → Value) (R : Value → World → Prop) (w : World) :
    headA law22_SessionFinds_la1 ((dnF Try.prog law22_SessionFinds_an (code Try.f4) 389 [0, 0, 1, 0, 1, 1, 1, 1, 1, 1, 1, 1, 1]) (kthen3 (atA law22_SessionFinds_la1 K1) (kont3 Try.prog law22_SessionFinds_an (code Try.f4) [1, 1, 1, 1, 1, 1, 1, 1, 1, 0, 1, 0] [] (post3 Try.prog Try.f4 [] R)))) (law22_SessionFinds_v1 x_5 a_13 n_13 c_13 bm1 x_14) js (law22_SessionFinds_m1 bm0 x_m0_0 x_m0_1 x_m0_2 x_m0_3 a_m0_4 n_m0_4 c_m0_4 a_m0_5 n_m0_5 c_m0_5 bm1 x_m1_0 x_m1_1 x_m1_2 x_m1_3 x_m1_4 x_m1_5 x_m1_6 x_m1_7 x_m1_8 x_m1_9 a_m1_10 n_m1_10 c_m1_10 x_m1_11 x_m1_12 x_m1_13 x_m1_14 a_m1_15 n_m1_15 c_m1_15 a_m1_16 n_m1_16 c_m1_16) w = law22_SessionFinds_L1 x_5 a_13 n_13 c_13 bm0 x_m0_0 x_m0_1 x_m0_2 x_m0_3 a_m0_4 n_m0_4 c_m0_4 a_m0_5 n_m0_5 c_m0_5 bm1 x_m1_0 x_m1_1 x_m1_2 x_m1_3 x_m1_4 x_m1_5 x_m1_6 x_m1_7 x_m1_8 x_m1_9 a_m1_10 n_m1_10 c_m1_10 x_m1_11 x_m1_12 x_m1_13 x_m1_14 a_m1_15 n_m1_15 c_m1_15 a_m1_16 n_m1_16 c_m1_16 x_14 K1 R w := by kernel_rfl
def law22_SessionFinds_K1 (x_5 : Int) (a_13 : Option Addr) (n_13 : Nat) (c_13 : Nat) (bm0 : Nat) (x_m0_0 : Int) (x_m0_1 : Int) (x_m0_2 : Int) (x_m0_3 : Int) (a_m0_4 : Option Addr) (n_m0_4 : Nat) (c_m0_4 : Nat) (a_m0_5 : Option Addr) (n_m0_5 : Nat) (c_m0_5 : Nat) (bm1 : Nat) (x_m1_0 : Int) (x_m1_1 : Int) (x_m1_2 : Int) (x_m1_3 : Int) (x_m1_4 : Int) (x_m1_5 : Int) (x_m1_6 : Int) (x_m1_7 : Int) (x_m1_8 : Int) (x_m1_9 : Int) (a_m1_10 : Option Addr) (n_m1_10 : Nat) (c_m1_10 : Nat) (x_m1_11 : Int) (x_m1_12 : Int) (x_m1_13 : Int) (x_m1_14 : Int) (a_m1_15 : Option Addr) (n_m1_15 : Nat) (c_m1_15 : Nat) (a_m1_16 : Option Addr) (n_m1_16 : Nat) (c_m1_16 : Nat) (I : Nat → Int → World → Prop) (m : Nat) (vals : List Value) (mem : List TB) (w : World) : Prop := ∃ m', m' < m ∧ ∃ x_14, vals = (law22_SessionFinds_v1 x_5 a_13 n_13 c_13 bm1 x_14) ∧ mem = (law22_SessionFinds_m1 bm0 x_m0_0 x_m0_1 x_m0_2 x_m0_3 a_m0_4 n_m0_4 c_m0_4 a_m0_5 n_m0_5 c_m0_5 bm1 x_m1_0 x_m1_1 x_m1_2 x_m1_3 x_m1_4 x_m1_5 x_m1_6 x_m1_7 x_m1_8 x_m1_9 a_m1_10 n_m1_10 c_m1_10 x_m1_11 x_m1_12 x_m1_13 x_m1_14 a_m1_15 n_m1_15 c_m1_15 a_m1_16 n_m1_16 c_m1_16) ∧ I m' x_14 w
theorem law22_SessionFinds_leaf1 {x_5 : Int} {a_13 : Option Addr} {n_13 : Nat} {c_13 : Nat} {bm0 : Nat} {x_m0_0 : Int} {x_m0_1 : Int} {x_m0_2 : Int} {x_m0_3 : Int} {a_m0_4 : Option Addr} {n_m0_4 : Nat} {c_m0_4 : Nat} {a_m0_5 : Option Addr} {n_m0_5 : Nat} {c_m0_5 : Nat} {bm1 : Nat} {x_m1_0 : Int} {x_m1_1 : Int} {x_m1_2 : Int} {x_m1_3 : Int} {x_m1_4 : Int} {x_m1_5 : Int} {x_m1_6 : Int} {x_m1_7 : Int} {x_m1_8 : Int} {x_m1_9 : Int} {a_m1_10 : Option Addr} {n_m1_10 : Nat} {c_m1_10 : Nat} {x_m1_11 : Int} {x_m1_12 : Int} {x_m1_13 : Int} {x_m1_14 : Int} {a_m1_15 : Option Addr} {n_m1_15 : Nat} {c_m1_15 : Nat} {a_m1_16 : Option Addr} {n_m1_16 : Nat} {c_m1_16 : Nat} {I : Nat → Int → World → Prop} {m : Nat} {x_14 : Int} {w : World} (m' : Nat) (h1 : m' < m) (h2 : I m' x_14 w) : law22_SessionFinds_K1 x_5 a_13 n_13 c_13 bm0 x_m0_0 x_m0_1 x_m0_2 x_m0_3 a_m0_4 n_m0_4 c_m0_4 a_m0_5 n_m0_5 c_m0_5 bm1 x_m1_0 x_m1_1 x_m1_2 x_m1_3 x_m1_4 x_m1_5 x_m1_6 x_m1_7 x_m1_8 x_m1_9 a_m1_10 n_m1_10 c_m1_10 x_m1_11 x_m1_12 x_m1_13 x_m1_14 a_m1_15 n_m1_15 c_m1_15 a_m1_16 n_m1_16 c_m1_16 I m (law22_SessionFinds_v1 x_5 a_13 n_13 c_13 bm1 x_14) (law22_SessionFinds_m1 bm0 x_m0_0 x_m0_1 x_m0_2 x_m0_3 a_m0_4 n_m0_4 c_m0_4 a_m0_5 n_m0_5 c_m0_5 bm1 x_m1_0 x_m1_1 x_m1_2 x_m1_3 x_m1_4 x_m1_5 x_m1_6 x_m1_7 x_m1_8 x_m1_9 a_m1_10 n_m1_10 c_m1_10 x_m1_11 x_m1_12 x_m1_13 x_m1_14 a_m1_15 n_m1_15 c_m1_15 a_m1_16 n_m1_16 c_m1_16) w := ⟨m', h1, _, rfl, rfl, h2⟩
theorem law22_SessionFinds_rule1 {x_5 : Int} {a_13 : Option Addr} {n_13 : Nat} {c_13 : Nat} {bm0 : Nat} {x_m0_0 : Int} {x_m0_1 : Int} {x_m0_2 : Int} {x_m0_3 : Int} {a_m0_4 : Option Addr} {n_m0_4 : Nat} {c_m0_4 : Nat} {a_m0_5 : Option Addr} {n_m0_5 : Nat} {c_m0_5 : Nat} {bm1 : Nat} {x_m1_0 : Int} {x_m1_1 : Int} {x_m1_2 : Int} {x_m1_3 : Int} {x_m1_4 : Int} {x_m1_5 : Int} {x_m1_6 : Int} {x_m1_7 : Int} {x_m1_8 : Int} {x_m1_9 : Int} {a_m1_10 : Option Addr} {n_m1_10 : Nat} {c_m1_10 : Nat} {x_m1_11 : Int} {x_m1_12 : Int} {x_m1_13 : Int} {x_m1_14 : Int} {a_m1_15 : Option Addr} {n_m1_15 : Nat} {c_m1_15 : Nat} {a_m1_16 : Option Addr} {n_m1_16 : Nat} {c_m1_16 : Nat} {x_140 : Int} {R : Value → World → Prop} {w0 : World} (I : Nat → Int → World → Prop) (m0 : Nat) (h0 : I m0 x_140 w0)
    (hr : ∀ (m : Nat) (x_14 : Int) (w : World), I m x_14 w → law22_SessionFinds_L1 x_5 a_13 n_13 c_13 bm0 x_m0_0 x_m0_1 x_m0_2 x_m0_3 a_m0_4 n_m0_4 c_m0_4 a_m0_5 n_m0_5 c_m0_5 bm1 x_m1_0 x_m1_1 x_m1_2 x_m1_3 x_m1_4 x_m1_5 x_m1_6 x_m1_7 x_m1_8 x_m1_9 a_m1_10 n_m1_10 c_m1_10 x_m1_11 x_m1_12 x_m1_13 x_m1_14 a_m1_15 n_m1_15 c_m1_15 a_m1_16 n_m1_16 c_m1_16 x_14 (law22_SessionFinds_K1 x_5 a_13 n_13 c_13 bm0 x_m0_0 x_m0_1 x_m0_2 x_m0_3 a_m0_4 n_m0_4 c_m0_4 a_m0_5 n_m0_5 c_m0_5 bm1 x_m1_0 x_m1_1 x_m1_2 x_m1_3 x_m1_4 x_m1_5 x_m1_6 x_m1_7 x_m1_8 x_m1_9 a_m1_10 n_m1_10 c_m1_10 x_m1_11 x_m1_12 x_m1_13 x_m1_14 a_m1_15 n_m1_15 c_m1_15 a_m1_16 n_m1_16 c_m1_16 I m) R w) :
    loopD3 law22_SessionFinds_la1 (dnF Try.prog law22_SessionFinds_an (code Try.f4) 389 [0, 0, 1, 0, 1, 1, 1, 1, 1, 1, 1, 1, 1]) (kont3 Try.prog law22_SessionFinds_an (code Try.f4) [1, 1, 1, 1, 1, 1, 1, 1, 1, 0, 1, 0] [] (post3 Try.prog Try.f4 [] R)) (law22_SessionFinds_v1 x_5 a_13 n_13 c_13 bm1 x_140) (law22_SessionFinds_m1 bm0 x_m0_0 x_m0_1 x_m0_2 x_m0_3 a_m0_4 n_m0_4 c_m0_4 a_m0_5 n_m0_5 c_m0_5 bm1 x_m1_0 x_m1_1 x_m1_2 x_m1_3 x_m1_4 x_m1_5 x_m1_6 x_m1_7 x_m1_8 x_m1_9 a_m1_10 n_m1_10 c_m1_10 x_m1_11 x_m1_12 x_m1_13 x_m1_14 a_m1_15 n_m1_15 c_m1_15 a_m1_16 n_m1_16 c_m1_16) w0 := by
  refine ⟨fun m vals mem w => ∃ x_14, vals = (law22_SessionFinds_v1 x_5 a_13 n_13 c_13 bm1 x_14) ∧ mem = (law22_SessionFinds_m1 bm0 x_m0_0 x_m0_1 x_m0_2 x_m0_3 a_m0_4 n_m0_4 c_m0_4 a_m0_5 n_m0_5 c_m0_5 bm1 x_m1_0 x_m1_1 x_m1_2 x_m1_3 x_m1_4 x_m1_5 x_m1_6 x_m1_7 x_m1_8 x_m1_9 a_m1_10 n_m1_10 c_m1_10 x_m1_11 x_m1_12 x_m1_13 x_m1_14 a_m1_15 n_m1_15 c_m1_15 a_m1_16 n_m1_16 c_m1_16) ∧ I m x_14 w, m0, ⟨_, rfl, rfl, h0⟩, ?_⟩
  rintro m vals mem w ⟨x_14, rfl, rfl, hI⟩
  refine ⟨rfl, rfl, fun js => ?_⟩
  have h := hr m x_14 w hI
  rw [← law22_SessionFinds_L1_eq _ _ _ _ _ _ _ _ _ _ _ _ _ _ _ _ _ _ _ _ _ _ _ _ _ _ _ _ _ _ _ _ _ _ _ _ _ _ _ _ _ js] at h
  exact h
/-- stagecoach/stagecoachlaw22.SessionFinds -/
def law22_SessionFinds_T (a0_replicas : Int) (a1_view : Int) (R : Value → World → Prop) (w : World) : Prop :=
  nz 7 (
    Calls Try.prog 6 #[(.int .i64 9), (.int .i64 (IntKind.wrap .i64 (1 + (Int.tmod (bAnd .i64 a0_replicas 65535) 7))))] w fun e w1 => ∃ p2 : Option Addr, ∃ x3 : Int, e = .returned (.tuple #[(.pointer p2), (.int .i64 x3)]) ∧
    brB (Option.isNone p2) (
      R (.bool false) w1)
    (
      brB (x3 != 0) (
        R (.bool false) w1)
      (
        Calls Try.prog 16 #[] w1 fun e w4 => ∃ x5 : Int, ∃ s6 : ByteArray, ∃ x7 : Int, ∃ x8 : Int, ∃ x9 : Int, ∃ x10 : Int, ∃ x11 : Int, ∃ x12 : Int, ∃ (a13 : Option Addr) (n14 c15 : Nat), ∃ s16 : ByteArray, ∃ s17 : ByteArray, ∃ x18 : Int, ∃ t19 : Bool, ∃ (a20 : Option Addr) (n21 c22 : Nat), e = .returned (.agg #[(.int .i64 x5), (.string s6), (.int .i64 x7), (.int .i64 x8), (.int .i64 x9), (.int .i64 x10), (.int .i64 x11), (.int .i64 x12), (.slice a13 n14 c15), (.string s16), (.string s17), (.int .i64 x18), (.bool t19), (.slice a20 n21 c22)]) ∧
        Calls Try.prog 9 #[(.pointer p2), (.agg #[(.int .i64 x5), (.string s6), (.int .i64 x7), (.int .i64 x8), (.int .i64 x9), (.int .i64 x10), (.int .i64 x11), (.int .i64 x12), (.slice a13 n14 c15), (.string s16), (.string s17), (.int .i64 x18), (.bool t19), (.slice a20 n21 c22)])] w4 fun e w23 => ∃ x24 : Int, ∃ x25 : Int, ∃ x26 : Int, ∃ x27 : Int, ∃ x28 : Int, ∃ x29 : Int, ∃ x30 : Int, ∃ x31 : Int, ∃ x32 : Int, ∃ x33 : Int, ∃ (a34 : Option Addr) (n35 c36 : Nat), ∃ x37 : Int, ∃ x38 : Int, ∃ x39 : Int, ∃ x40 : Int, ∃ (a41 : Option Addr) (n42 c43 : Nat), ∃ (a44 : Option Addr) (n45 c46 : Nat), ∃ x47 : Int, e = .returned (.tuple #[(.agg #[(.int .i64 x24), (.int .i64 x25), (.int .i64 x26), (.int .i64 x27), (.int .i64 x28), (.int .i64 x29), (.int .i64 x30), (.int .i64 x31), (.int .i64 x32), (.int .i64 x33), (.slice a34 n35 c36), (.int .i64 x37), (.int .i64 x38), (.int .i64 x39), (.int .i64 x40), (.slice a41 n42 c43), (.slice a44 n45 c46)]), (.int .i64 x47)]) ∧
        Calls Try.prog 11 #[(.pointer p2), (.agg #[(.int .i64 1), (.int .i64 0), (.int .i64 9), (.int .i64 (bAnd .i64 a1_view 65535)), (.int .i64 0), (.int .i64 0), (.int .i64 0), (.int .i64 0), (.int .i64 0), (.int .i64 1), (.slice none 0 0), (.int .i64 0), (.int .i64 0), (.int .i64 0), (.int .i64 0), (.slice none 0 0), (.slice none 0 0)])] w23 fun e w48 => ∃ x49 : Int, ∃ x50 : Int, ∃ x51 : Int, ∃ x52 : Int, ∃ (a53 : Option Addr) (n54 c55 : Nat), ∃ (a56 : Option Addr) (n57 c58 : Nat), ∃ t59 : Bool, e = .returned (.tuple #[(.agg #[(.int .i64 x49), (.int .i64 x50), (.int .i64 x51), (.int .i64 x52), (.slice a53 n54 c55), (.slice a56 n57 c58)]), (.bool t59)]) ∧
        ∀ b60, w48.heap.size ≤ b60 →
        ∀ w61, Adv [] [b60] w48 w61 →
        Calls Try.prog 16 #[] w61 fun e w62 => ∃ x63 : Int, ∃ s64 : ByteArray, ∃ x65 : Int, ∃ x66 : Int, ∃ x67 : Int, ∃ x68 : Int, ∃ x69 : Int, ∃ x70 : Int, ∃ (a71 : Option Addr) (n72 c73 : Nat), ∃ s74 : ByteArray, ∃ s75 : ByteArray, ∃ x76 : Int, ∃ t77 : Bool, ∃ (a78 : Option Addr) (n79 c80 : Nat), e = .returned (.agg #[(.int .i64 x63), (.string s64), (.int .i64 x65), (.int .i64 x66), (.int .i64 x67), (.int .i64 x68), (.int .i64 x69), (.int .i64 x70), (.slice a71 n72 c73), (.string s74), (.string s75), (.int .i64 x76), (.bool t77), (.slice a78 n79 c80)]) ∧ Keep [b60] w61 w62 ∧
        Calls Try.prog 9 #[(.pointer p2), (.agg #[(.int .i64 x63), (.string s64), (.int .i64 x65), (.int .i64 x66), (.int .i64 x67), (.int .i64 x68), (.int .i64 x69), (.int .i64 x70), (.slice a71 n72 c73), (.string s74), (.string s75), (.int .i64 x76), (.bool t77), (.slice a78 n79 c80)])] w62 fun e w81 => ∃ x82 : Int, ∃ x83 : Int, ∃ x84 : Int, ∃ x85 : Int, ∃ x86 : Int, ∃ x87 : Int, ∃ x88 : Int, ∃ x89 : Int, ∃ x90 : Int, ∃ x91 : Int, ∃ (a92 : Option Addr) (n93 c94 : Nat), ∃ x95 : Int, ∃ x96 : Int, ∃ x97 : Int, ∃ x98 : Int, ∃ (a99 : Option Addr) (n100 c101 : Nat), ∃ (a102 : Option Addr) (n103 c104 : Nat), ∃ x105 : Int, e = .returned (.tuple #[(.agg #[(.int .i64 x82), (.int .i64 x83), (.int .i64 x84), (.int .i64 x85), (.int .i64 x86), (.int .i64 x87), (.int .i64 x88), (.int .i64 x89), (.int .i64 x90), (.int .i64 x91), (.slice a92 n93 c94), (.int .i64 x95), (.int .i64 x96), (.int .i64 x97), (.int .i64 x98), (.slice a99 n100 c101), (.slice a102 n103 c104)]), (.int .i64 x105)]) ∧ Keep [b60] w62 w81 ∧
        ∀ b106, w81.heap.size ≤ b106 →
        ∀ w107, Adv [] [b106] w81 w107 →
        Calls Try.prog 13 #[(.pointer p2)] w107 fun e w108 => ∃ (a109 : Option Addr) (n110 c111 : Nat), e = .returned (.slice a109 n110 c111) ∧ Keep [b60, b106] w107 w108 ∧
        brB (!t59) (
          ∀ w112, Adv [] [] w108 w112 →
          R (.bool false) w112)
        (
          brB (x105 != 0) (
            ∀ w113, Adv [] [] w108 w113 →
            R (.bool false) w113)
          (nz (IntKind.wrap .i64 (1 + (Int.tmod (bAnd .i64 a0_replicas 65535) 7))) (
              brB (x84 != (Int.tmod (bAnd .i64 a1_view 65535) (IntKind.wrap .i64 (1 + (Int.tmod (bAnd .i64 a0_replicas 65535) 7))))) (
                ∀ w114, Adv [] [] w108 w114 →
                R (.bool false) w114)
              (
                brB ((n110 : Int) != (IntKind.wrap .i64 (1 + (Int.tmod (bAnd .i64 a0_replicas 65535) 7)))) (
                  ∀ w115, Adv [] [] w108 w115 →
                  R (.bool false) w115)
                (
                  ∀ w148, Adv [] [] w108 w148 →
                  loopD3 law22_SessionFinds_la1 (dnF Try.prog law22_SessionFinds_an (code Try.f4) 389 [0, 0, 1, 0, 1, 1, 1, 1, 1, 1, 1, 1, 1]) (kont3 Try.prog law22_SessionFinds_an (code Try.f4) [1, 1, 1, 1, 1, 1, 1, 1, 1, 0, 1, 0] [] (post3 Try.prog Try.f4 [] R)) (law22_SessionFinds_v1 (IntKind.wrap .i64 (1 + (Int.tmod (bAnd .i64 a0_replicas 65535) 7))) a109 n110 c111 b106 0) (law22_SessionFinds_m1 b60 x49 x50 x51 x52 a53 n54 c55 a56 n57 c58 b106 x82 x83 x84 x85 x86 x87 x88 x89 x90 x91 a92 n93 c94 x95 x96 x97 x98 a99 n100 c101 a102 n103 c104) w148))))))))
theorem law22_SessionFinds_eq (a0_replicas : Int) (a1_view : Int) (R : Value → World → Prop) (w : World) :
    dnF Try.prog law22_SessionFinds_an (code Try.f4) 400 [] (post3 Try.prog Try.f4 [] R) ⟨args0 0 [(.int .i64 a0_replicas), (.int .i64 a1_view)], fun _ => undef⟩ ⟨[], w, [], [], true⟩ = law22_SessionFinds_T a0_replicas a1_view R w := by kernel_rfl
theorem law22_SessionFinds_go {a0_replicas : Int} {a1_view : Int} {R : Value → World → Prop} {w : World} (h : law22_SessionFinds_T a0_replicas a1_view R w) :
    Calls Try.prog 4 #[(.int .i64 a0_replicas), (.int .i64 a1_view)] w fun e w' => ∃ v, e = .returned v ∧ R v w' :=
  calls_none Try.wide_mixed (f := 4) (args := [(.int .i64 a0_replicas), (.int .i64 a1_view)]) Try.func4 rfl rfl (by kernel_rfl) rfl (Eq.mpr (law22_SessionFinds_eq a0_replicas a1_view R w) h)
def law22_SessionWaits_la1 : LA := ⟨[0, 0, 1, 0, 1, 1, 1, 1, 1, 1], [0, 5, 6, 8, 9], [], 0, []⟩
def law22_SessionWaits_la2 : LA := ⟨[1, 1, 1, 0, 0, 1, 0, 0, 1, 0, 1, 1, 1, 1, 1, 1], [0, 5, 6, 8, 9, 10], [(10, 0, 0)], 1, []⟩
def law22_SessionWaits_an : List LA := [law22_SessionWaits_la1, law22_SessionWaits_la2]
def law22_SessionWaits_v1 (a_0 : Option Addr) (n_0 : Nat) (c_0 : Nat) (x_5 : Int) (p_6 : Option Addr) (a_8 : Option Addr) (n_8 : Nat) (c_8 : Nat) (x_9 : Int) : List Value := [(.slice a_0 n_0 c_0), (.int .i64 x_5), (.pointer p_6), (.slice a_8 n_8 c_8), (.int .i64 x_9)]
def law22_SessionWaits_m1 : List TB := []
def law22_SessionWaits_v2 (a_0 : Option Addr) (n_0 : Nat) (c_0 : Nat) (x_5 : Int) (p_6 : Option Addr) (a_8 : Option Addr) (n_8 : Nat) (c_8 : Nat) (x_9 : Int) (bm0 : Nat) : List Value := [(.slice a_0 n_0 c_0), (.int .i64 x_5), (.pointer p_6), (.slice a_8 n_8 c_8), (.int .i64 x_9), (.pointer (some ⟨bm0, 0, none⟩))]
def law22_SessionWaits_m2 (bm0 : Nat) (x_m0_0 : Int) (x_m0_1 : Int) (x_m0_2 : Int) (x_m0_3 : Int) (x_m0_4 : Int) (x_m0_5 : Int) (x_m0_6 : Int) (x_m0_7 : Int) (x_m0_8 : Int) (x_m0_9 : Int) (x_m0_11 : Int) (x_m0_12 : Int) (x_m0_13 : Int) (x_m0_14 : Int) (a_m0_15 : Option Addr) (n_m0_15 : Nat) (c_m0_15 : Nat) (a_m0_16 : Option Addr) (n_m0_16 : Nat) (c_m0_16 : Nat) : List TB := [⟨bm0, 44, [(.int .i64 x_m0_0), (.int .i64 x_m0_1), (.int .i64 x_m0_2), (.int .i64 x_m0_3), (.int .i64 x_m0_4), (.int .i64 x_m0_5), (.int .i64 x_m0_6), (.int .i64 x_m0_7), (.int .i64 x_m0_8), (.int .i64 x_m0_9), (.slice none 0 0), (.int .i64 x_m0_11), (.int .i64 x_m0_12), (.int .i64 x_m0_13), (.int .i64 x_m0_14), (.slice a_m0_15 n_m0_15 c_m0_15), (.slice a_m0_16 n_m0_16 c_m0_16)], false⟩]
def law22_SessionWaits_L1 (a_0 : Option Addr) (n_0 : Nat) (c_0 : Nat) (x_5 : Int) (p_6 : Option Addr) (a_8 : Option Addr) (n_8 : Nat) (c_8 : Nat) (x_9 : Int) (K1 : Kh) (R : Value → World → Prop) (w : World) : Prop :=
  brB (decide (x_9 < (n_0 : Int))) (
    brB (decide (x_9 < 20)) (
      ixA a_0 n_0 x_9 17 fun q52 =>
      ldInt .i64 w q52 fun x53 => ldInt .i64 w (Addr.add q52 1) fun x54 => ldInt .i64 w (Addr.add q52 2) fun x55 => ldInt .i64 w (Addr.add q52 3) fun x56 => ldInt .i64 w (Addr.add q52 4) fun x57 => ldInt .i64 w (Addr.add q52 5) fun x58 => ldInt .i64 w (Addr.add q52 6) fun x59 => ldInt .i64 w (Addr.add q52 7) fun x60 => ldInt .i64 w (Addr.add q52 8) fun x61 => ldInt .i64 w (Addr.add q52 9) fun x62 => ldSlice w (Addr.add q52 10) fun a63 n64 c65 => ldInt .i64 w (Addr.add q52 11) fun x66 => ldInt .i64 w (Addr.add q52 12) fun x67 => ldInt .i64 w (Addr.add q52 13) fun x68 => ldInt .i64 w (Addr.add q52 14) fun x69 => ldSlice w (Addr.add q52 15) fun a70 n71 c72 => ldSlice w (Addr.add q52 16) fun a73 n74 c75 =>
      ∀ b76, w.heap.size ≤ b76 →
      brB (x53 == 1) (
        brB (x55 == x_5) (
          brB (x62 == 1) (
            ∀ w145, Adv [] [b76] w w145 →
            cutD3 law22_SessionWaits_la2 ((dnF Try.prog law22_SessionWaits_an (code Try.f5) 388 [1, 1, 1, 0, 0, 1, 0, 0, 1, 0, 1, 1, 1, 1, 1, 1]) (kont3 Try.prog law22_SessionWaits_an (code Try.f5) [1, 1, 1, 1, 1, 1, 0, 1, 0, 0, 1, 0, 0, 1, 1] [K1] (post3 Try.prog Try.f5 [] R))) (law22_SessionWaits_v2 a_0 n_0 c_0 x_5 p_6 a_8 n_8 c_8 x_9 b76) (law22_SessionWaits_m2 b76 x53 x54 x55 x56 x57 x58 x59 x60 x61 2 x66 x67 x68 x69 a70 n71 c72 a73 n74 c75) w145)
          (
            ∀ w146, Adv [] [b76] w w146 →
            cutD3 law22_SessionWaits_la2 ((dnF Try.prog law22_SessionWaits_an (code Try.f5) 388 [1, 1, 1, 0, 0, 1, 0, 0, 1, 0, 1, 1, 1, 1, 1, 1]) (kont3 Try.prog law22_SessionWaits_an (code Try.f5) [1, 1, 1, 1, 1, 1, 0, 1, 0, 0, 1, 0, 0, 1, 1] [K1] (post3 Try.prog Try.f5 [] R))) (law22_SessionWaits_v2 a_0 n_0 c_0 x_5 p_6 a_8 n_8 c_8 x_9 b76) (law22_SessionWaits_m2 b76 x53 x54 x55 x56 x57 x58 x59 x60 x61 x62 x66 x67 x68 x69 a70 n71 c72 a73 n74 c75) w146))
        (
          ∀ w147, Adv [] [b76] w w147 →
          cutD3 law22_SessionWaits_la2 ((dnF Try.prog law22_SessionWaits_an (code Try.f5) 388 [1, 1, 1, 0, 0, 1, 0, 0, 1, 0, 1, 1, 1, 1, 1, 1]) (kont3 Try.prog law22_SessionWaits_an (code Try.f5) [1, 1, 1, 1, 1, 1, 0, 1, 0, 0, 1, 0, 0, 1, 1] [K1] (post3 Try.prog Try.f5 [] R))) (law22_SessionWaits_v2 a_0 n_0 c_0 x_5 p_6 a_8 n_8 c_8 x_9 b76) (law22_SessionWaits_m2 b76 x53 x54 x55 x56 x57 x58 x59 x60 x61 x62 x66 x67 x68 x69 a70 n71 c72 a73 n74 c75) w147))
      (
        ∀ w148, Adv [] [b76] w w148 →
        cutD3 law22_SessionWaits_la2 ((dnF Try.prog law22_SessionWaits_an (code Try.f5) 388 [1, 1, 1, 0, 0, 1, 0, 0, 1, 0, 1, 1, 1, 1, 1, 1]) (kont3 Try.prog law22_SessionWaits_an (code Try.f5) [1, 1, 1, 1, 1, 1, 0, 1, 0, 0, 1, 0, 0, 1, 1] [K1] (post3 Try.prog Try.f5 [] R))) (law22_SessionWaits_v2 a_0 n_0 c_0 x_5 p_6 a_8 n_8 c_8 x_9 b76) (law22_SessionWaits_m2 b76 x53 x54 x55 x56 x57 x58 x59 x60 x61 x62 x66 x67 x68 x69 a70 n71 c72 a73 n74 c75) w148))
    (
      brB ((n_8 : Int) == 3) (
        Calls Try.prog 14 #[(.pointer p_6)] w fun e w149 => ∃ x150 : Int, e = .returned (.int .i64 x150) ∧
        brB (x150 == 0) (
          Calls Try.prog 15 #[] w149 fun e w151 => ∃ t152 : Bool, e = .returned (.bool t152) ∧
          R (.bool t152) w151)
        (
          R (.bool false) w149))
      (
        R (.bool false) w)))
  (
    brB ((n_8 : Int) == 3) (
      Calls Try.prog 14 #[(.pointer p_6)] w fun e w153 => ∃ x154 : Int, e = .returned (.int .i64 x154) ∧
      brB (x154 == 0) (
        Calls Try.prog 15 #[] w153 fun e w155 => ∃ t156 : Bool, e = .returned (.bool t156) ∧
        R (.bool t156) w155)
      (
        R (.bool false) w153))
    (
      R (.bool false) w))
theorem law22_SessionWaits_L1_eq (a_0 : Option Addr) (n_0 : Nat) (c_0 : Nat) (x_5 : Int) (p_6 : Option Addr) (a_8 : Option Addr) (n_8 : Nat) (c_8 : Nat) (x_9 : Int) (K1 : Kh) (js : Nat → Value) (R : Value → World → Prop) (w : World) :
    headA law22_SessionWaits_la1 ((dnF Try.prog law22_SessionWaits_an (code Try.f5) 392 [0, 0, 1, 0, 1, 1, 1, 1, 1, 1]) (kthen3 (atA law22_SessionWaits_la1 K1) (kont3 Try.prog law22_SessionWaits_an (code Try.f5) [1, 1, 1, 1, 1, 1, 0, 1, 0] [] (post3 Try.prog Try.f5 [] R)))) (law22_SessionWaits_v1 a_0 n_0 c_0 x_5 p_6 a_8 n_8 c_8 x_9) js (law22_SessionWaits_m1) w = law22_SessionWaits_L1 a_0 n_0 c_0 x_5 p_6 a_8 n_8 c_8 x_9 K1 R w := by kernel_rfl
def law22_SessionWaits_K1 (a_0 : Option Addr) (n_0 : Nat) (c_0 : Nat) (x_5 : Int) (p_6 : Option Addr) (a_8 : Option Addr) (n_8 : Nat) (c_8 : Nat) (I : Nat → Int → World → Prop) (m : Nat) (vals : List Value) (mem : List TB) (w : World) : Prop := ∃ m', m' < m ∧ ∃ x_9, vals = (law22_SessionWaits_v1 a_0 n_0 c_0 x_5 p_6 a_8 n_8 c_8 x_9) ∧ mem = (law22_SessionWaits_m1) ∧ I m' x_9 w
theorem law22_SessionWaits_leaf1 {a_0 : Option Addr} {n_0 : Nat} {c_0 : Nat} {x_5 : Int} {p_6 : Option Addr} {a_8 : Option Addr} {n_8 : Nat} {c_8 : Nat} {I : Nat → Int → World → Prop} {m : Nat} {x_9 : Int} {w : World} (m' : Nat) (h1 : m' < m) (h2 : I m' x_9 w) : law22_SessionWaits_K1 a_0 n_0 c_0 x_5 p_6 a_8 n_8 c_8 I m (law22_SessionWaits_v1 a_0 n_0 c_0 x_5 p_6 a_8 n_8 c_8 x_9) (law22_SessionWaits_m1) w := ⟨m', h1, _, rfl, rfl, h2⟩
theorem law22_SessionWaits_rule1 {a_0 : Option Addr} {n_0 : Nat} {c_0 : Nat} {x_5 : Int} {p_6 : Option Addr} {a_8 : Option Addr} {n_8 : Nat} {c_8 : Nat} {x_90 : Int} {R : Value → World → Prop} {w0 : World} (I : Nat → Int → World → Prop) (m0 : Nat) (h0 : I m0 x_90 w0)
    (hr : ∀ (m : Nat) (x_9 : Int) (w : World), I m x_9 w → law22_SessionWaits_L1 a_0 n_0 c_0 x_5 p_6 a_8 n_8 c_8 x_9 (law22_SessionWaits_K1 a_0 n_0 c_0 x_5 p_6 a_8 n_8 c_8 I m) R w) :
    loopD3 law22_SessionWaits_la1 (dnF Try.prog law22_SessionWaits_an (code Try.f5) 392 [0, 0, 1, 0, 1, 1, 1, 1, 1, 1]) (kont3 Try.prog law22_SessionWaits_an (code Try.f5) [1, 1, 1, 1, 1, 1, 0, 1, 0] [] (post3 Try.prog Try.f5 [] R)) (law22_SessionWaits_v1 a_0 n_0 c_0 x_5 p_6 a_8 n_8 c_8 x_90) (law22_SessionWaits_m1) w0 := by
  refine ⟨fun m vals mem w => ∃ x_9, vals = (law22_SessionWaits_v1 a_0 n_0 c_0 x_5 p_6 a_8 n_8 c_8 x_9) ∧ mem = (law22_SessionWaits_m1) ∧ I m x_9 w, m0, ⟨_, rfl, rfl, h0⟩, ?_⟩
  rintro m vals mem w ⟨x_9, rfl, rfl, hI⟩
  refine ⟨rfl, rfl, fun js => ?_⟩
  have h := hr m x_9 w hI
  rw [← law22_SessionWaits_L1_eq _ _ _ _ _ _ _ _ _ _ js] at h
  exact h
def law22_SessionWaits_C2 (a_0 : Option Addr) (n_0 : Nat) (c_0 : Nat) (x_5 : Int) (p_6 : Option Addr) (a_8 : Option Addr) (n_8 : Nat) (c_8 : Nat) (x_9 : Int) (bm0 : Nat) (x_m0_0 : Int) (x_m0_1 : Int) (x_m0_2 : Int) (x_m0_3 : Int) (x_m0_4 : Int) (x_m0_5 : Int) (x_m0_6 : Int) (x_m0_7 : Int) (x_m0_8 : Int) (x_m0_9 : Int) (x_m0_11 : Int) (x_m0_12 : Int) (x_m0_13 : Int) (x_m0_14 : Int) (a_m0_15 : Option Addr) (n_m0_15 : Nat) (c_m0_15 : Nat) (a_m0_16 : Option Addr) (n_m0_16 : Nat) (c_m0_16 : Nat) (K1 : Kh) (R : Value → World → Prop) (w : World) : Prop :=
  Calls Try.prog 11 #[(.pointer p_6), (.agg #[(.int .i64 x_m0_0), (.int .i64 x_m0_1), (.int .i64 x_m0_2), (.int .i64 x_m0_3), (.int .i64 x_m0_4), (.int .i64 x_m0_5), (.int .i64 x_m0_6), (.int .i64 x_m0_7), (.int .i64 x_m0_8), (.int .i64 x_m0_9), (.slice none 0 0), (.int .i64 x_m0_11), (.int .i64 x_m0_12), (.int .i64 x_m0_13), (.int .i64 x_m0_14), (.slice a_m0_15 n_m0_15 c_m0_15), (.slice a_m0_16 n_m0_16 c_m0_16)])] w fun e w77 => ∃ x78 : Int, ∃ x79 : Int, ∃ x80 : Int, ∃ x81 : Int, ∃ (a82 : Option Addr) (n83 c84 : Nat), ∃ (a85 : Option Addr) (n86 c87 : Nat), ∃ t88 : Bool, e = .returned (.tuple #[(.agg #[(.int .i64 x78), (.int .i64 x79), (.int .i64 x80), (.int .i64 x81), (.slice a82 n83 c84), (.slice a85 n86 c87)]), (.bool t88)]) ∧ Keep [bm0] w w77 ∧
  ∀ b89, w77.heap.size ≤ b89 →
  ∀ w90, Adv [] [b89] w77 w90 →
  Calls Try.prog 16 #[] w90 fun e w91 => ∃ x92 : Int, ∃ s93 : ByteArray, ∃ x94 : Int, ∃ x95 : Int, ∃ x96 : Int, ∃ x97 : Int, ∃ x98 : Int, ∃ x99 : Int, ∃ (a100 : Option Addr) (n101 c102 : Nat), ∃ s103 : ByteArray, ∃ s104 : ByteArray, ∃ x105 : Int, ∃ t106 : Bool, ∃ (a107 : Option Addr) (n108 c109 : Nat), e = .returned (.agg #[(.int .i64 x92), (.string s93), (.int .i64 x94), (.int .i64 x95), (.int .i64 x96), (.int .i64 x97), (.int .i64 x98), (.int .i64 x99), (.slice a100 n101 c102), (.string s103), (.string s104), (.int .i64 x105), (.bool t106), (.slice a107 n108 c109)]) ∧ Keep [bm0, b89] w90 w91 ∧
  Calls Try.prog 9 #[(.pointer p_6), (.agg #[(.int .i64 x92), (.string s93), (.int .i64 x94), (.int .i64 x95), (.int .i64 x96), (.int .i64 x97), (.int .i64 x98), (.int .i64 x99), (.slice a100 n101 c102), (.string s103), (.string s104), (.int .i64 x105), (.bool t106), (.slice a107 n108 c109)])] w91 fun e w110 => ∃ x111 : Int, ∃ x112 : Int, ∃ x113 : Int, ∃ x114 : Int, ∃ x115 : Int, ∃ x116 : Int, ∃ x117 : Int, ∃ x118 : Int, ∃ x119 : Int, ∃ x120 : Int, ∃ (a121 : Option Addr) (n122 c123 : Nat), ∃ x124 : Int, ∃ x125 : Int, ∃ x126 : Int, ∃ x127 : Int, ∃ (a128 : Option Addr) (n129 c130 : Nat), ∃ (a131 : Option Addr) (n132 c133 : Nat), ∃ x134 : Int, e = .returned (.tuple #[(.agg #[(.int .i64 x111), (.int .i64 x112), (.int .i64 x113), (.int .i64 x114), (.int .i64 x115), (.int .i64 x116), (.int .i64 x117), (.int .i64 x118), (.int .i64 x119), (.int .i64 x120), (.slice a121 n122 c123), (.int .i64 x124), (.int .i64 x125), (.int .i64 x126), (.int .i64 x127), (.slice a128 n129 c130), (.slice a131 n132 c133)]), (.int .i64 x134)]) ∧ Keep [bm0, b89] w91 w110 ∧
  ∀ b135, w110.heap.size ≤ b135 →
  brB t88 (
    ∀ w136, Adv [] [b135] w110 w136 →
    R (.bool false) w136)
  (
    brB (x134 != 220) (
      ∀ w137, Adv [] [b135] w110 w137 →
      R (.bool false) w137)
    (
      ∀ w138, Adv [] [b135] w110 w138 →
      Calls Try.prog 13 #[(.pointer p_6)] w138 fun e w139 => ∃ (a140 : Option Addr) (n141 c142 : Nat), e = .returned (.slice a140 n141 c142) ∧ Keep [bm0, b89, b135] w138 w139 ∧
      Calls Try.prog 18 #[(.slice a140 n141 c142), (.slice a_8 n_8 c_8)] w139 fun e w143 => ∃ t144 : Bool, e = .returned (.bool t144) ∧ Keep [bm0, b89, b135] w139 w143 ∧
      brB (!t144) (
        R (.bool false) w143)
      (
        K1 (law22_SessionWaits_v1 a_0 n_0 c_0 x_5 p_6 a_8 n_8 c_8 (IntKind.wrap .i64 (x_9 + 1))) (law22_SessionWaits_m1) w143)))
theorem law22_SessionWaits_C2_eq (a_0 : Option Addr) (n_0 : Nat) (c_0 : Nat) (x_5 : Int) (p_6 : Option Addr) (a_8 : Option Addr) (n_8 : Nat) (c_8 : Nat) (x_9 : Int) (bm0 : Nat) (x_m0_0 : Int) (x_m0_1 : Int) (x_m0_2 : Int) (x_m0_3 : Int) (x_m0_4 : Int) (x_m0_5 : Int) (x_m0_6 : Int) (x_m0_7 : Int) (x_m0_8 : Int) (x_m0_9 : Int) (x_m0_11 : Int) (x_m0_12 : Int) (x_m0_13 : Int) (x_m0_14 : Int) (a_m0_15 : Option Addr) (n_m0_15 : Nat) (c_m0_15 : Nat) (a_m0_16 : Option Addr) (n_m0_16 : Nat) (c_m0_16 : Nat) (K1 : Kh) (js : Nat → Value) (R : Value → World → Prop) (w : World) :
    headA law22_SessionWaits_la2 ((dnF Try.prog law22_SessionWaits_an (code Try.f5) 388 [1, 1, 1, 0, 0, 1, 0, 0, 1, 0, 1, 1, 1, 1, 1, 1]) (kont3 Try.prog law22_SessionWaits_an (code Try.f5) [1, 1, 1, 1, 1, 1, 0, 1, 0, 0, 1, 0, 0, 1, 1] [K1] (post3 Try.prog Try.f5 [] R))) (law22_SessionWaits_v2 a_0 n_0 c_0 x_5 p_6 a_8 n_8 c_8 x_9 bm0) js (law22_SessionWaits_m2 bm0 x_m0_0 x_m0_1 x_m0_2 x_m0_3 x_m0_4 x_m0_5 x_m0_6 x_m0_7 x_m0_8 x_m0_9 x_m0_11 x_m0_12 x_m0_13 x_m0_14 a_m0_15 n_m0_15 c_m0_15 a_m0_16 n_m0_16 c_m0_16) w = law22_SessionWaits_C2 a_0 n_0 c_0 x_5 p_6 a_8 n_8 c_8 x_9 bm0 x_m0_0 x_m0_1 x_m0_2 x_m0_3 x_m0_4 x_m0_5 x_m0_6 x_m0_7 x_m0_8 x_m0_9 x_m0_11 x_m0_12 x_m0_13 x_m0_14 a_m0_15 n_m0_15 c_m0_15 a_m0_16 n_m0_16 c_m0_16 K1 R w := by kernel_rfl
theorem law22_SessionWaits_cut2 {a_00 : Option Addr} {n_00 : Nat} {c_00 : Nat} {x_50 : Int} {p_60 : Option Addr} {a_80 : Option Addr} {n_80 : Nat} {c_80 : Nat} {x_90 : Int} {bm00 : Nat} {x_m0_00 : Int} {x_m0_10 : Int} {x_m0_20 : Int} {x_m0_30 : Int} {x_m0_40 : Int} {x_m0_50 : Int} {x_m0_60 : Int} {x_m0_70 : Int} {x_m0_80 : Int} {x_m0_90 : Int} {x_m0_110 : Int} {x_m0_120 : Int} {x_m0_130 : Int} {x_m0_140 : Int} {a_m0_150 : Option Addr} {n_m0_150 : Nat} {c_m0_150 : Nat} {a_m0_160 : Option Addr} {n_m0_160 : Nat} {c_m0_160 : Nat} {K1 : Kh} {R : Value → World → Prop} {w0 : World} (J : Option Addr → Nat → Nat → Int → Option Addr → Option Addr → Nat → Nat → Int → Nat → Int → Int → Int → Int → Int → Int → Int → Int → Int → Int → Int → Int → Int → Int → Option Addr → Nat → Nat → Option Addr → Nat → Nat → World → Prop) (h0 : J a_00 n_00 c_00 x_50 p_60 a_80 n_80 c_80 x_90 bm00 x_m0_00 x_m0_10 x_m0_20 x_m0_30 x_m0_40 x_m0_50 x_m0_60 x_m0_70 x_m0_80 x_m0_90 x_m0_110 x_m0_120 x_m0_130 x_m0_140 a_m0_150 n_m0_150 c_m0_150 a_m0_160 n_m0_160 c_m0_160 w0)
    (hr : ∀ (a_0 : Option Addr) (n_0 : Nat) (c_0 : Nat) (x_5 : Int) (p_6 : Option Addr) (a_8 : Option Addr) (n_8 : Nat) (c_8 : Nat) (x_9 : Int) (bm0 : Nat) (x_m0_0 : Int) (x_m0_1 : Int) (x_m0_2 : Int) (x_m0_3 : Int) (x_m0_4 : Int) (x_m0_5 : Int) (x_m0_6 : Int) (x_m0_7 : Int) (x_m0_8 : Int) (x_m0_9 : Int) (x_m0_11 : Int) (x_m0_12 : Int) (x_m0_13 : Int) (x_m0_14 : Int) (a_m0_15 : Option Addr) (n_m0_15 : Nat) (c_m0_15 : Nat) (a_m0_16 : Option Addr) (n_m0_16 : Nat) (c_m0_16 : Nat) (w : World), J a_0 n_0 c_0 x_5 p_6 a_8 n_8 c_8 x_9 bm0 x_m0_0 x_m0_1 x_m0_2 x_m0_3 x_m0_4 x_m0_5 x_m0_6 x_m0_7 x_m0_8 x_m0_9 x_m0_11 x_m0_12 x_m0_13 x_m0_14 a_m0_15 n_m0_15 c_m0_15 a_m0_16 n_m0_16 c_m0_16 w → law22_SessionWaits_C2 a_0 n_0 c_0 x_5 p_6 a_8 n_8 c_8 x_9 bm0 x_m0_0 x_m0_1 x_m0_2 x_m0_3 x_m0_4 x_m0_5 x_m0_6 x_m0_7 x_m0_8 x_m0_9 x_m0_11 x_m0_12 x_m0_13 x_m0_14 a_m0_15 n_m0_15 c_m0_15 a_m0_16 n_m0_16 c_m0_16 K1 R w) :
    cutD3 law22_SessionWaits_la2 ((dnF Try.prog law22_SessionWaits_an (code Try.f5) 388 [1, 1, 1, 0, 0, 1, 0, 0, 1, 0, 1, 1, 1, 1, 1, 1]) (kont3 Try.prog law22_SessionWaits_an (code Try.f5) [1, 1, 1, 1, 1, 1, 0, 1, 0, 0, 1, 0, 0, 1, 1] [K1] (post3 Try.prog Try.f5 [] R))) (law22_SessionWaits_v2 a_00 n_00 c_00 x_50 p_60 a_80 n_80 c_80 x_90 bm00) (law22_SessionWaits_m2 bm00 x_m0_00 x_m0_10 x_m0_20 x_m0_30 x_m0_40 x_m0_50 x_m0_60 x_m0_70 x_m0_80 x_m0_90 x_m0_110 x_m0_120 x_m0_130 x_m0_140 a_m0_150 n_m0_150 c_m0_150 a_m0_160 n_m0_160 c_m0_160) w0 := by
  refine ⟨fun vals mem w => ∃ a_0 n_0 c_0 x_5 p_6 a_8 n_8 c_8 x_9 bm0 x_m0_0 x_m0_1 x_m0_2 x_m0_3 x_m0_4 x_m0_5 x_m0_6 x_m0_7 x_m0_8 x_m0_9 x_m0_11 x_m0_12 x_m0_13 x_m0_14 a_m0_15 n_m0_15 c_m0_15 a_m0_16 n_m0_16 c_m0_16, vals = (law22_SessionWaits_v2 a_0 n_0 c_0 x_5 p_6 a_8 n_8 c_8 x_9 bm0) ∧ mem = (law22_SessionWaits_m2 bm0 x_m0_0 x_m0_1 x_m0_2 x_m0_3 x_m0_4 x_m0_5 x_m0_6 x_m0_7 x_m0_8 x_m0_9 x_m0_11 x_m0_12 x_m0_13 x_m0_14 a_m0_15 n_m0_15 c_m0_15 a_m0_16 n_m0_16 c_m0_16) ∧ J a_0 n_0 c_0 x_5 p_6 a_8 n_8 c_8 x_9 bm0 x_m0_0 x_m0_1 x_m0_2 x_m0_3 x_m0_4 x_m0_5 x_m0_6 x_m0_7 x_m0_8 x_m0_9 x_m0_11 x_m0_12 x_m0_13 x_m0_14 a_m0_15 n_m0_15 c_m0_15 a_m0_16 n_m0_16 c_m0_16 w, ⟨_, _, _, _, _, _, _, _, _, _, _, _, _, _, _, _, _, _, _, _, _, _, _, _, _, _, _, _, _, _, rfl, rfl, h0⟩, ?_⟩
  rintro vals mem w ⟨a_0, n_0, c_0, x_5, p_6, a_8, n_8, c_8, x_9, bm0, x_m0_0, x_m0_1, x_m0_2, x_m0_3, x_m0_4, x_m0_5, x_m0_6, x_m0_7, x_m0_8, x_m0_9, x_m0_11, x_m0_12, x_m0_13, x_m0_14, a_m0_15, n_m0_15, c_m0_15, a_m0_16, n_m0_16, c_m0_16, rfl, rfl, hJ⟩
  refine ⟨rfl, rfl, fun js => ?_⟩
  have h := hr a_0 n_0 c_0 x_5 p_6 a_8 n_8 c_8 x_9 bm0 x_m0_0 x_m0_1 x_m0_2 x_m0_3 x_m0_4 x_m0_5 x_m0_6 x_m0_7 x_m0_8 x_m0_9 x_m0_11 x_m0_12 x_m0_13 x_m0_14 a_m0_15 n_m0_15 c_m0_15 a_m0_16 n_m0_16 c_m0_16 w hJ
  rw [← law22_SessionWaits_C2_eq _ _ _ _ _ _ _ _ _ _ _ _ _ _ _ _ _ _ _ _ _ _ _ _ _ _ _ _ _ _ _ js] at h
  exact h
/-- stagecoach/stagecoachlaw22.SessionWaits -/
def law22_SessionWaits_T (a0_l_a : Option Addr) (a0_l_n : Nat) (a0_l_c : Nat) (a1_client : Int) (R : Value → World → Prop) (w : World) : Prop :=
  Calls Try.prog 6 #[(.int .i64 (IntKind.wrap .i64 (1 + (bAnd .i64 a1_client 65535)))), (.int .i64 3)] w fun e w1 => ∃ p2 : Option Addr, ∃ x3 : Int, e = .returned (.tuple #[(.pointer p2), (.int .i64 x3)]) ∧
  brB (Option.isNone p2) (
    R (.bool false) w1)
  (
    brB (x3 != 0) (
      R (.bool false) w1)
    (
      Calls Try.prog 16 #[] w1 fun e w4 => ∃ x5 : Int, ∃ s6 : ByteArray, ∃ x7 : Int, ∃ x8 : Int, ∃ x9 : Int, ∃ x10 : Int, ∃ x11 : Int, ∃ x12 : Int, ∃ (a13 : Option Addr) (n14 c15 : Nat), ∃ s16 : ByteArray, ∃ s17 : ByteArray, ∃ x18 : Int, ∃ t19 : Bool, ∃ (a20 : Option Addr) (n21 c22 : Nat), e = .returned (.agg #[(.int .i64 x5), (.string s6), (.int .i64 x7), (.int .i64 x8), (.int .i64 x9), (.int .i64 x10), (.int .i64 x11), (.int .i64 x12), (.slice a13 n14 c15), (.string s16), (.string s17), (.int .i64 x18), (.bool t19), (.slice a20 n21 c22)]) ∧
      Calls Try.prog 9 #[(.pointer p2), (.agg #[(.int .i64 x5), (.string s6), (.int .i64 x7), (.int .i64 x8), (.int .i64 x9), (.int .i64 x10), (.int .i64 x11), (.int .i64 x12), (.slice a13 n14 c15), (.string s16), (.string s17), (.int .i64 x18), (.bool t19), (.slice a20 n21 c22)])] w4 fun e w23 => ∃ x24 : Int, ∃ x25 : Int, ∃ x26 : Int, ∃ x27 : Int, ∃ x28 : Int, ∃ x29 : Int, ∃ x30 : Int, ∃ x31 : Int, ∃ x32 : Int, ∃ x33 : Int, ∃ (a34 : Option Addr) (n35 c36 : Nat), ∃ x37 : Int, ∃ x38 : Int, ∃ x39 : Int, ∃ x40 : Int, ∃ (a41 : Option Addr) (n42 c43 : Nat), ∃ (a44 : Option Addr) (n45 c46 : Nat), ∃ x47 : Int, e = .returned (.tuple #[(.agg #[(.int .i64 x24), (.int .i64 x25), (.int .i64 x26), (.int .i64 x27), (.int .i64 x28), (.int .i64 x29), (.int .i64 x30), (.int .i64 x31), (.int .i64 x32), (.int .i64 x33), (.slice a34 n35 c36), (.int .i64 x37), (.int .i64 x38), (.int .i64 x39), (.int .i64 x40), (.slice a41 n42 c43), (.slice a44 n45 c46)]), (.int .i64 x47)]) ∧
      Calls Try.prog 13 #[(.pointer p2)] w23 fun e w48 => ∃ (a49 : Option Addr) (n50 c51 : Nat), e = .returned (.slice a49 n50 c51) ∧
      loopD3 law22_SessionWaits_la1 (dnF Try.prog law22_SessionWaits_an (code Try.f5) 392 [0, 0, 1, 0, 1, 1, 1, 1, 1, 1]) (kont3 Try.prog law22_SessionWaits_an (code Try.f5) [1, 1, 1, 1, 1, 1, 0, 1, 0] [] (post3 Try.prog Try.f5 [] R)) (law22_SessionWaits_v1 a0_l_a a0_l_n a0_l_c (IntKind.wrap .i64 (1 + (bAnd .i64 a1_client 65535))) p2 a49 n50 c51 0) (law22_SessionWaits_m1) w48))
theorem law22_SessionWaits_eq (a0_l_a : Option Addr) (a0_l_n : Nat) (a0_l_c : Nat) (a1_client : Int) (R : Value → World → Prop) (w : World) :
    dnF Try.prog law22_SessionWaits_an (code Try.f5) 400 [] (post3 Try.prog Try.f5 [] R) ⟨args0 0 [(.slice a0_l_a a0_l_n a0_l_c), (.int .i64 a1_client)], fun _ => undef⟩ ⟨[], w, [], [], true⟩ = law22_SessionWaits_T a0_l_a a0_l_n a0_l_c a1_client R w := by kernel_rfl
theorem law22_SessionWaits_go {a0_l_a : Option Addr} {a0_l_n : Nat} {a0_l_c : Nat} {a1_client : Int} {R : Value → World → Prop} {w : World} (h : law22_SessionWaits_T a0_l_a a0_l_n a0_l_c a1_client R w) :
    Calls Try.prog 5 #[(.slice a0_l_a a0_l_n a0_l_c), (.int .i64 a1_client)] w fun e w' => ∃ v, e = .returned v ∧ R v w' :=
  calls_none Try.wide_mixed (f := 5) (args := [(.slice a0_l_a a0_l_n a0_l_c), (.int .i64 a1_client)]) Try.func5 rfl rfl (by kernel_rfl) rfl (Eq.mpr (law22_SessionWaits_eq a0_l_a a0_l_n a0_l_c a1_client R w) h)

end Go.Proofs.Ytohgihgddknmmaa
