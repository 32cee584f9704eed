/- The conditions of Go functions' bodies, printed by gen.py. -/
import Derived.Test.YtkdpopkbongabaaBase
namespace Go.Proofs.Ytkdpopkbongabaa
open Go Go.RowKit
set_option linter.unusedVariables false
set_option maxRecDepth 100000

/-- stagecoach/stagecoachref03.Num -/
def ref03_Num_T (a0_n : Int) (R : Value → World → Prop) (w : World) : Prop :=
  brB (decide (a0_n ≥ 0)) (R (.bool (decide (a0_n ≤ 1099511627776))) w)
  (R (.bool false) w)
theorem ref03_Num_eq (a0_n : Int) (R : Value → World → Prop) (w : World) :
    den Try.prog (code Try.f33) (post Try.prog Try.f33 R) [(.int .i64 a0_n), undef, undef, undef, undef, undef, undef, undef, undef] w = ref03_Num_T a0_n R w := by kernel_rfl
theorem ref03_Num_go {a0_n : Int} {R : Value → World → Prop} {w : World} (h : ref03_Num_T a0_n R w) :
    Calls Try.prog 33 #[(.int .i64 a0_n)] w fun e w' => ∃ v, e = .returned v ∧ R v w' :=
  calls_den Try.wide_mixed (f := 33) (args := [(.int .i64 a0_n)]) Try.func33 rfl rfl (Eq.mpr (ref03_Num_eq a0_n R w) h)
def ref17_Need_fr1 (x_0 : Int) (x_3 : Int) (js1 : Nat → Value) : Fr := [(.int .i64 x_0), (js1 1), (js1 2), (.int .i64 x_3), (js1 4), (js1 5), (js1 6), (js1 7), (js1 8), (js1 9), (js1 10), (js1 11), (js1 12), (js1 13), (js1 14), (js1 15), (js1 16)]
def ref17_Need_L1 (x_0 : Int) (x_3 : Int) (K1 : Fr → World → Prop) (js1 : Nat → Value) (R : Value → World → Prop) (w : World) : Prop :=
  brB (decide ((IntKind.wrap .i64 (2 * x_3)) ≤ x_0)) (
    K1 (ref17_Need_fr1 x_0 (IntKind.wrap .i64 (x_3 + 1)) (jk [(10, (.int .i64 x_3)), (11, (.int .i64 (IntKind.wrap .i64 (2 * x_3)))), (12, (.int .i64 x_0)), (13, (.bool (decide ((IntKind.wrap .i64 (2 * x_3)) ≤ x_0)))), (14, (.int .i64 x_3)), (15, (.int .i64 (IntKind.wrap .i64 (x_3 + 1))))] js1)) w)
  (R (.int .i64 x_3) w)
theorem ref17_Need_L1_eq (x_0 : Int) (x_3 : Int) (K1 : Fr → World → Prop) (js1 : Nat → Value) (R : Value → World → Prop) (w : World) :
    den Try.prog (sub (code Try.f20) [1, 1, 1, 0, 0, 0]) (kthen K1 (kont Try.prog (code Try.f20) [1, 1, 1, 0, 0] [] (post Try.prog Try.f20 R))) (ref17_Need_fr1 x_0 x_3 js1) w = ref17_Need_L1 x_0 x_3 K1 js1 R w := by kernel_rfl
def ref17_Need_K1 (x_0 : Int) (I : Nat → Int → World → Prop) (m : Nat) (fr : Fr) (w : World) : Prop := ∃ m', m' < m ∧ ∃ x_3 js, fr = ref17_Need_fr1 x_0 x_3 js ∧ I m' x_3 w
theorem ref17_Need_leaf1 {x_0 : Int} {I : Nat → Int → World → Prop} {m : Nat} {x_3 : Int} {js : Nat → Value} {w : World} (m' : Nat) (h1 : m' < m) (h2 : I m' x_3 w) : ref17_Need_K1 x_0 I m (ref17_Need_fr1 x_0 x_3 js) w := ⟨m', h1, _, _, rfl, h2⟩
theorem ref17_Need_rule1 {x_0 : Int} {x_30 : Int} {js0 : Nat → Value} {R : Value → World → Prop} {w0 : World} (I : Nat → Int → World → Prop) (m0 : Nat) (h0 : I m0 x_30 w0)
    (hr : ∀ (m : Nat) (x_3 : Int) (js : Nat → Value) (w : World), I m x_3 w → ref17_Need_L1 x_0 x_3 (ref17_Need_K1 x_0 I m) js R w) :
    loopD (den Try.prog (sub (code Try.f20) [1, 1, 1, 0, 0, 0])) (kont Try.prog (code Try.f20) [1, 1, 1, 0, 0] [] (post Try.prog Try.f20 R)) (ref17_Need_fr1 x_0 x_30 js0) w0 := by
  refine ⟨fun m fr w => ∃ x_3 js, fr = ref17_Need_fr1 x_0 x_3 js ∧ I m x_3 w, m0, ⟨_, _, rfl, h0⟩, ?_⟩
  rintro m fr w ⟨x_3, js, rfl, hI⟩
  have h := hr m x_3 js w hI
  rw [← ref17_Need_L1_eq] at h
  exact h
/-- stagecoach/stagecoachref17.Need -/
def ref17_Need_T (a0_n : Int) (R : Value → World → Prop) (w : World) : Prop :=
  brB (decide (a0_n < 1)) (R (.int .i64 0) w)
  (
    brB (decide (a0_n > 7)) (R (.int .i64 0) w)
    (
      loopD (den Try.prog (sub (code Try.f20) [1, 1, 1, 0, 0, 0])) (kont Try.prog (code Try.f20) [1, 1, 1, 0, 0] [] (post Try.prog Try.f20 R)) (ref17_Need_fr1 a0_n 0 (jk [(2, (.int .i64 0)), (4, (.int .i64 a0_n)), (5, (.bool (decide (a0_n < 1)))), (6, (.bool false)), (7, (.int .i64 a0_n)), (8, (.bool (decide (a0_n > 7)))), (9, (.bool (decide (a0_n > 7))))] (fun _ => undef))) w))
theorem ref17_Need_eq (a0_n : Int) (R : Value → World → Prop) (w : World) :
    den Try.prog (code Try.f20) (post Try.prog Try.f20 R) [(.int .i64 a0_n), undef, undef, undef, undef, undef, undef, undef, undef, undef, undef, undef, undef, undef, undef, undef, undef] w = ref17_Need_T a0_n R w := by kernel_rfl
theorem ref17_Need_go {a0_n : Int} {R : Value → World → Prop} {w : World} (h : ref17_Need_T a0_n R w) :
    Calls Try.prog 20 #[(.int .i64 a0_n)] w fun e w' => ∃ v, e = .returned v ∧ R v w' :=
  calls_den Try.wide_mixed (f := 20) (args := [(.int .i64 a0_n)]) Try.func20 rfl rfl (Eq.mpr (ref17_Need_eq a0_n R w) h)
/-- stagecoach/stagecoachref17.Primary -/
def ref17_Primary_T (a0_view : Int) (a1_n : Int) (R : Value → World → Prop) (w : World) : Prop :=
  brB (decide (a1_n < 1)) (R (.int .i64 (-1)) w)
  (
    brB (decide (a1_n > 7)) (R (.int .i64 (-1)) w)
    (
      brB (decide (a0_view < 0)) (R (.int .i64 (-1)) w)
      (nz a1_n (R (.int .i64 (Int.tmod a0_view a1_n)) w))))
theorem ref17_Primary_eq (a0_view : Int) (a1_n : Int) (R : Value → World → Prop) (w : World) :
    den Try.prog (code Try.f18) (post Try.prog Try.f18 R) [(.int .i64 a0_view), (.int .i64 a1_n), undef, undef, undef, undef, undef, undef, undef, undef, undef, undef, undef, undef, undef, undef, undef, undef] w = ref17_Primary_T a0_view a1_n R w := by kernel_rfl
theorem ref17_Primary_go {a0_view : Int} {a1_n : Int} {R : Value → World → Prop} {w : World} (h : ref17_Primary_T a0_view a1_n R w) :
    Calls Try.prog 18 #[(.int .i64 a0_view), (.int .i64 a1_n)] w fun e w' => ∃ v, e = .returned v ∧ R v w' :=
  calls_den Try.wide_mixed (f := 18) (args := [(.int .i64 a0_view), (.int .i64 a1_n)]) Try.func18 rfl rfl (Eq.mpr (ref17_Primary_eq a0_view a1_n R w) h)
/-- stagecoach/stagecoachref17.New -/
def ref17_New_T (a0_n : Int) (R : Value → World → Prop) (w : World) : Prop :=
  Calls Try.prog 20 #[(.int .i64 a0_n)] w fun e w1 => ∃ x2 : Int, e = .returned (.int .i64 x2) ∧
  brB (x2 == 0) (R (.tuple #[(.pointer none), (.int .i64 1)]) w1)
  (
    al w1 (.cells #[(.int .i64 a0_n), (.slice none 0 0)] 61) fun b3 w4 => R (.tuple #[(.pointer (some ⟨b3, 0, none⟩)), (.int .i64 0)]) w4)
theorem ref17_New_eq (a0_n : Int) (R : Value → World → Prop) (w : World) :
    den Try.prog (code Try.f19) (post Try.prog Try.f19 R) [(.int .i64 a0_n), undef, undef, undef, undef, undef, undef, undef, undef, undef] w = ref17_New_T a0_n R w := by kernel_rfl
theorem ref17_New_go {a0_n : Int} {R : Value → World → Prop} {w : World} (h : ref17_New_T a0_n R w) :
    Calls Try.prog 19 #[(.int .i64 a0_n)] w fun e w' => ∃ v, e = .returned v ∧ R v w' :=
  calls_den Try.wide_mixed (f := 19) (args := [(.int .i64 a0_n)]) Try.func19 rfl rfl (Eq.mpr (ref17_New_eq a0_n R w) h)
def ref17_Box_Vote_fr1 (p_0 : Addr) (x_1 : Int) (x_2 : Int) (b_7 : Nat) (x_9 : Int) (js1 : Nat → Value) : Fr := [(.pointer (some p_0)), (.int .i64 x_1), (.int .i64 x_2), (js1 3), (js1 4), (js1 5), (js1 6), (.pointer (some ⟨b_7, 0, none⟩)), (js1 8), (.int .i64 x_9), (js1 10), (js1 11), (js1 12), (js1 13), (js1 14), (js1 15), (js1 16), (js1 17), (js1 18), (js1 19), (js1 20), (js1 21), (js1 22), (js1 23), (js1 24), (js1 25), (js1 26), (js1 27), (js1 28), (js1 29), (js1 30), (js1 31), (js1 32), (js1 33), (js1 34), (js1 35), (js1 36), (js1 37), (js1 38), (js1 39), (js1 40), (js1 41), (js1 42), (js1 43), (js1 44), (js1 45), (js1 46), (js1 47), (js1 48), (js1 49), (js1 50), (js1 51), (js1 52), (js1 53), (js1 54), (js1 55), (js1 56), (js1 57), (js1 58), (js1 59), (js1 60), (js1 61), (js1 62), (js1 63), (js1 64), (js1 65), (js1 66), (js1 67), (js1 68), (js1 69), (js1 70), (js1 71), (js1 72), (js1 73), (js1 74), (js1 75), (js1 76), (js1 77), (js1 78), (js1 79), (js1 80), (js1 81), (js1 82), (js1 83), (js1 84), (js1 85), (js1 86), (js1 87), (js1 88), (js1 89), (js1 90), (js1 91), (js1 92), (js1 93), (js1 94), (js1 95), (js1 96), (js1 97), (js1 98), (js1 99)]
def ref17_Box_Vote_L1 (p_0 : Addr) (x_1 : Int) (x_2 : Int) (b_7 : Nat) (x_9 : Int) (K1 : Fr → World → Prop) (js1 : Nat → Value) (R : Value → World → Prop) (w : World) : Prop :=
  ldSlice w (Addr.add p_0 1) fun a16 n17 c18 =>
  brB (decide (x_9 < (n17 : Int))) (
    ldSlice w (Addr.add p_0 1) fun a19 n20 c21 =>
    ixA a19 n20 x_9 6 fun q22 =>
    ldInt .i64 w q22 fun x23 => ldInt .i64 w (Addr.add q22 1) fun x24 => ldInt .i64 w (Addr.add q22 2) fun x25 => ldInt .i64 w (Addr.add q22 3) fun x26 => ldInt .i64 w (Addr.add q22 4) fun x27 => ldInt .i64 w (Addr.add q22 5) fun x28 =>
    al w (.cells #[(.int .i64 0), (.int .i64 0), (.int .i64 0), (.int .i64 0), (.int .i64 0), (.int .i64 0)] 63) fun b29 w30 =>
    st w30 ⟨b29, 0, none⟩ [(.int .i64 x23), (.int .i64 x24), (.int .i64 x25), (.int .i64 x26), (.int .i64 x27), (.int .i64 x28)] fun w31 =>
    ldInt .i64 w31 ⟨b29, 0, none⟩ fun x32 =>
    brB (x32 == x_1) (
      ldInt .i64 w31 ⟨b29, 1, none⟩ fun x33 =>
      brB (x33 == x_2) (
        ldInt .i64 w31 ⟨b29, 2, none⟩ fun x34 =>
        ldInt .i64 w31 ⟨b_7, 0, none⟩ fun x35 =>
        brB (x34 == x35) (
          ldInt .i64 w31 ⟨b29, 2, none⟩ fun x36 => ldInt .i64 w31 ⟨b29, 3, none⟩ fun x37 => ldInt .i64 w31 ⟨b29, 4, none⟩ fun x38 => ldInt .i64 w31 ⟨b29, 5, none⟩ fun x39 =>
          ldInt .i64 w31 ⟨b_7, 0, none⟩ fun x40 => ldInt .i64 w31 ⟨b_7, 1, none⟩ fun x41 => ldInt .i64 w31 ⟨b_7, 2, none⟩ fun x42 => ldInt .i64 w31 ⟨b_7, 3, none⟩ fun x43 =>
          ∃ t44 : Bool, (∀ w', Mod [] w31 w' → Sem.run Try.prog (do eqGuard .neq 29 (.tmp 84) (.tmp 85) (.agg #[(.int .i64 x36), (.int .i64 x37), (.int .i64 x38), (.int .i64 x39)]) (.agg #[(.int .i64 x40), (.int .i64 x41), (.int .i64 x42), (.int .i64 x43)]); Go.binOp .neq 29 (.agg #[(.int .i64 x36), (.int .i64 x37), (.int .i64 x38), (.int .i64 x39)]) (.agg #[(.int .i64 x40), (.int .i64 x41), (.int .i64 x42), (.int .i64 x43)])) w' = .ok (.bool t44) w') ∧
          brB t44 (R (.int .i64 170) w31)
          (R (.int .i64 0) w31))
        (
          K1 (ref17_Box_Vote_fr1 p_0 x_1 x_2 b_7 (IntKind.wrap .i64 (x_9 + 1)) (jk [(10, (.pointer (some ⟨b29, 0, none⟩))), (49, (.int .i64 x_9)), (50, (.pointer (some p_0))), (51, (.pointer (some p_0))), (52, (.pointer (some (Addr.add p_0 1)))), (53, (.slice a16 n17 c18)), (54, (.int .i64 (n17 : Int))), (55, (.bool (decide (x_9 < (n17 : Int))))), (56, (.int .i64 x_9)), (57, (.int .i64 (IntKind.wrap .i64 (x_9 + 1)))), (58, (.pointer (some p_0))), (59, (.pointer (some p_0))), (60, (.pointer (some (Addr.add p_0 1)))), (61, (.slice a19 n20 c21)), (62, (.int .i64 x_9)), (63, (.pointer (some q22))), (64, (.agg #[(.int .i64 x23), (.int .i64 x24), (.int .i64 x25), (.int .i64 x26), (.int .i64 x27), (.int .i64 x28)])), (65, (.pointer (some ⟨b29, 0, none⟩))), (66, (.int .i64 x32)), (67, (.int .i64 x_1)), (68, (.bool (x32 == x_1))), (69, (.bool true)), (70, (.pointer (some ⟨b29, 1, none⟩))), (71, (.int .i64 x33)), (72, (.int .i64 x_2)), (73, (.bool (x33 == x_2))), (74, (.bool (x33 == x_2))), (75, (.bool true)), (76, (.pointer (some ⟨b29, 2, none⟩))), (77, (.pointer (some ⟨b29, 2, none⟩))), (78, (.int .i64 x34)), (79, (.pointer (some ⟨b_7, 0, none⟩))), (80, (.int .i64 x35)), (81, (.bool (x34 == x35))), (82, (.bool (x34 == x35)))] js1)) w31))
      (
        K1 (ref17_Box_Vote_fr1 p_0 x_1 x_2 b_7 (IntKind.wrap .i64 (x_9 + 1)) (jk [(10, (.pointer (some ⟨b29, 0, none⟩))), (49, (.int .i64 x_9)), (50, (.pointer (some p_0))), (51, (.pointer (some p_0))), (52, (.pointer (some (Addr.add p_0 1)))), (53, (.slice a16 n17 c18)), (54, (.int .i64 (n17 : Int))), (55, (.bool (decide (x_9 < (n17 : Int))))), (56, (.int .i64 x_9)), (57, (.int .i64 (IntKind.wrap .i64 (x_9 + 1)))), (58, (.pointer (some p_0))), (59, (.pointer (some p_0))), (60, (.pointer (some (Addr.add p_0 1)))), (61, (.slice a19 n20 c21)), (62, (.int .i64 x_9)), (63, (.pointer (some q22))), (64, (.agg #[(.int .i64 x23), (.int .i64 x24), (.int .i64 x25), (.int .i64 x26), (.int .i64 x27), (.int .i64 x28)])), (65, (.pointer (some ⟨b29, 0, none⟩))), (66, (.int .i64 x32)), (67, (.int .i64 x_1)), (68, (.bool (x32 == x_1))), (69, (.bool true)), (70, (.pointer (some ⟨b29, 1, none⟩))), (71, (.int .i64 x33)), (72, (.int .i64 x_2)), (73, (.bool (x33 == x_2))), (74, (.bool (x33 == x_2))), (75, (.bool false)), (76, undef), (77, undef), (78, undef), (79, undef), (80, undef), (81, undef), (82, (.bool false))] js1)) w31))
    (
      K1 (ref17_Box_Vote_fr1 p_0 x_1 x_2 b_7 (IntKind.wrap .i64 (x_9 + 1)) (jk [(10, (.pointer (some ⟨b29, 0, none⟩))), (49, (.int .i64 x_9)), (50, (.pointer (some p_0))), (51, (.pointer (some p_0))), (52, (.pointer (some (Addr.add p_0 1)))), (53, (.slice a16 n17 c18)), (54, (.int .i64 (n17 : Int))), (55, (.bool (decide (x_9 < (n17 : Int))))), (56, (.int .i64 x_9)), (57, (.int .i64 (IntKind.wrap .i64 (x_9 + 1)))), (58, (.pointer (some p_0))), (59, (.pointer (some p_0))), (60, (.pointer (some (Addr.add p_0 1)))), (61, (.slice a19 n20 c21)), (62, (.int .i64 x_9)), (63, (.pointer (some q22))), (64, (.agg #[(.int .i64 x23), (.int .i64 x24), (.int .i64 x25), (.int .i64 x26), (.int .i64 x27), (.int .i64 x28)])), (65, (.pointer (some ⟨b29, 0, none⟩))), (66, (.int .i64 x32)), (67, (.int .i64 x_1)), (68, (.bool (x32 == x_1))), (69, (.bool false)), (70, undef), (71, undef), (72, undef), (73, undef), (74, (.bool false)), (75, (.bool false)), (76, undef), (77, undef), (78, undef), (79, undef), (80, undef), (81, undef), (82, (.bool false))] js1)) w31))
  (
    ∀ w45, Mod [] w w45 →
    ldSlice w45 (Addr.add p_0 1) fun a46 n47 c48 =>
    ldInt .i64 w45 ⟨b_7, 0, none⟩ fun x49 => ldInt .i64 w45 ⟨b_7, 1, none⟩ fun x50 => ldInt .i64 w45 ⟨b_7, 2, none⟩ fun x51 => ldInt .i64 w45 ⟨b_7, 3, none⟩ fun x52 =>
    al w45 (.cells #[(.int .i64 x_1), (.int .i64 x_2), (.int .i64 x49), (.int .i64 x50), (.int .i64 x51), (.int .i64 x52)] 63) fun b53 w54 =>
    effSl Try.prog (Builtin.append_ #[59, 59] 59 #[(.slice a46 n47 c48), (.slice (some ⟨b53, 0, none⟩) 1 1)]) w54 fun a56 n57 c58 w55 =>
    st w55 (Addr.add p_0 1) [(.slice a56 n57 c58)] fun w59 => R (.int .i64 0) w59)
theorem ref17_Box_Vote_L1_eq (p_0 : Addr) (x_1 : Int) (x_2 : Int) (b_7 : Nat) (x_9 : Int) (K1 : Fr → World → Prop) (js1 : Nat → Value) (R : Value → World → Prop) (w : World) :
    den Try.prog (sub (code Try.f21) [1, 1, 0, 1, 0, 0]) (kthen K1 (kont Try.prog (code Try.f21) [1, 1, 0, 1, 0] [] (post Try.prog Try.f21 R))) (ref17_Box_Vote_fr1 p_0 x_1 x_2 b_7 x_9 js1) w = ref17_Box_Vote_L1 p_0 x_1 x_2 b_7 x_9 K1 js1 R w := by kernel_rfl
def ref17_Box_Vote_K1 (p_0 : Addr) (x_1 : Int) (x_2 : Int) (b_7 : Nat) (I : Nat → Int → World → Prop) (m : Nat) (fr : Fr) (w : World) : Prop := ∃ m', m' < m ∧ ∃ x_9 js, fr = ref17_Box_Vote_fr1 p_0 x_1 x_2 b_7 x_9 js ∧ I m' x_9 w
theorem ref17_Box_Vote_leaf1 {p_0 : Addr} {x_1 : Int} {x_2 : Int} {b_7 : Nat} {I : Nat → Int → World → Prop} {m : Nat} {x_9 : Int} {js : Nat → Value} {w : World} (m' : Nat) (h1 : m' < m) (h2 : I m' x_9 w) : ref17_Box_Vote_K1 p_0 x_1 x_2 b_7 I m (ref17_Box_Vote_fr1 p_0 x_1 x_2 b_7 x_9 js) w := ⟨m', h1, _, _, rfl, h2⟩
theorem ref17_Box_Vote_rule1 {p_0 : Addr} {x_1 : Int} {x_2 : Int} {b_7 : Nat} {x_90 : Int} {js0 : Nat → Value} {R : Value → World → Prop} {w0 : World} (I : Nat → Int → World → Prop) (m0 : Nat) (h0 : I m0 x_90 w0)
    (hr : ∀ (m : Nat) (x_9 : Int) (js : Nat → Value) (w : World), I m x_9 w → ref17_Box_Vote_L1 p_0 x_1 x_2 b_7 x_9 (ref17_Box_Vote_K1 p_0 x_1 x_2 b_7 I m) js R w) :
    loopD (den Try.prog (sub (code Try.f21) [1, 1, 0, 1, 0, 0])) (kont Try.prog (code Try.f21) [1, 1, 0, 1, 0] [] (post Try.prog Try.f21 R)) (ref17_Box_Vote_fr1 p_0 x_1 x_2 b_7 x_90 js0) w0 := by
  refine ⟨fun m fr w => ∃ x_9 js, fr = ref17_Box_Vote_fr1 p_0 x_1 x_2 b_7 x_9 js ∧ I m x_9 w, m0, ⟨_, _, rfl, h0⟩, ?_⟩
  rintro m fr w ⟨x_9, js, rfl, hI⟩
  have h := hr m x_9 js w hI
  rw [← ref17_Box_Vote_L1_eq] at h
  exact h
/-- (*stagecoach/stagecoachref17.Box).Vote -/
def ref17_Box_Vote_T (a0_b : Addr) (a1_view : Int) (a2_kind : Int) (a3_v_0 : Int) (a3_v_1 : Int) (a3_v_2 : Int) (a3_v_3 : Int) (R : Value → World → Prop) (w : World) : Prop :=
  al w (.cells #[(.int .i64 a3_v_0), (.int .i64 a3_v_1), (.int .i64 a3_v_2), (.int .i64 a3_v_3)] 29) fun b1 w2 =>
  ∀ w3, Mod [] w2 w3 →
  brB (decide (a1_view < 0)) (R (.int .i64 1) w3)
  (
    brB (decide (a2_kind < 0)) (R (.int .i64 1) w3)
    (
      ldInt .i64 w3 ⟨b1, 0, none⟩ fun x4 =>
      brB (decide (x4 < 0)) (R (.int .i64 1) w3)
      (
        ldInt .i64 w3 ⟨b1, 0, none⟩ fun x5 =>
        ldInt .i64 w3 a0_b fun x6 =>
        brB (decide (x5 ≥ x6)) (R (.int .i64 1) w3)
        (
          ldInt .i64 w3 ⟨b1, 1, none⟩ fun x7 =>
          Calls Try.prog 33 #[(.int .i64 x7)] w3 fun e w8 => ∃ t9 : Bool, e = .returned (.bool t9) ∧
          brB (!t9) (R (.int .i64 1) w8)
          (
            ldInt .i64 w8 ⟨b1, 2, none⟩ fun x10 =>
            Calls Try.prog 33 #[(.int .i64 x10)] w8 fun e w11 => ∃ t12 : Bool, e = .returned (.bool t12) ∧
            brB (!t12) (R (.int .i64 1) w11)
            (
              ldInt .i64 w11 ⟨b1, 3, none⟩ fun x13 =>
              Calls Try.prog 33 #[(.int .i64 x13)] w11 fun e w14 => ∃ t15 : Bool, e = .returned (.bool t15) ∧
              brB (!t15) (R (.int .i64 1) w14)
              (
                loopD (den Try.prog (sub (code Try.f21) [1, 1, 0, 1, 0, 0])) (kont Try.prog (code Try.f21) [1, 1, 0, 1, 0] [] (post Try.prog Try.f21 R)) (ref17_Box_Vote_fr1 a0_b a1_view a2_kind b1 0 (jk [(3, (.agg #[(.int .i64 a3_v_0), (.int .i64 a3_v_1), (.int .i64 a3_v_2), (.int .i64 a3_v_3)])), (8, (.int .i64 0)), (11, (.int .i64 a1_view)), (12, (.bool (decide (a1_view < 0)))), (13, (.bool false)), (14, (.int .i64 a2_kind)), (15, (.bool (decide (a2_kind < 0)))), (16, (.bool (decide (a2_kind < 0)))), (17, (.bool false)), (18, (.pointer (some ⟨b1, 0, none⟩))), (19, (.int .i64 x4)), (20, (.bool (decide (x4 < 0)))), (21, (.bool (decide (x4 < 0)))), (22, (.bool false)), (23, (.pointer (some ⟨b1, 0, none⟩))), (24, (.int .i64 x5)), (25, (.pointer (some a0_b))), (26, (.pointer (some a0_b))), (27, (.pointer (some a0_b))), (28, (.int .i64 x6)), (29, (.bool (decide (x5 ≥ x6)))), (30, (.bool (decide (x5 ≥ x6)))), (31, (.bool false)), (32, (.pointer (some ⟨b1, 1, none⟩))), (33, (.int .i64 x7)), (34, (.bool t9)), (35, (.bool (!t9))), (36, (.bool (!t9))), (37, (.bool false)), (38, (.pointer (some ⟨b1, 2, none⟩))), (39, (.int .i64 x10)), (40, (.bool t12)), (41, (.bool (!t12))), (42, (.bool (!t12))), (43, (.bool false)), (44, (.pointer (some ⟨b1, 3, none⟩))), (45, (.int .i64 x13)), (46, (.bool t15)), (47, (.bool (!t15))), (48, (.bool (!t15)))] (fun _ => undef))) w14)))))))
theorem ref17_Box_Vote_eq (a0_b : Addr) (a1_view : Int) (a2_kind : Int) (a3_v_0 : Int) (a3_v_1 : Int) (a3_v_2 : Int) (a3_v_3 : Int) (R : Value → World → Prop) (w : World) :
    den Try.prog (code Try.f21) (post Try.prog Try.f21 R) [(.pointer (some a0_b)), (.int .i64 a1_view), (.int .i64 a2_kind), (.agg #[(.int .i64 a3_v_0), (.int .i64 a3_v_1), (.int .i64 a3_v_2), (.int .i64 a3_v_3)]), undef, undef, undef, undef, undef, undef, undef, undef, undef, undef, undef, undef, undef, undef, undef, undef, undef, undef, undef, undef, undef, undef, undef, undef, undef, undef, undef, undef, undef, undef, undef, undef, undef, undef, undef, undef, undef, undef, undef, undef, undef, undef, undef, undef, undef, undef, undef, undef, undef, undef, undef, undef, undef, undef, undef, undef, undef, undef, undef, undef, undef, undef, undef, undef, undef, undef, undef, undef, undef, undef, undef, undef, undef, undef, undef, undef, undef, undef, undef, undef, undef, undef, undef, undef, undef, undef, undef, undef, undef, undef, undef, undef, undef, undef, undef, undef] w = ref17_Box_Vote_T a0_b a1_view a2_kind a3_v_0 a3_v_1 a3_v_2 a3_v_3 R w := by kernel_rfl
theorem ref17_Box_Vote_go {a0_b : Addr} {a1_view : Int} {a2_kind : Int} {a3_v_0 : Int} {a3_v_1 : Int} {a3_v_2 : Int} {a3_v_3 : Int} {R : Value → World → Prop} {w : World} (h : ref17_Box_Vote_T a0_b a1_view a2_kind a3_v_0 a3_v_1 a3_v_2 a3_v_3 R w) :
    Calls Try.prog 21 #[(.pointer (some a0_b)), (.int .i64 a1_view), (.int .i64 a2_kind), (.agg #[(.int .i64 a3_v_0), (.int .i64 a3_v_1), (.int .i64 a3_v_2), (.int .i64 a3_v_3)])] w fun e w' => ∃ v, e = .returned v ∧ R v w' :=
  calls_den Try.wide_mixed (f := 21) (args := [(.pointer (some a0_b)), (.int .i64 a1_view), (.int .i64 a2_kind), (.agg #[(.int .i64 a3_v_0), (.int .i64 a3_v_1), (.int .i64 a3_v_2), (.int .i64 a3_v_3)])]) Try.func21 rfl rfl (Eq.mpr (ref17_Box_Vote_eq a0_b a1_view a2_kind a3_v_0 a3_v_1 a3_v_2 a3_v_3 R w) h)
def ref17_Box_Votes_fr1 (p_0 : Addr) (x_1 : Int) (x_2 : Int) (a_7 : Option Addr) (n_7 : Nat) (c_7 : Nat) (x_8 : Int) (js1 : Nat → Value) : Fr := [(.pointer (some p_0)), (.int .i64 x_1), (.int .i64 x_2), (js1 3), (js1 4), (js1 5), (js1 6), (.slice a_7 n_7 c_7), (.int .i64 x_8), (js1 9), (js1 10), (js1 11), (js1 12), (js1 13), (js1 14), (js1 15), (js1 16), (js1 17), (js1 18), (js1 19), (js1 20), (js1 21), (js1 22), (js1 23), (js1 24), (js1 25), (js1 26), (js1 27), (js1 28), (js1 29), (js1 30), (js1 31), (js1 32), (js1 33), (js1 34), (js1 35), (js1 36), (js1 37), (js1 38), (js1 39), (js1 40), (js1 41), (js1 42), (js1 43), (js1 44), (js1 45), (js1 46), (js1 47), (js1 48), (js1 49), (js1 50), (js1 51), (js1 52), (js1 53), (js1 54), (js1 55), (js1 56), (js1 57), (js1 58), (js1 59), (js1 60), (js1 61), (js1 62), (js1 63), (js1 64), (js1 65), (js1 66), (js1 67), (js1 68), (js1 69), (js1 70), (js1 71), (js1 72), (js1 73), (js1 74)]
def ref17_Box_Votes_fr2 (p_0 : Addr) (x_1 : Int) (x_2 : Int) (x_8 : Int) (a_7 : Option Addr) (n_7 : Nat) (c_7 : Nat) (x_9 : Int) (js2 : Nat → Value) : Fr := [(.pointer (some p_0)), (.int .i64 x_1), (.int .i64 x_2), (js2 3), (js2 4), (js2 5), (js2 6), (.slice a_7 n_7 c_7), (.int .i64 x_8), (.int .i64 x_9), (js2 10), (js2 11), (js2 12), (js2 13), (js2 14), (js2 15), (js2 16), (js2 17), (js2 18), (js2 19), (js2 20), (js2 21), (js2 22), (js2 23), (js2 24), (js2 25), (js2 26), (js2 27), (js2 28), (js2 29), (js2 30), (js2 31), (js2 32), (js2 33), (js2 34), (js2 35), (js2 36), (js2 37), (js2 38), (js2 39), (js2 40), (js2 41), (js2 42), (js2 43), (js2 44), (js2 45), (js2 46), (js2 47), (js2 48), (js2 49), (js2 50), (js2 51), (js2 52), (js2 53), (js2 54), (js2 55), (js2 56), (js2 57), (js2 58), (js2 59), (js2 60), (js2 61), (js2 62), (js2 63), (js2 64), (js2 65), (js2 66), (js2 67), (js2 68), (js2 69), (js2 70), (js2 71), (js2 72), (js2 73), (js2 74)]
def ref17_Box_Votes_L1 (p_0 : Addr) (x_1 : Int) (x_2 : Int) (a_7 : Option Addr) (n_7 : Nat) (c_7 : Nat) (x_8 : Int) (K1 : Fr → World → Prop) (js1 : Nat → Value) (R : Value → World → Prop) (w : World) : Prop :=
  ldInt .i64 w p_0 fun x3 =>
  brB (decide (x_8 < x3)) (
    loopD (den Try.prog (sub (code Try.f26) [1, 1, 0, 1, 0, 0, 1, 0, 0, 1, 0, 0])) (kont Try.prog (code Try.f26) [1, 1, 0, 1, 0, 0, 1, 0, 0, 1, 0] [K1] (post Try.prog Try.f26 R)) (ref17_Box_Votes_fr2 p_0 x_1 x_2 x_8 a_7 n_7 c_7 0 (jk [(11, (.int .i64 x_8)), (12, (.pointer (some p_0))), (13, (.pointer (some p_0))), (14, (.pointer (some p_0))), (15, (.int .i64 x3)), (16, (.bool (decide (x_8 < x3))))] js1)) w)
  (R (.slice a_7 n_7 c_7) w)
theorem ref17_Box_Votes_L1_eq (p_0 : Addr) (x_1 : Int) (x_2 : Int) (a_7 : Option Addr) (n_7 : Nat) (c_7 : Nat) (x_8 : Int) (K1 : Fr → World → Prop) (js1 : Nat → Value) (R : Value → World → Prop) (w : World) :
    den Try.prog (sub (code Try.f26) [1, 1, 0, 1, 0, 0]) (kthen K1 (kont Try.prog (code Try.f26) [1, 1, 0, 1, 0] [] (post Try.prog Try.f26 R))) (ref17_Box_Votes_fr1 p_0 x_1 x_2 a_7 n_7 c_7 x_8 js1) w = ref17_Box_Votes_L1 p_0 x_1 x_2 a_7 n_7 c_7 x_8 K1 js1 R w := by kernel_rfl
def ref17_Box_Votes_K1 (p_0 : Addr) (x_1 : Int) (x_2 : Int) (I : Nat → Option Addr → Nat → Nat → Int → World → Prop) (m : Nat) (fr : Fr) (w : World) : Prop := ∃ m', m' < m ∧ ∃ a_7 n_7 c_7 x_8 js, fr = ref17_Box_Votes_fr1 p_0 x_1 x_2 a_7 n_7 c_7 x_8 js ∧ I m' a_7 n_7 c_7 x_8 w
theorem ref17_Box_Votes_leaf1 {p_0 : Addr} {x_1 : Int} {x_2 : Int} {I : Nat → Option Addr → Nat → Nat → Int → World → Prop} {m : Nat} {a_7 : Option Addr} {n_7 : Nat} {c_7 : Nat} {x_8 : Int} {js : Nat → Value} {w : World} (m' : Nat) (h1 : m' < m) (h2 : I m' a_7 n_7 c_7 x_8 w) : ref17_Box_Votes_K1 p_0 x_1 x_2 I m (ref17_Box_Votes_fr1 p_0 x_1 x_2 a_7 n_7 c_7 x_8 js) w := ⟨m', h1, _, _, _, _, _, rfl, h2⟩
theorem ref17_Box_Votes_rule1 {p_0 : Addr} {x_1 : Int} {x_2 : Int} {a_70 : Option Addr} {n_70 : Nat} {c_70 : Nat} {x_80 : Int} {js0 : Nat → Value} {R : Value → World → Prop} {w0 : World} (I : Nat → Option Addr → Nat → Nat → Int → World → Prop) (m0 : Nat) (h0 : I m0 a_70 n_70 c_70 x_80 w0)
    (hr : ∀ (m : Nat) (a_7 : Option Addr) (n_7 : Nat) (c_7 : Nat) (x_8 : Int) (js : Nat → Value) (w : World), I m a_7 n_7 c_7 x_8 w → ref17_Box_Votes_L1 p_0 x_1 x_2 a_7 n_7 c_7 x_8 (ref17_Box_Votes_K1 p_0 x_1 x_2 I m) js R w) :
    loopD (den Try.prog (sub (code Try.f26) [1, 1, 0, 1, 0, 0])) (kont Try.prog (code Try.f26) [1, 1, 0, 1, 0] [] (post Try.prog Try.f26 R)) (ref17_Box_Votes_fr1 p_0 x_1 x_2 a_70 n_70 c_70 x_80 js0) w0 := by
  refine ⟨fun m fr w => ∃ a_7 n_7 c_7 x_8 js, fr = ref17_Box_Votes_fr1 p_0 x_1 x_2 a_7 n_7 c_7 x_8 js ∧ I m a_7 n_7 c_7 x_8 w, m0, ⟨_, _, _, _, _, rfl, h0⟩, ?_⟩
  rintro m fr w ⟨a_7, n_7, c_7, x_8, js, rfl, hI⟩
  have h := hr m a_7 n_7 c_7 x_8 js w hI
  rw [← ref17_Box_Votes_L1_eq] at h
  exact h
def ref17_Box_Votes_L2 (p_0 : Addr) (x_1 : Int) (x_2 : Int) (x_8 : Int) (a_7 : Option Addr) (n_7 : Nat) (c_7 : Nat) (x_9 : Int) (K1 : Fr → World → Prop) (K2 : Fr → World → Prop) (js2 : Nat → Value) (R : Value → World → Prop) (w : World) : Prop :=
  ldSlice w (Addr.add p_0 1) fun a4 n5 c6 =>
  brB (decide (x_9 < (n5 : Int))) (
    ldSlice w (Addr.add p_0 1) fun a7 n8 c9 =>
    ixA a7 n8 x_9 6 fun q10 =>
    ldInt .i64 w q10 fun x11 =>
    brB (x11 == x_1) (
      ldSlice w (Addr.add p_0 1) fun a12 n13 c14 =>
      ixA a12 n13 x_9 6 fun q15 =>
      ldInt .i64 w (Addr.add q15 1) fun x16 =>
      brB (x16 == x_2) (
        ldSlice w (Addr.add p_0 1) fun a17 n18 c19 =>
        ixA a17 n18 x_9 6 fun q20 =>
        ldInt .i64 w (Addr.add q20 2) fun x21 =>
        brB (x21 == x_8) (
          ldSlice w (Addr.add p_0 1) fun a22 n23 c24 =>
          ixA a22 n23 x_9 6 fun q25 =>
          ldInt .i64 w (Addr.add q25 2) fun x26 => ldInt .i64 w (Addr.add (Addr.add q25 2) 1) fun x27 => ldInt .i64 w (Addr.add (Addr.add q25 2) 2) fun x28 => ldInt .i64 w (Addr.add (Addr.add q25 2) 3) fun x29 =>
          al w (.cells #[(.int .i64 x26), (.int .i64 x27), (.int .i64 x28), (.int .i64 x29)] 29) fun b30 w31 =>
          effSl Try.prog (Builtin.append_ #[30, 30] 30 #[(.slice a_7 n_7 c_7), (.slice (some ⟨b30, 0, none⟩) 1 1)]) w31 fun a33 n34 c35 w32 =>
          K2 (ref17_Box_Votes_fr2 p_0 x_1 x_2 x_8 a33 n34 c35 (IntKind.wrap .i64 (x_9 + 1)) (jk [(19, (.int .i64 x_9)), (20, (.pointer (some p_0))), (21, (.pointer (some p_0))), (22, (.pointer (some (Addr.add p_0 1)))), (23, (.slice a4 n5 c6)), (24, (.int .i64 (n5 : Int))), (25, (.bool (decide (x_9 < (n5 : Int))))), (26, (.int .i64 x_9)), (27, (.int .i64 (IntKind.wrap .i64 (x_9 + 1)))), (28, (.pointer (some p_0))), (29, (.pointer (some p_0))), (30, (.pointer (some (Addr.add p_0 1)))), (31, (.slice a7 n8 c9)), (32, (.int .i64 x_9)), (33, (.pointer (some q10))), (34, (.pointer (some q10))), (35, (.int .i64 x11)), (36, (.int .i64 x_1)), (37, (.bool (x11 == x_1))), (38, (.bool true)), (39, (.pointer (some p_0))), (40, (.pointer (some p_0))), (41, (.pointer (some (Addr.add p_0 1)))), (42, (.slice a12 n13 c14)), (43, (.int .i64 x_9)), (44, (.pointer (some q15))), (45, (.pointer (some (Addr.add q15 1)))), (46, (.int .i64 x16)), (47, (.int .i64 x_2)), (48, (.bool (x16 == x_2))), (49, (.bool (x16 == x_2))), (50, (.bool true)), (51, (.pointer (some p_0))), (52, (.pointer (some p_0))), (53, (.pointer (some (Addr.add p_0 1)))), (54, (.slice a17 n18 c19)), (55, (.int .i64 x_9)), (56, (.pointer (some q20))), (57, (.pointer (some (Addr.add q20 2)))), (58, (.pointer (some (Addr.add q20 2)))), (59, (.int .i64 x21)), (60, (.int .i64 x_8)), (61, (.bool (x21 == x_8))), (62, (.bool (x21 == x_8))), (63, (.slice a_7 n_7 c_7)), (64, (.pointer (some p_0))), (65, (.pointer (some p_0))), (66, (.pointer (some (Addr.add p_0 1)))), (67, (.slice a22 n23 c24)), (68, (.int .i64 x_9)), (69, (.pointer (some q25))), (70, (.pointer (some (Addr.add q25 2)))), (71, (.agg #[(.int .i64 x26), (.int .i64 x27), (.int .i64 x28), (.int .i64 x29)])), (72, (.slice (some ⟨b30, 0, none⟩) 1 1)), (73, (.slice a33 n34 c35))] js2)) w32)
        (
          K2 (ref17_Box_Votes_fr2 p_0 x_1 x_2 x_8 a_7 n_7 c_7 (IntKind.wrap .i64 (x_9 + 1)) (jk [(19, (.int .i64 x_9)), (20, (.pointer (some p_0))), (21, (.pointer (some p_0))), (22, (.pointer (some (Addr.add p_0 1)))), (23, (.slice a4 n5 c6)), (24, (.int .i64 (n5 : Int))), (25, (.bool (decide (x_9 < (n5 : Int))))), (26, (.int .i64 x_9)), (27, (.int .i64 (IntKind.wrap .i64 (x_9 + 1)))), (28, (.pointer (some p_0))), (29, (.pointer (some p_0))), (30, (.pointer (some (Addr.add p_0 1)))), (31, (.slice a7 n8 c9)), (32, (.int .i64 x_9)), (33, (.pointer (some q10))), (34, (.pointer (some q10))), (35, (.int .i64 x11)), (36, (.int .i64 x_1)), (37, (.bool (x11 == x_1))), (38, (.bool true)), (39, (.pointer (some p_0))), (40, (.pointer (some p_0))), (41, (.pointer (some (Addr.add p_0 1)))), (42, (.slice a12 n13 c14)), (43, (.int .i64 x_9)), (44, (.pointer (some q15))), (45, (.pointer (some (Addr.add q15 1)))), (46, (.int .i64 x16)), (47, (.int .i64 x_2)), (48, (.bool (x16 == x_2))), (49, (.bool (x16 == x_2))), (50, (.bool true)), (51, (.pointer (some p_0))), (52, (.pointer (some p_0))), (53, (.pointer (some (Addr.add p_0 1)))), (54, (.slice a17 n18 c19)), (55, (.int .i64 x_9)), (56, (.pointer (some q20))), (57, (.pointer (some (Addr.add q20 2)))), (58, (.pointer (some (Addr.add q20 2)))), (59, (.int .i64 x21)), (60, (.int .i64 x_8)), (61, (.bool (x21 == x_8))), (62, (.bool (x21 == x_8)))] js2)) w))
      (
        K2 (ref17_Box_Votes_fr2 p_0 x_1 x_2 x_8 a_7 n_7 c_7 (IntKind.wrap .i64 (x_9 + 1)) (jk [(19, (.int .i64 x_9)), (20, (.pointer (some p_0))), (21, (.pointer (some p_0))), (22, (.pointer (some (Addr.add p_0 1)))), (23, (.slice a4 n5 c6)), (24, (.int .i64 (n5 : Int))), (25, (.bool (decide (x_9 < (n5 : Int))))), (26, (.int .i64 x_9)), (27, (.int .i64 (IntKind.wrap .i64 (x_9 + 1)))), (28, (.pointer (some p_0))), (29, (.pointer (some p_0))), (30, (.pointer (some (Addr.add p_0 1)))), (31, (.slice a7 n8 c9)), (32, (.int .i64 x_9)), (33, (.pointer (some q10))), (34, (.pointer (some q10))), (35, (.int .i64 x11)), (36, (.int .i64 x_1)), (37, (.bool (x11 == x_1))), (38, (.bool true)), (39, (.pointer (some p_0))), (40, (.pointer (some p_0))), (41, (.pointer (some (Addr.add p_0 1)))), (42, (.slice a12 n13 c14)), (43, (.int .i64 x_9)), (44, (.pointer (some q15))), (45, (.pointer (some (Addr.add q15 1)))), (46, (.int .i64 x16)), (47, (.int .i64 x_2)), (48, (.bool (x16 == x_2))), (49, (.bool (x16 == x_2))), (50, (.bool false)), (51, undef), (52, undef), (53, undef), (54, undef), (55, undef), (56, undef), (57, undef), (58, undef), (59, undef), (60, undef), (61, undef), (62, (.bool false))] js2)) w))
    (
      K2 (ref17_Box_Votes_fr2 p_0 x_1 x_2 x_8 a_7 n_7 c_7 (IntKind.wrap .i64 (x_9 + 1)) (jk [(19, (.int .i64 x_9)), (20, (.pointer (some p_0))), (21, (.pointer (some p_0))), (22, (.pointer (some (Addr.add p_0 1)))), (23, (.slice a4 n5 c6)), (24, (.int .i64 (n5 : Int))), (25, (.bool (decide (x_9 < (n5 : Int))))), (26, (.int .i64 x_9)), (27, (.int .i64 (IntKind.wrap .i64 (x_9 + 1)))), (28, (.pointer (some p_0))), (29, (.pointer (some p_0))), (30, (.pointer (some (Addr.add p_0 1)))), (31, (.slice a7 n8 c9)), (32, (.int .i64 x_9)), (33, (.pointer (some q10))), (34, (.pointer (some q10))), (35, (.int .i64 x11)), (36, (.int .i64 x_1)), (37, (.bool (x11 == x_1))), (38, (.bool false)), (39, undef), (40, undef), (41, undef), (42, undef), (43, undef), (44, undef), (45, undef), (46, undef), (47, undef), (48, undef), (49, (.bool false)), (50, (.bool false)), (51, undef), (52, undef), (53, undef), (54, undef), (55, undef), (56, undef), (57, undef), (58, undef), (59, undef), (60, undef), (61, undef), (62, (.bool false))] js2)) w))
  (
    K1 (ref17_Box_Votes_fr1 p_0 x_1 x_2 a_7 n_7 c_7 (IntKind.wrap .i64 (x_8 + 1)) (jk [(9, (.int .i64 x_9)), (17, (.int .i64 x_8)), (18, (.int .i64 (IntKind.wrap .i64 (x_8 + 1)))), (19, (.int .i64 x_9)), (20, (.pointer (some p_0))), (21, (.pointer (some p_0))), (22, (.pointer (some (Addr.add p_0 1)))), (23, (.slice a4 n5 c6)), (24, (.int .i64 (n5 : Int))), (25, (.bool (decide (x_9 < (n5 : Int)))))] js2)) w)
theorem ref17_Box_Votes_L2_eq (p_0 : Addr) (x_1 : Int) (x_2 : Int) (x_8 : Int) (a_7 : Option Addr) (n_7 : Nat) (c_7 : Nat) (x_9 : Int) (K1 : Fr → World → Prop) (K2 : Fr → World → Prop) (js2 : Nat → Value) (R : Value → World → Prop) (w : World) :
    den Try.prog (sub (code Try.f26) [1, 1, 0, 1, 0, 0, 1, 0, 0, 1, 0, 0]) (kthen K2 (kont Try.prog (code Try.f26) [1, 1, 0, 1, 0, 0, 1, 0, 0, 1, 0] [K1] (post Try.prog Try.f26 R))) (ref17_Box_Votes_fr2 p_0 x_1 x_2 x_8 a_7 n_7 c_7 x_9 js2) w = ref17_Box_Votes_L2 p_0 x_1 x_2 x_8 a_7 n_7 c_7 x_9 K1 K2 js2 R w := by kernel_rfl
def ref17_Box_Votes_K2 (p_0 : Addr) (x_1 : Int) (x_2 : Int) (x_8 : Int) (I : Nat → Option Addr → Nat → Nat → Int → World → Prop) (m : Nat) (fr : Fr) (w : World) : Prop := ∃ m', m' < m ∧ ∃ a_7 n_7 c_7 x_9 js, fr = ref17_Box_Votes_fr2 p_0 x_1 x_2 x_8 a_7 n_7 c_7 x_9 js ∧ I m' a_7 n_7 c_7 x_9 w
theorem ref17_Box_Votes_leaf2 {p_0 : Addr} {x_1 : Int} {x_2 : Int} {x_8 : Int} {I : Nat → Option Addr → Nat → Nat → Int → World → Prop} {m : Nat} {a_7 : Option Addr} {n_7 : Nat} {c_7 : Nat} {x_9 : Int} {js : Nat → Value} {w : World} (m' : Nat) (h1 : m' < m) (h2 : I m' a_7 n_7 c_7 x_9 w) : ref17_Box_Votes_K2 p_0 x_1 x_2 x_8 I m (ref17_Box_Votes_fr2 p_0 x_1 x_2 x_8 a_7 n_7 c_7 x_9 js) w := ⟨m', h1, _, _, _, _, _, rfl, h2⟩
theorem ref17_Box_Votes_rule2 {p_0 : Addr} {x_1 : Int} {x_2 : Int} {x_8 : Int} {a_70 : Option Addr} {n_70 : Nat} {c_70 : Nat} {x_90 : Int} {js0 : Nat → Value} {R : Value → World → Prop} {w0 : World} {K1 : Fr → World → Prop} (I : Nat → Option Addr → Nat → Nat → Int → World → Prop) (m0 : Nat) (h0 : I m0 a_70 n_70 c_70 x_90 w0)
    (hr : ∀ (m : Nat) (a_7 : Option Addr) (n_7 : Nat) (c_7 : Nat) (x_9 : Int) (js : Nat → Value) (w : World), I m a_7 n_7 c_7 x_9 w → ref17_Box_Votes_L2 p_0 x_1 x_2 x_8 a_7 n_7 c_7 x_9 K1 (ref17_Box_Votes_K2 p_0 x_1 x_2 x_8 I m) js R w) :
    loopD (den Try.prog (sub (code Try.f26) [1, 1, 0, 1, 0, 0, 1, 0, 0, 1, 0, 0])) (kont Try.prog (code Try.f26) [1, 1, 0, 1, 0, 0, 1, 0, 0, 1, 0] [K1] (post Try.prog Try.f26 R)) (ref17_Box_Votes_fr2 p_0 x_1 x_2 x_8 a_70 n_70 c_70 x_90 js0) w0 := by
  refine ⟨fun m fr w => ∃ a_7 n_7 c_7 x_9 js, fr = ref17_Box_Votes_fr2 p_0 x_1 x_2 x_8 a_7 n_7 c_7 x_9 js ∧ I m a_7 n_7 c_7 x_9 w, m0, ⟨_, _, _, _, _, rfl, h0⟩, ?_⟩
  rintro m fr w ⟨a_7, n_7, c_7, x_9, js, rfl, hI⟩
  have h := hr m a_7 n_7 c_7 x_9 js w hI
  rw [← ref17_Box_Votes_L2_eq] at h
  exact h
/-- (*stagecoach/stagecoachref17.Box).Votes -/
def ref17_Box_Votes_T (a0_b : Addr) (a1_view : Int) (a2_kind : Int) (R : Value → World → Prop) (w : World) : Prop :=
  al w (.cells #[] 29) fun b1 w2 =>
  loopD (den Try.prog (sub (code Try.f26) [1, 1, 0, 1, 0, 0])) (kont Try.prog (code Try.f26) [1, 1, 0, 1, 0] [] (post Try.prog Try.f26 R)) (ref17_Box_Votes_fr1 a0_b a1_view a2_kind (some ⟨b1, 0, none⟩) 0 0 0 (jk [(6, (.slice none 0 0)), (10, (.slice (some ⟨b1, 0, none⟩) 0 0))] (fun _ => undef))) w2
theorem ref17_Box_Votes_eq (a0_b : Addr) (a1_view : Int) (a2_kind : Int) (R : Value → World → Prop) (w : World) :
    den Try.prog (code Try.f26) (post Try.prog Try.f26 R) [(.pointer (some a0_b)), (.int .i64 a1_view), (.int .i64 a2_kind), undef, undef, undef, undef, undef, undef, undef, undef, undef, undef, undef, undef, undef, undef, undef, undef, undef, undef, undef, undef, undef, undef, undef, undef, undef, undef, undef, undef, undef, undef, undef, undef, undef, undef, undef, undef, undef, undef, undef, undef, undef, undef, undef, undef, undef, undef, undef, undef, undef, undef, undef, undef, undef, undef, undef, undef, undef, undef, undef, undef, undef, undef, undef, undef, undef, undef, undef, undef, undef, undef, undef, undef] w = ref17_Box_Votes_T a0_b a1_view a2_kind R w := by kernel_rfl
theorem ref17_Box_Votes_go {a0_b : Addr} {a1_view : Int} {a2_kind : Int} {R : Value → World → Prop} {w : World} (h : ref17_Box_Votes_T a0_b a1_view a2_kind R w) :
    Calls Try.prog 26 #[(.pointer (some a0_b)), (.int .i64 a1_view), (.int .i64 a2_kind)] w fun e w' => ∃ v, e = .returned v ∧ R v w' :=
  calls_den Try.wide_mixed (f := 26) (args := [(.pointer (some a0_b)), (.int .i64 a1_view), (.int .i64 a2_kind)]) Try.func26 rfl rfl (Eq.mpr (ref17_Box_Votes_eq a0_b a1_view a2_kind R w) h)
/-- (*stagecoach/stagecoachref17.Box).Full -/
def ref17_Box_Full_T (a0_b : Addr) (a1_view : Int) (a2_kind : Int) (R : Value → World → Prop) (w : World) : Prop :=
  ∀ w1, Mod [] w w1 →
  ldInt .i64 w1 a0_b fun x2 =>
  Calls Try.prog 26 #[(.pointer (some a0_b)), (.int .i64 a1_view), (.int .i64 a2_kind)] w1 fun e w3 => ∃ (a4 : Option Addr) (n5 c6 : Nat), e = .returned (.slice a4 n5 c6) ∧ (ldInt .i64 w3 a0_b fun x7 => ((.int .i64 x7) : Value) = (.int .i64 x2)) ∧ R (.bool (decide ((IntKind.wrap .i64 (2 * (n5 : Int))) > x2))) w3
theorem ref17_Box_Full_eq (a0_b : Addr) (a1_view : Int) (a2_kind : Int) (R : Value → World → Prop) (w : World) :
    den Try.prog (code Try.f27) (post Try.prog Try.f27 R) [(.pointer (some a0_b)), (.int .i64 a1_view), (.int .i64 a2_kind), undef, undef, undef, undef, undef, undef, undef, undef, undef, undef, undef, undef, undef, undef, undef] w = ref17_Box_Full_T a0_b a1_view a2_kind R w := by kernel_rfl
theorem ref17_Box_Full_go {a0_b : Addr} {a1_view : Int} {a2_kind : Int} {R : Value → World → Prop} {w : World} (h : ref17_Box_Full_T a0_b a1_view a2_kind R w) :
    Calls Try.prog 27 #[(.pointer (some a0_b)), (.int .i64 a1_view), (.int .i64 a2_kind)] w fun e w' => ∃ v, e = .returned v ∧ R v w' :=
  calls_den Try.wide_mixed (f := 27) (args := [(.pointer (some a0_b)), (.int .i64 a1_view), (.int .i64 a2_kind)]) Try.func27 rfl rfl (Eq.mpr (ref17_Box_Full_eq a0_b a1_view a2_kind R w) h)
def ref17_Box_Best_fr1 (b_6 : Nat) (a_8 : Option Addr) (n_8 : Nat) (c_8 : Nat) (b_9 : Nat) (x_10 : Int) (js1 : Nat → Value) : Fr := [(js1 0), (js1 1), (js1 2), (js1 3), (js1 4), (js1 5), (.pointer (some ⟨b_6, 0, none⟩)), (js1 7), (.slice a_8 n_8 c_8), (.pointer (some ⟨b_9, 0, none⟩)), (.int .i64 x_10), (js1 11), (js1 12), (js1 13), (js1 14), (js1 15), (js1 16), (js1 17), (js1 18), (js1 19), (js1 20), (js1 21), (js1 22), (js1 23), (js1 24), (js1 25), (js1 26), (js1 27), (js1 28), (js1 29), (js1 30), (js1 31), (js1 32), (js1 33), (js1 34), (js1 35), (js1 36), (js1 37), (js1 38), (js1 39), (js1 40), (js1 41), (js1 42), (js1 43), (js1 44), (js1 45), (js1 46), (js1 47), (js1 48), (js1 49), (js1 50), (js1 51), (js1 52), (js1 53), (js1 54), (js1 55), (js1 56), (js1 57), (js1 58), (js1 59), (js1 60)]
def ref17_Box_Best_L1 (b_6 : Nat) (a_8 : Option Addr) (n_8 : Nat) (c_8 : Nat) (b_9 : Nat) (x_10 : Int) (K1 : Fr → World → Prop) (js1 : Nat → Value) (R : Value → World → Prop) (w : World) : Prop :=
  brB (decide (x_10 < (n_8 : Int))) (
    ixA a_8 n_8 x_10 4 fun q20 =>
    ldInt .i64 w (Addr.add q20 1) fun x21 =>
    ldInt .i64 w ⟨b_9, 1, none⟩ fun x22 =>
    brB (decide (x21 > x22)) (
      ∀ w23, Mod [] w w23 →
      ixA a_8 n_8 x_10 4 fun q24 =>
      ldInt .i64 w23 q24 fun x25 => ldInt .i64 w23 (Addr.add q24 1) fun x26 => ldInt .i64 w23 (Addr.add q24 2) fun x27 => ldInt .i64 w23 (Addr.add q24 3) fun x28 =>
      st w23 ⟨b_9, 0, none⟩ [(.int .i64 x25), (.int .i64 x26), (.int .i64 x27), (.int .i64 x28)] fun w29 =>
      K1 (ref17_Box_Best_fr1 b_6 a_8 n_8 c_8 b_9 (IntKind.wrap .i64 (x_10 + 1)) (jk [(22, (.int .i64 x_10)), (23, (.slice a_8 n_8 c_8)), (24, (.int .i64 (n_8 : Int))), (25, (.bool (decide (x_10 < (n_8 : Int))))), (26, (.int .i64 x_10)), (27, (.int .i64 (IntKind.wrap .i64 (x_10 + 1)))), (28, (.slice a_8 n_8 c_8)), (29, (.int .i64 x_10)), (30, (.pointer (some q20))), (31, (.pointer (some (Addr.add q20 1)))), (32, (.int .i64 x21)), (33, (.pointer (some ⟨b_9, 1, none⟩))), (34, (.int .i64 x22)), (35, (.bool (decide (x21 > x22)))), (36, (.bool true)), (37, undef), (38, undef), (39, undef), (40, undef), (41, undef), (42, undef), (43, undef), (44, undef), (45, undef), (46, undef), (47, undef), (48, undef), (49, undef), (50, undef), (51, undef), (52, undef), (53, undef), (54, undef), (55, (.bool true)), (56, (.slice a_8 n_8 c_8)), (57, (.int .i64 x_10)), (58, (.pointer (some q24))), (59, (.agg #[(.int .i64 x25), (.int .i64 x26), (.int .i64 x27), (.int .i64 x28)]))] js1)) w29)
    (
      ixA a_8 n_8 x_10 4 fun q30 =>
      ldInt .i64 w (Addr.add q30 1) fun x31 =>
      ldInt .i64 w ⟨b_9, 1, none⟩ fun x32 =>
      brB (x31 == x32) (
        ixA a_8 n_8 x_10 4 fun q33 =>
        ldInt .i64 w (Addr.add q33 2) fun x34 =>
        ldInt .i64 w ⟨b_9, 2, none⟩ fun x35 =>
        ∀ w36, Mod [] w w36 →
        brB (decide (x34 > x35)) (
          ixA a_8 n_8 x_10 4 fun q37 =>
          ldInt .i64 w36 q37 fun x38 => ldInt .i64 w36 (Addr.add q37 1) fun x39 => ldInt .i64 w36 (Addr.add q37 2) fun x40 => ldInt .i64 w36 (Addr.add q37 3) fun x41 =>
          st w36 ⟨b_9, 0, none⟩ [(.int .i64 x38), (.int .i64 x39), (.int .i64 x40), (.int .i64 x41)] fun w42 =>
          K1 (ref17_Box_Best_fr1 b_6 a_8 n_8 c_8 b_9 (IntKind.wrap .i64 (x_10 + 1)) (jk [(22, (.int .i64 x_10)), (23, (.slice a_8 n_8 c_8)), (24, (.int .i64 (n_8 : Int))), (25, (.bool (decide (x_10 < (n_8 : Int))))), (26, (.int .i64 x_10)), (27, (.int .i64 (IntKind.wrap .i64 (x_10 + 1)))), (28, (.slice a_8 n_8 c_8)), (29, (.int .i64 x_10)), (30, (.pointer (some q20))), (31, (.pointer (some (Addr.add q20 1)))), (32, (.int .i64 x21)), (33, (.pointer (some ⟨b_9, 1, none⟩))), (34, (.int .i64 x22)), (35, (.bool (decide (x21 > x22)))), (36, (.bool false)), (37, (.slice a_8 n_8 c_8)), (38, (.int .i64 x_10)), (39, (.pointer (some q30))), (40, (.pointer (some (Addr.add q30 1)))), (41, (.int .i64 x31)), (42, (.pointer (some ⟨b_9, 1, none⟩))), (43, (.int .i64 x32)), (44, (.bool (x31 == x32))), (45, (.bool true)), (46, (.slice a_8 n_8 c_8)), (47, (.int .i64 x_10)), (48, (.pointer (some q33))), (49, (.pointer (some (Addr.add q33 2)))), (50, (.int .i64 x34)), (51, (.pointer (some ⟨b_9, 2, none⟩))), (52, (.int .i64 x35)), (53, (.bool (decide (x34 > x35)))), (54, (.bool (decide (x34 > x35)))), (55, (.bool (decide (x34 > x35)))), (56, (.slice a_8 n_8 c_8)), (57, (.int .i64 x_10)), (58, (.pointer (some q37))), (59, (.agg #[(.int .i64 x38), (.int .i64 x39), (.int .i64 x40), (.int .i64 x41)]))] js1)) w42)
        (
          K1 (ref17_Box_Best_fr1 b_6 a_8 n_8 c_8 b_9 (IntKind.wrap .i64 (x_10 + 1)) (jk [(22, (.int .i64 x_10)), (23, (.slice a_8 n_8 c_8)), (24, (.int .i64 (n_8 : Int))), (25, (.bool (decide (x_10 < (n_8 : Int))))), (26, (.int .i64 x_10)), (27, (.int .i64 (IntKind.wrap .i64 (x_10 + 1)))), (28, (.slice a_8 n_8 c_8)), (29, (.int .i64 x_10)), (30, (.pointer (some q20))), (31, (.pointer (some (Addr.add q20 1)))), (32, (.int .i64 x21)), (33, (.pointer (some ⟨b_9, 1, none⟩))), (34, (.int .i64 x22)), (35, (.bool (decide (x21 > x22)))), (36, (.bool false)), (37, (.slice a_8 n_8 c_8)), (38, (.int .i64 x_10)), (39, (.pointer (some q30))), (40, (.pointer (some (Addr.add q30 1)))), (41, (.int .i64 x31)), (42, (.pointer (some ⟨b_9, 1, none⟩))), (43, (.int .i64 x32)), (44, (.bool (x31 == x32))), (45, (.bool true)), (46, (.slice a_8 n_8 c_8)), (47, (.int .i64 x_10)), (48, (.pointer (some q33))), (49, (.pointer (some (Addr.add q33 2)))), (50, (.int .i64 x34)), (51, (.pointer (some ⟨b_9, 2, none⟩))), (52, (.int .i64 x35)), (53, (.bool (decide (x34 > x35)))), (54, (.bool (decide (x34 > x35)))), (55, (.bool (decide (x34 > x35))))] js1)) w36))
      (
        ∀ w43, Mod [] w w43 →
        K1 (ref17_Box_Best_fr1 b_6 a_8 n_8 c_8 b_9 (IntKind.wrap .i64 (x_10 + 1)) (jk [(22, (.int .i64 x_10)), (23, (.slice a_8 n_8 c_8)), (24, (.int .i64 (n_8 : Int))), (25, (.bool (decide (x_10 < (n_8 : Int))))), (26, (.int .i64 x_10)), (27, (.int .i64 (IntKind.wrap .i64 (x_10 + 1)))), (28, (.slice a_8 n_8 c_8)), (29, (.int .i64 x_10)), (30, (.pointer (some q20))), (31, (.pointer (some (Addr.add q20 1)))), (32, (.int .i64 x21)), (33, (.pointer (some ⟨b_9, 1, none⟩))), (34, (.int .i64 x22)), (35, (.bool (decide (x21 > x22)))), (36, (.bool false)), (37, (.slice a_8 n_8 c_8)), (38, (.int .i64 x_10)), (39, (.pointer (some q30))), (40, (.pointer (some (Addr.add q30 1)))), (41, (.int .i64 x31)), (42, (.pointer (some ⟨b_9, 1, none⟩))), (43, (.int .i64 x32)), (44, (.bool (x31 == x32))), (45, (.bool false)), (46, undef), (47, undef), (48, undef), (49, undef), (50, undef), (51, undef), (52, undef), (53, undef), (54, (.bool false)), (55, (.bool false))] js1)) w43)))
  (
    ldInt .i64 w ⟨b_9, 0, none⟩ fun x44 => ldInt .i64 w ⟨b_9, 1, none⟩ fun x45 => ldInt .i64 w ⟨b_9, 2, none⟩ fun x46 => ldInt .i64 w ⟨b_9, 3, none⟩ fun x47 =>
    st w ⟨b_6, 0, none⟩ [(.int .i64 x44), (.int .i64 x45), (.int .i64 x46), (.int .i64 x47)] fun w48 =>
    ldInt .i64 w48 ⟨b_6, 0, none⟩ fun x49 => ldInt .i64 w48 ⟨b_6, 1, none⟩ fun x50 => ldInt .i64 w48 ⟨b_6, 2, none⟩ fun x51 => ldInt .i64 w48 ⟨b_6, 3, none⟩ fun x52 => R (.tuple #[(.agg #[(.int .i64 x49), (.int .i64 x50), (.int .i64 x51), (.int .i64 x52)]), (.bool true)]) w48)
theorem ref17_Box_Best_L1_eq (b_6 : Nat) (a_8 : Option Addr) (n_8 : Nat) (c_8 : Nat) (b_9 : Nat) (x_10 : Int) (K1 : Fr → World → Prop) (js1 : Nat → Value) (R : Value → World → Prop) (w : World) :
    den Try.prog (sub (code Try.f24) [1, 1, 1, 1, 0, 1, 0, 0]) (kthen K1 (kont Try.prog (code Try.f24) [1, 1, 1, 1, 0, 1, 0] [] (post Try.prog Try.f24 R))) (ref17_Box_Best_fr1 b_6 a_8 n_8 c_8 b_9 x_10 js1) w = ref17_Box_Best_L1 b_6 a_8 n_8 c_8 b_9 x_10 K1 js1 R w := by kernel_rfl
def ref17_Box_Best_K1 (b_6 : Nat) (a_8 : Option Addr) (n_8 : Nat) (c_8 : Nat) (b_9 : Nat) (I : Nat → Int → World → Prop) (m : Nat) (fr : Fr) (w : World) : Prop := ∃ m', m' < m ∧ ∃ x_10 js, fr = ref17_Box_Best_fr1 b_6 a_8 n_8 c_8 b_9 x_10 js ∧ I m' x_10 w
theorem ref17_Box_Best_leaf1 {b_6 : Nat} {a_8 : Option Addr} {n_8 : Nat} {c_8 : Nat} {b_9 : Nat} {I : Nat → Int → World → Prop} {m : Nat} {x_10 : Int} {js : Nat → Value} {w : World} (m' : Nat) (h1 : m' < m) (h2 : I m' x_10 w) : ref17_Box_Best_K1 b_6 a_8 n_8 c_8 b_9 I m (ref17_Box_Best_fr1 b_6 a_8 n_8 c_8 b_9 x_10 js) w := ⟨m', h1, _, _, rfl, h2⟩
theorem ref17_Box_Best_rule1 {b_6 : Nat} {a_8 : Option Addr} {n_8 : Nat} {c_8 : Nat} {b_9 : Nat} {x_100 : Int} {js0 : Nat → Value} {R : Value → World → Prop} {w0 : World} (I : Nat → Int → World → Prop) (m0 : Nat) (h0 : I m0 x_100 w0)
    (hr : ∀ (m : Nat) (x_10 : Int) (js : Nat → Value) (w : World), I m x_10 w → ref17_Box_Best_L1 b_6 a_8 n_8 c_8 b_9 x_10 (ref17_Box_Best_K1 b_6 a_8 n_8 c_8 b_9 I m) js R w) :
    loopD (den Try.prog (sub (code Try.f24) [1, 1, 1, 1, 0, 1, 0, 0])) (kont Try.prog (code Try.f24) [1, 1, 1, 1, 0, 1, 0] [] (post Try.prog Try.f24 R)) (ref17_Box_Best_fr1 b_6 a_8 n_8 c_8 b_9 x_100 js0) w0 := by
  refine ⟨fun m fr w => ∃ x_10 js, fr = ref17_Box_Best_fr1 b_6 a_8 n_8 c_8 b_9 x_10 js ∧ I m x_10 w, m0, ⟨_, _, rfl, h0⟩, ?_⟩
  rintro m fr w ⟨x_10, js, rfl, hI⟩
  have h := hr m x_10 js w hI
  rw [← ref17_Box_Best_L1_eq] at h
  exact h
/-- (*stagecoach/stagecoachref17.Box).Best -/
def ref17_Box_Best_T (a0_b : Addr) (a1_view : Int) (a2_kind : Int) (R : Value → World → Prop) (w : World) : Prop :=
  al w (.cells #[(.int .i64 0), (.int .i64 0), (.int .i64 0), (.int .i64 0)] 29) fun b1 w2 =>
  Calls Try.prog 26 #[(.pointer (some a0_b)), (.int .i64 a1_view), (.int .i64 a2_kind)] w2 fun e w3 => ∃ (a4 : Option Addr) (n5 c6 : Nat), e = .returned (.slice a4 n5 c6) ∧
  brB ((n5 : Int) == 0) (
    st w3 ⟨b1, 0, none⟩ [(.int .i64 0), (.int .i64 0), (.int .i64 0), (.int .i64 0)] fun w7 =>
    ldInt .i64 w7 ⟨b1, 0, none⟩ fun x8 => ldInt .i64 w7 ⟨b1, 1, none⟩ fun x9 => ldInt .i64 w7 ⟨b1, 2, none⟩ fun x10 => ldInt .i64 w7 ⟨b1, 3, none⟩ fun x11 => R (.tuple #[(.agg #[(.int .i64 x8), (.int .i64 x9), (.int .i64 x10), (.int .i64 x11)]), (.bool false)]) w7)
  (
    ixA a4 n5 0 4 fun q12 =>
    ldInt .i64 w3 q12 fun x13 => ldInt .i64 w3 (Addr.add q12 1) fun x14 => ldInt .i64 w3 (Addr.add q12 2) fun x15 => ldInt .i64 w3 (Addr.add q12 3) fun x16 =>
    al w3 (.cells #[(.int .i64 0), (.int .i64 0), (.int .i64 0), (.int .i64 0)] 29) fun b17 w18 =>
    st w18 ⟨b17, 0, none⟩ [(.int .i64 x13), (.int .i64 x14), (.int .i64 x15), (.int .i64 x16)] fun w19 =>
    loopD (den Try.prog (sub (code Try.f24) [1, 1, 1, 1, 0, 1, 0, 0])) (kont Try.prog (code Try.f24) [1, 1, 1, 1, 0, 1, 0] [] (post Try.prog Try.f24 R)) (ref17_Box_Best_fr1 b1 a4 n5 c6 b17 1 (jk [(0, (.pointer (some a0_b))), (1, (.int .i64 a1_view)), (2, (.int .i64 a2_kind)), (7, (.bool false)), (11, (.pointer (some a0_b))), (12, (.int .i64 a1_view)), (13, (.int .i64 a2_kind)), (14, (.slice a4 n5 c6)), (15, (.slice a4 n5 c6)), (16, (.int .i64 (n5 : Int))), (17, (.bool ((n5 : Int) == 0))), (19, (.slice a4 n5 c6)), (20, (.pointer (some q12))), (21, (.agg #[(.int .i64 x13), (.int .i64 x14), (.int .i64 x15), (.int .i64 x16)]))] (fun _ => undef))) w19)
theorem ref17_Box_Best_eq (a0_b : Addr) (a1_view : Int) (a2_kind : Int) (R : Value → World → Prop) (w : World) :
    den Try.prog (code Try.f24) (post Try.prog Try.f24 R) [(.pointer (some a0_b)), (.int .i64 a1_view), (.int .i64 a2_kind), undef, undef, undef, undef, undef, undef, undef, undef, undef, undef, undef, undef, undef, undef, undef, undef, undef, undef, undef, undef, undef, undef, undef, undef, undef, undef, undef, undef, undef, undef, undef, undef, undef, undef, undef, undef, undef, undef, undef, undef, undef, undef, undef, undef, undef, undef, undef, undef, undef, undef, undef, undef, undef, undef, undef, undef, undef, undef] w = ref17_Box_Best_T a0_b a1_view a2_kind R w := by kernel_rfl
theorem ref17_Box_Best_go {a0_b : Addr} {a1_view : Int} {a2_kind : Int} {R : Value → World → Prop} {w : World} (h : ref17_Box_Best_T a0_b a1_view a2_kind R w) :
    Calls Try.prog 24 #[(.pointer (some a0_b)), (.int .i64 a1_view), (.int .i64 a2_kind)] w fun e w' => ∃ v, e = .returned v ∧ R v w' :=
  calls_den Try.wide_mixed (f := 24) (args := [(.pointer (some a0_b)), (.int .i64 a1_view), (.int .i64 a2_kind)]) Try.func24 rfl rfl (Eq.mpr (ref17_Box_Best_eq a0_b a1_view a2_kind R w) h)
def ref17_Box_Commit_fr1 (a_7 : Option Addr) (n_7 : Nat) (c_7 : Nat) (x_8 : Int) (x_9 : Int) (js1 : Nat → Value) : Fr := [(js1 0), (js1 1), (js1 2), (js1 3), (js1 4), (js1 5), (js1 6), (.slice a_7 n_7 c_7), (.int .i64 x_8), (.int .i64 x_9), (js1 10), (js1 11), (js1 12), (js1 13), (js1 14), (js1 15), (js1 16), (js1 17), (js1 18), (js1 19), (js1 20), (js1 21), (js1 22), (js1 23), (js1 24), (js1 25), (js1 26), (js1 27)]
def ref17_Box_Commit_L1 (a_7 : Option Addr) (n_7 : Nat) (c_7 : Nat) (x_8 : Int) (x_9 : Int) (K1 : Fr → World → Prop) (js1 : Nat → Value) (R : Value → World → Prop) (w : World) : Prop :=
  brB (decide (x_9 < (n_7 : Int))) (
    ixA a_7 n_7 x_9 4 fun q5 =>
    ldInt .i64 w (Addr.add q5 3) fun x6 =>
    K1 (ref17_Box_Commit_fr1 a_7 n_7 c_7 (if x6 > x_8 then x6 else x_8) (IntKind.wrap .i64 (x_9 + 1)) (jk [(14, (.int .i64 x_9)), (15, (.slice a_7 n_7 c_7)), (16, (.int .i64 (n_7 : Int))), (17, (.bool (decide (x_9 < (n_7 : Int))))), (18, (.int .i64 x_9)), (19, (.int .i64 (IntKind.wrap .i64 (x_9 + 1)))), (20, (.int .i64 x_8)), (21, (.slice a_7 n_7 c_7)), (22, (.int .i64 x_9)), (23, (.pointer (some q5))), (24, (.pointer (some (Addr.add q5 3)))), (25, (.int .i64 x6)), (26, (.int .i64 (if x6 > x_8 then x6 else x_8)))] js1)) w)
  (R (.int .i64 x_8) w)
theorem ref17_Box_Commit_L1_eq (a_7 : Option Addr) (n_7 : Nat) (c_7 : Nat) (x_8 : Int) (x_9 : Int) (K1 : Fr → World → Prop) (js1 : Nat → Value) (R : Value → World → Prop) (w : World) :
    den Try.prog (sub (code Try.f28) [1, 1, 0, 1, 0, 0]) (kthen K1 (kont Try.prog (code Try.f28) [1, 1, 0, 1, 0] [] (post Try.prog Try.f28 R))) (ref17_Box_Commit_fr1 a_7 n_7 c_7 x_8 x_9 js1) w = ref17_Box_Commit_L1 a_7 n_7 c_7 x_8 x_9 K1 js1 R w := by kernel_rfl
def ref17_Box_Commit_K1 (a_7 : Option Addr) (n_7 : Nat) (c_7 : Nat) (I : Nat → Int → Int → World → Prop) (m : Nat) (fr : Fr) (w : World) : Prop := ∃ m', m' < m ∧ ∃ x_8 x_9 js, fr = ref17_Box_Commit_fr1 a_7 n_7 c_7 x_8 x_9 js ∧ I m' x_8 x_9 w
theorem ref17_Box_Commit_leaf1 {a_7 : Option Addr} {n_7 : Nat} {c_7 : Nat} {I : Nat → Int → Int → World → Prop} {m : Nat} {x_8 : Int} {x_9 : Int} {js : Nat → Value} {w : World} (m' : Nat) (h1 : m' < m) (h2 : I m' x_8 x_9 w) : ref17_Box_Commit_K1 a_7 n_7 c_7 I m (ref17_Box_Commit_fr1 a_7 n_7 c_7 x_8 x_9 js) w := ⟨m', h1, _, _, _, rfl, h2⟩
theorem ref17_Box_Commit_rule1 {a_7 : Option Addr} {n_7 : Nat} {c_7 : Nat} {x_80 : Int} {x_90 : Int} {js0 : Nat → Value} {R : Value → World → Prop} {w0 : World} (I : Nat → Int → Int → World → Prop) (m0 : Nat) (h0 : I m0 x_80 x_90 w0)
    (hr : ∀ (m : Nat) (x_8 : Int) (x_9 : Int) (js : Nat → Value) (w : World), I m x_8 x_9 w → ref17_Box_Commit_L1 a_7 n_7 c_7 x_8 x_9 (ref17_Box_Commit_K1 a_7 n_7 c_7 I m) js R w) :
    loopD (den Try.prog (sub (code Try.f28) [1, 1, 0, 1, 0, 0])) (kont Try.prog (code Try.f28) [1, 1, 0, 1, 0] [] (post Try.prog Try.f28 R)) (ref17_Box_Commit_fr1 a_7 n_7 c_7 x_80 x_90 js0) w0 := by
  refine ⟨fun m fr w => ∃ x_8 x_9 js, fr = ref17_Box_Commit_fr1 a_7 n_7 c_7 x_8 x_9 js ∧ I m x_8 x_9 w, m0, ⟨_, _, _, rfl, h0⟩, ?_⟩
  rintro m fr w ⟨x_8, x_9, js, rfl, hI⟩
  have h := hr m x_8 x_9 js w hI
  rw [← ref17_Box_Commit_L1_eq] at h
  exact h
/-- (*stagecoach/stagecoachref17.Box).Commit -/
def ref17_Box_Commit_T (a0_b : Addr) (a1_view : Int) (a2_kind : Int) (R : Value → World → Prop) (w : World) : Prop :=
  Calls Try.prog 26 #[(.pointer (some a0_b)), (.int .i64 a1_view), (.int .i64 a2_kind)] w fun e w1 => ∃ (a2 : Option Addr) (n3 c4 : Nat), e = .returned (.slice a2 n3 c4) ∧
  loopD (den Try.prog (sub (code Try.f28) [1, 1, 0, 1, 0, 0])) (kont Try.prog (code Try.f28) [1, 1, 0, 1, 0] [] (post Try.prog Try.f28 R)) (ref17_Box_Commit_fr1 a2 n3 c4 0 0 (jk [(0, (.pointer (some a0_b))), (1, (.int .i64 a1_view)), (2, (.int .i64 a2_kind)), (6, (.int .i64 0)), (10, (.pointer (some a0_b))), (11, (.int .i64 a1_view)), (12, (.int .i64 a2_kind)), (13, (.slice a2 n3 c4))] (fun _ => undef))) w1
theorem ref17_Box_Commit_eq (a0_b : Addr) (a1_view : Int) (a2_kind : Int) (R : Value → World → Prop) (w : World) :
    den Try.prog (code Try.f28) (post Try.prog Try.f28 R) [(.pointer (some a0_b)), (.int .i64 a1_view), (.int .i64 a2_kind), undef, undef, undef, undef, undef, undef, undef, undef, undef, undef, undef, undef, undef, undef, undef, undef, undef, undef, undef, undef, undef, undef, undef, undef, undef] w = ref17_Box_Commit_T a0_b a1_view a2_kind R w := by kernel_rfl
theorem ref17_Box_Commit_go {a0_b : Addr} {a1_view : Int} {a2_kind : Int} {R : Value → World → Prop} {w : World} (h : ref17_Box_Commit_T a0_b a1_view a2_kind R w) :
    Calls Try.prog 28 #[(.pointer (some a0_b)), (.int .i64 a1_view), (.int .i64 a2_kind)] w fun e w' => ∃ v, e = .returned v ∧ R v w' :=
  calls_den Try.wide_mixed (f := 28) (args := [(.pointer (some a0_b)), (.int .i64 a1_view), (.int .i64 a2_kind)]) Try.func28 rfl rfl (Eq.mpr (ref17_Box_Commit_eq a0_b a1_view a2_kind R w) h)
def ref17_Box_Drop_fr1 (p_0 : Addr) (x_1 : Int) (a_5 : Option Addr) (n_5 : Nat) (c_5 : Nat) (x_6 : Int) (js1 : Nat → Value) : Fr := [(.pointer (some p_0)), (.int .i64 x_1), (js1 2), (js1 3), (js1 4), (.slice a_5 n_5 c_5), (.int .i64 x_6), (js1 7), (js1 8), (js1 9), (js1 10), (js1 11), (js1 12), (js1 13), (js1 14), (js1 15), (js1 16), (js1 17), (js1 18), (js1 19), (js1 20), (js1 21), (js1 22), (js1 23), (js1 24), (js1 25), (js1 26), (js1 27), (js1 28), (js1 29), (js1 30), (js1 31), (js1 32), (js1 33), (js1 34), (js1 35), (js1 36), (js1 37), (js1 38), (js1 39), (js1 40), (js1 41), (js1 42), (js1 43), (js1 44), (js1 45), (js1 46), (js1 47), (js1 48), (js1 49), (js1 50)]
def ref17_Box_Drop_L1 (p_0 : Addr) (x_1 : Int) (a_5 : Option Addr) (n_5 : Nat) (c_5 : Nat) (x_6 : Int) (K1 : Fr → World → Prop) (js1 : Nat → Value) (R : Value → World → Prop) (w : World) : Prop :=
  ldSlice w (Addr.add p_0 1) fun a3 n4 c5 =>
  brB (decide (x_6 < (n4 : Int))) (
    ldSlice w (Addr.add p_0 1) fun a6 n7 c8 =>
    ixA a6 n7 x_6 6 fun q9 =>
    ldInt .i64 w q9 fun x10 =>
    brB (decide (x10 ≥ x_1)) (
      ldSlice w (Addr.add p_0 1) fun a11 n12 c13 =>
      ixA a11 n12 x_6 6 fun q14 =>
      ldInt .i64 w q14 fun x15 => ldInt .i64 w (Addr.add q14 1) fun x16 => ldInt .i64 w (Addr.add q14 2) fun x17 => ldInt .i64 w (Addr.add q14 3) fun x18 => ldInt .i64 w (Addr.add q14 4) fun x19 => ldInt .i64 w (Addr.add q14 5) fun x20 =>
      al w (.cells #[(.int .i64 x15), (.int .i64 x16), (.int .i64 x17), (.int .i64 x18), (.int .i64 x19), (.int .i64 x20)] 63) fun b21 w22 =>
      effSl Try.prog (Builtin.append_ #[59, 59] 59 #[(.slice a_5 n_5 c_5), (.slice (some ⟨b21, 0, none⟩) 1 1)]) w22 fun a24 n25 c26 w23 =>
      K1 (ref17_Box_Drop_fr1 p_0 x_1 a24 n25 c26 (IntKind.wrap .i64 (x_6 + 1)) (jk [(9, (.int .i64 x_6)), (10, (.pointer (some p_0))), (11, (.pointer (some p_0))), (12, (.pointer (some (Addr.add p_0 1)))), (13, (.slice a3 n4 c5)), (14, (.int .i64 (n4 : Int))), (15, (.bool (decide (x_6 < (n4 : Int))))), (16, (.int .i64 x_6)), (17, (.int .i64 (IntKind.wrap .i64 (x_6 + 1)))), (18, (.pointer (some p_0))), (19, (.pointer (some p_0))), (20, (.pointer (some (Addr.add p_0 1)))), (21, (.slice a6 n7 c8)), (22, (.int .i64 x_6)), (23, (.pointer (some q9))), (24, (.pointer (some q9))), (25, (.int .i64 x10)), (26, (.int .i64 x_1)), (27, (.bool (decide (x10 ≥ x_1)))), (28, (.slice a_5 n_5 c_5)), (29, (.pointer (some p_0))), (30, (.pointer (some p_0))), (31, (.pointer (some (Addr.add p_0 1)))), (32, (.slice a11 n12 c13)), (33, (.int .i64 x_6)), (34, (.pointer (some q14))), (35, (.agg #[(.int .i64 x15), (.int .i64 x16), (.int .i64 x17), (.int .i64 x18), (.int .i64 x19), (.int .i64 x20)])), (36, (.slice (some ⟨b21, 0, none⟩) 1 1)), (37, (.slice a24 n25 c26))] js1)) w23)
    (
      K1 (ref17_Box_Drop_fr1 p_0 x_1 a_5 n_5 c_5 (IntKind.wrap .i64 (x_6 + 1)) (jk [(9, (.int .i64 x_6)), (10, (.pointer (some p_0))), (11, (.pointer (some p_0))), (12, (.pointer (some (Addr.add p_0 1)))), (13, (.slice a3 n4 c5)), (14, (.int .i64 (n4 : Int))), (15, (.bool (decide (x_6 < (n4 : Int))))), (16, (.int .i64 x_6)), (17, (.int .i64 (IntKind.wrap .i64 (x_6 + 1)))), (18, (.pointer (some p_0))), (19, (.pointer (some p_0))), (20, (.pointer (some (Addr.add p_0 1)))), (21, (.slice a6 n7 c8)), (22, (.int .i64 x_6)), (23, (.pointer (some q9))), (24, (.pointer (some q9))), (25, (.int .i64 x10)), (26, (.int .i64 x_1)), (27, (.bool (decide (x10 ≥ x_1))))] js1)) w))
  (
    ldSlice w (Addr.add p_0 1) fun a27 n28 c29 =>
    st w (Addr.add p_0 1) [(.slice a_5 n_5 c_5)] fun w30 => R (.int .i64 (IntKind.wrap .i64 ((n28 : Int) - (n_5 : Int)))) w30)
theorem ref17_Box_Drop_L1_eq (p_0 : Addr) (x_1 : Int) (a_5 : Option Addr) (n_5 : Nat) (c_5 : Nat) (x_6 : Int) (K1 : Fr → World → Prop) (js1 : Nat → Value) (R : Value → World → Prop) (w : World) :
    den Try.prog (sub (code Try.f22) [1, 1, 0, 1, 0, 0]) (kthen K1 (kont Try.prog (code Try.f22) [1, 1, 0, 1, 0] [] (post Try.prog Try.f22 R))) (ref17_Box_Drop_fr1 p_0 x_1 a_5 n_5 c_5 x_6 js1) w = ref17_Box_Drop_L1 p_0 x_1 a_5 n_5 c_5 x_6 K1 js1 R w := by kernel_rfl
def ref17_Box_Drop_K1 (p_0 : Addr) (x_1 : Int) (I : Nat → Option Addr → Nat → Nat → Int → World → Prop) (m : Nat) (fr : Fr) (w : World) : Prop := ∃ m', m' < m ∧ ∃ a_5 n_5 c_5 x_6 js, fr = ref17_Box_Drop_fr1 p_0 x_1 a_5 n_5 c_5 x_6 js ∧ I m' a_5 n_5 c_5 x_6 w
theorem ref17_Box_Drop_leaf1 {p_0 : Addr} {x_1 : Int} {I : Nat → Option Addr → Nat → Nat → Int → World → Prop} {m : Nat} {a_5 : Option Addr} {n_5 : Nat} {c_5 : Nat} {x_6 : Int} {js : Nat → Value} {w : World} (m' : Nat) (h1 : m' < m) (h2 : I m' a_5 n_5 c_5 x_6 w) : ref17_Box_Drop_K1 p_0 x_1 I m (ref17_Box_Drop_fr1 p_0 x_1 a_5 n_5 c_5 x_6 js) w := ⟨m', h1, _, _, _, _, _, rfl, h2⟩
theorem ref17_Box_Drop_rule1 {p_0 : Addr} {x_1 : Int} {a_50 : Option Addr} {n_50 : Nat} {c_50 : Nat} {x_60 : Int} {js0 : Nat → Value} {R : Value → World → Prop} {w0 : World} (I : Nat → Option Addr → Nat → Nat → Int → World → Prop) (m0 : Nat) (h0 : I m0 a_50 n_50 c_50 x_60 w0)
    (hr : ∀ (m : Nat) (a_5 : Option Addr) (n_5 : Nat) (c_5 : Nat) (x_6 : Int) (js : Nat → Value) (w : World), I m a_5 n_5 c_5 x_6 w → ref17_Box_Drop_L1 p_0 x_1 a_5 n_5 c_5 x_6 (ref17_Box_Drop_K1 p_0 x_1 I m) js R w) :
    loopD (den Try.prog (sub (code Try.f22) [1, 1, 0, 1, 0, 0])) (kont Try.prog (code Try.f22) [1, 1, 0, 1, 0] [] (post Try.prog Try.f22 R)) (ref17_Box_Drop_fr1 p_0 x_1 a_50 n_50 c_50 x_60 js0) w0 := by
  refine ⟨fun m fr w => ∃ a_5 n_5 c_5 x_6 js, fr = ref17_Box_Drop_fr1 p_0 x_1 a_5 n_5 c_5 x_6 js ∧ I m a_5 n_5 c_5 x_6 w, m0, ⟨_, _, _, _, _, rfl, h0⟩, ?_⟩
  rintro m fr w ⟨a_5, n_5, c_5, x_6, js, rfl, hI⟩
  have h := hr m a_5 n_5 c_5 x_6 js w hI
  rw [← ref17_Box_Drop_L1_eq] at h
  exact h
/-- (*stagecoach/stagecoachref17.Box).Drop -/
def ref17_Box_Drop_T (a0_b : Addr) (a1_below : Int) (R : Value → World → Prop) (w : World) : Prop :=
  al w (.cells #[] 63) fun b1 w2 =>
  loopD (den Try.prog (sub (code Try.f22) [1, 1, 0, 1, 0, 0])) (kont Try.prog (code Try.f22) [1, 1, 0, 1, 0] [] (post Try.prog Try.f22 R)) (ref17_Box_Drop_fr1 a0_b a1_below (some ⟨b1, 0, none⟩) 0 0 0 (jk [(4, (.int .i64 0)), (8, (.slice (some ⟨b1, 0, none⟩) 0 0))] (fun _ => undef))) w2
theorem ref17_Box_Drop_eq (a0_b : Addr) (a1_below : Int) (R : Value → World → Prop) (w : World) :
    den Try.prog (code Try.f22) (post Try.prog Try.f22 R) [(.pointer (some a0_b)), (.int .i64 a1_below), undef, undef, undef, undef, undef, undef, undef, undef, undef, undef, undef, undef, undef, undef, undef, undef, undef, undef, undef, undef, undef, undef, undef, undef, undef, undef, undef, undef, undef, undef, undef, undef, undef, undef, undef, undef, undef, undef, undef, undef, undef, undef, undef, undef, undef, undef, undef, undef, undef] w = ref17_Box_Drop_T a0_b a1_below R w := by kernel_rfl
theorem ref17_Box_Drop_go {a0_b : Addr} {a1_below : Int} {R : Value → World → Prop} {w : World} (h : ref17_Box_Drop_T a0_b a1_below R w) :
    Calls Try.prog 22 #[(.pointer (some a0_b)), (.int .i64 a1_below)] w fun e w' => ∃ v, e = .returned v ∧ R v w' :=
  calls_den Try.wide_mixed (f := 22) (args := [(.pointer (some a0_b)), (.int .i64 a1_below)]) Try.func22 rfl rfl (Eq.mpr (ref17_Box_Drop_eq a0_b a1_below R w) h)
def ref17_Same_fr1 (a_0 : Option Addr) (n_0 : Nat) (c_0 : Nat) (a_1 : Option Addr) (n_1 : Nat) (c_1 : Nat) (x_5 : Int) (js1 : Nat → Value) : Fr := [(.slice a_0 n_0 c_0), (.slice a_1 n_1 c_1), (js1 2), (js1 3), (js1 4), (.int .i64 x_5), (js1 6), (js1 7), (js1 8), (js1 9), (js1 10), (js1 11), (js1 12), (js1 13), (js1 14), (js1 15), (js1 16), (js1 17), (js1 18), (js1 19), (js1 20), (js1 21), (js1 22), (js1 23), (js1 24), (js1 25)]
def ref17_Same_L1 (a_0 : Option Addr) (n_0 : Nat) (c_0 : Nat) (a_1 : Option Addr) (n_1 : Nat) (c_1 : Nat) (x_5 : Int) (K1 : Fr → World → Prop) (js1 : Nat → Value) (R : Value → World → Prop) (w : World) : Prop :=
  brB (decide (x_5 < (n_0 : Int))) (
    ixA a_0 n_0 x_5 4 fun q1 =>
    ldInt .i64 w q1 fun x2 => ldInt .i64 w (Addr.add q1 1) fun x3 => ldInt .i64 w (Addr.add q1 2) fun x4 => ldInt .i64 w (Addr.add q1 3) fun x5 =>
    ixA a_1 n_1 x_5 4 fun q6 =>
    ldInt .i64 w q6 fun x7 => ldInt .i64 w (Addr.add q6 1) fun x8 => ldInt .i64 w (Addr.add q6 2) fun x9 => ldInt .i64 w (Addr.add q6 3) fun x10 =>
    ∃ t11 : Bool, (∀ w', Mod [] w w' → Sem.run Try.prog (do eqGuard .neq 29 (.tmp 20) (.tmp 24) (.agg #[(.int .i64 x2), (.int .i64 x3), (.int .i64 x4), (.int .i64 x5)]) (.agg #[(.int .i64 x7), (.int .i64 x8), (.int .i64 x9), (.int .i64 x10)]); Go.binOp .neq 29 (.agg #[(.int .i64 x2), (.int .i64 x3), (.int .i64 x4), (.int .i64 x5)]) (.agg #[(.int .i64 x7), (.int .i64 x8), (.int .i64 x9), (.int .i64 x10)])) w' = .ok (.bool t11) w') ∧
    ∀ w12, Mod [] w w12 →
    brB t11 (R (.bool false) w12)
    (
      K1 (ref17_Same_fr1 a_0 n_0 c_0 a_1 n_1 c_1 (IntKind.wrap .i64 (x_5 + 1)) (jk [(11, (.int .i64 x_5)), (12, (.slice a_0 n_0 c_0)), (13, (.int .i64 (n_0 : Int))), (14, (.bool (decide (x_5 < (n_0 : Int))))), (15, (.int .i64 x_5)), (16, (.int .i64 (IntKind.wrap .i64 (x_5 + 1)))), (17, (.slice a_0 n_0 c_0)), (18, (.int .i64 x_5)), (19, (.pointer (some q1))), (20, (.agg #[(.int .i64 x2), (.int .i64 x3), (.int .i64 x4), (.int .i64 x5)])), (21, (.slice a_1 n_1 c_1)), (22, (.int .i64 x_5)), (23, (.pointer (some q6))), (24, (.agg #[(.int .i64 x7), (.int .i64 x8), (.int .i64 x9), (.int .i64 x10)])), (25, (.bool t11))] js1)) w12))
  (R (.bool true) w)
theorem ref17_Same_L1_eq (a_0 : Option Addr) (n_0 : Nat) (c_0 : Nat) (a_1 : Option Addr) (n_1 : Nat) (c_1 : Nat) (x_5 : Int) (K1 : Fr → World → Prop) (js1 : Nat → Value) (R : Value → World → Prop) (w : World) :
    den Try.prog (sub (code Try.f25) [1, 1, 0, 1, 0, 0]) (kthen K1 (kont Try.prog (code Try.f25) [1, 1, 0, 1, 0] [] (post Try.prog Try.f25 R))) (ref17_Same_fr1 a_0 n_0 c_0 a_1 n_1 c_1 x_5 js1) w = ref17_Same_L1 a_0 n_0 c_0 a_1 n_1 c_1 x_5 K1 js1 R w := by kernel_rfl
def ref17_Same_K1 (a_0 : Option Addr) (n_0 : Nat) (c_0 : Nat) (a_1 : Option Addr) (n_1 : Nat) (c_1 : Nat) (I : Nat → Int → World → Prop) (m : Nat) (fr : Fr) (w : World) : Prop := ∃ m', m' < m ∧ ∃ x_5 js, fr = ref17_Same_fr1 a_0 n_0 c_0 a_1 n_1 c_1 x_5 js ∧ I m' x_5 w
theorem ref17_Same_leaf1 {a_0 : Option Addr} {n_0 : Nat} {c_0 : Nat} {a_1 : Option Addr} {n_1 : Nat} {c_1 : Nat} {I : Nat → Int → World → Prop} {m : Nat} {x_5 : Int} {js : Nat → Value} {w : World} (m' : Nat) (h1 : m' < m) (h2 : I m' x_5 w) : ref17_Same_K1 a_0 n_0 c_0 a_1 n_1 c_1 I m (ref17_Same_fr1 a_0 n_0 c_0 a_1 n_1 c_1 x_5 js) w := ⟨m', h1, _, _, rfl, h2⟩
theorem ref17_Same_rule1 {a_0 : Option Addr} {n_0 : Nat} {c_0 : Nat} {a_1 : Option Addr} {n_1 : Nat} {c_1 : Nat} {x_50 : Int} {js0 : Nat → Value} {R : Value → World → Prop} {w0 : World} (I : Nat → Int → World → Prop) (m0 : Nat) (h0 : I m0 x_50 w0)
    (hr : ∀ (m : Nat) (x_5 : Int) (js : Nat → Value) (w : World), I m x_5 w → ref17_Same_L1 a_0 n_0 c_0 a_1 n_1 c_1 x_5 (ref17_Same_K1 a_0 n_0 c_0 a_1 n_1 c_1 I m) js R w) :
    loopD (den Try.prog (sub (code Try.f25) [1, 1, 0, 1, 0, 0])) (kont Try.prog (code Try.f25) [1, 1, 0, 1, 0] [] (post Try.prog Try.f25 R)) (ref17_Same_fr1 a_0 n_0 c_0 a_1 n_1 c_1 x_50 js0) w0 := by
  refine ⟨fun m fr w => ∃ x_5 js, fr = ref17_Same_fr1 a_0 n_0 c_0 a_1 n_1 c_1 x_5 js ∧ I m x_5 w, m0, ⟨_, _, rfl, h0⟩, ?_⟩
  rintro m fr w ⟨x_5, js, rfl, hI⟩
  have h := hr m x_5 js w hI
  rw [← ref17_Same_L1_eq] at h
  exact h
/-- stagecoach/stagecoachref17.Same -/
def ref17_Same_T (a0_a_a : Option Addr) (a0_a_n : Nat) (a0_a_c : Nat) (a1_b_a : Option Addr) (a1_b_n : Nat) (a1_b_c : Nat) (R : Value → World → Prop) (w : World) : Prop :=
  brB ((a0_a_n : Int) != (a1_b_n : Int)) (R (.bool false) w)
  (
    loopD (den Try.prog (sub (code Try.f25) [1, 1, 0, 1, 0, 0])) (kont Try.prog (code Try.f25) [1, 1, 0, 1, 0] [] (post Try.prog Try.f25 R)) (ref17_Same_fr1 a0_a_a a0_a_n a0_a_c a1_b_a a1_b_n a1_b_c 0 (jk [(4, (.bool false)), (6, (.slice a0_a_a a0_a_n a0_a_c)), (7, (.int .i64 (a0_a_n : Int))), (8, (.slice a1_b_a a1_b_n a1_b_c)), (9, (.int .i64 (a1_b_n : Int))), (10, (.bool ((a0_a_n : Int) != (a1_b_n : Int))))] (fun _ => undef))) w)
theorem ref17_Same_eq (a0_a_a : Option Addr) (a0_a_n : Nat) (a0_a_c : Nat) (a1_b_a : Option Addr) (a1_b_n : Nat) (a1_b_c : Nat) (R : Value → World → Prop) (w : World) :
    den Try.prog (code Try.f25) (post Try.prog Try.f25 R) [(.slice a0_a_a a0_a_n a0_a_c), (.slice a1_b_a a1_b_n a1_b_c), undef, undef, undef, undef, undef, undef, undef, undef, undef, undef, undef, undef, undef, undef, undef, undef, undef, undef, undef, undef, undef, undef, undef, undef] w = ref17_Same_T a0_a_a a0_a_n a0_a_c a1_b_a a1_b_n a1_b_c R w := by kernel_rfl
theorem ref17_Same_go {a0_a_a : Option Addr} {a0_a_n : Nat} {a0_a_c : Nat} {a1_b_a : Option Addr} {a1_b_n : Nat} {a1_b_c : Nat} {R : Value → World → Prop} {w : World} (h : ref17_Same_T a0_a_a a0_a_n a0_a_c a1_b_a a1_b_n a1_b_c R w) :
    Calls Try.prog 25 #[(.slice a0_a_a a0_a_n a0_a_c), (.slice a1_b_a a1_b_n a1_b_c)] w fun e w' => ∃ v, e = .returned v ∧ R v w' :=
  calls_den Try.wide_mixed (f := 25) (args := [(.slice a0_a_a a0_a_n a0_a_c), (.slice a1_b_a a1_b_n a1_b_c)]) Try.func25 rfl rfl (Eq.mpr (ref17_Same_eq a0_a_a a0_a_n a0_a_c a1_b_a a1_b_n a1_b_c R w) h)

end Go.Proofs.Ytkdpopkbongabaa
