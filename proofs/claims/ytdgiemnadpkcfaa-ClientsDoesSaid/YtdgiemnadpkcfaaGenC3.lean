/- The conditions of Go functions' bodies, printed by gen2.py. -/
import Derived.Test.YtdgiemnadpkcfaaTrkS
namespace Go.Proofs.Ytdgiemnadpkcfaa
open Go Go.RowKit
set_option linter.unusedVariables false
set_option maxRecDepth 100000

def clients_New_an : List LA := []
/-- stagecoach/clients.New -/
def clients_New_T (R : Value → World → Prop) (w : World) : Prop :=
  al w (.map #[] 0) fun b1 w2 =>
  ∀ b3, w2.heap.size ≤ b3 →
  ∀ w4, Adv [] [b3] w2 w4 → w4.heap[b3]? = some (.cells #[(.map (some b1))] 68) →
  R (.pointer (some ⟨b3, 0, none⟩)) w4
theorem clients_New_eq (R : Value → World → Prop) (w : World) :
    dnF Try.prog clients_New_an (code Try.f15) 400 [] (post3 Try.prog Try.f15 [] R) ⟨args0 0 [], fun _ => undef⟩ ⟨[], w, [], [], true⟩ = clients_New_T R w := by kernel_rfl
theorem clients_New_go {R : Value → World → Prop} {w : World} (h : clients_New_T R w) :
    Calls Try.prog 15 #[] w fun e w' => ∃ v, e = .returned v ∧ R v w' :=
  calls_none Try.wide_mixed (f := 15) (args := []) Try.func15 rfl rfl (by kernel_rfl) rfl (Eq.mpr (clients_New_eq R w) h)
def clients_Table_Ask_an : List LA := []
/-- (*stagecoach/clients.Table).Ask -/
def clients_Table_Ask_T (b0 : Nat) (o0 : Option Nat) (a1_client : Int) (a2_n : Int) (R : Value → World → Prop) (w : World) : Prop :=
  ∀ b1, w.heap.size ≤ b1 →
  ∀ w2, Adv [] [b1] w w2 →
  Calls Try.prog 26 #[(.int .i64 a1_client)] w2 fun e w3 => ∃ t4 : Bool, e = .returned (.bool t4) ∧ Keep [b0, b1] w2 w3 ∧
  brB (!t4) (
    ∀ w5, Adv [b1] [] w3 w5 → w5.heap[b0]? = some (.cells #[(.map o0)] 68) →
    R (.tuple #[(.int .i64 0), (.agg #[(.int .i64 0), (.int .i64 0), (.int .i64 0), (.int .i64 0), (.slice none 0 0), (.slice none 0 0)]), (.int .i64 1)]) w5)
  (
    Calls Try.prog 26 #[(.int .i64 a2_n)] w3 fun e w6 => ∃ t7 : Bool, e = .returned (.bool t7) ∧ Keep [b0, b1] w3 w6 ∧
    brB (!t7) (
      ∀ w8, Adv [b1] [] w6 w8 → w8.heap[b0]? = some (.cells #[(.map o0)] 68) →
      R (.tuple #[(.int .i64 0), (.agg #[(.int .i64 0), (.int .i64 0), (.int .i64 0), (.int .i64 0), (.slice none 0 0), (.slice none 0 0)]), (.int .i64 1)]) w8)
    (
      ∃ x9 : Int, ∃ x10 : Int, ∃ t11 : Bool, ∃ x12 : Int, ∃ x13 : Int, ∃ x14 : Int, ∃ x15 : Int, ∃ (a16 : Option Addr) (n17 c18 : Nat), ∃ (a19 : Option Addr) (n20 c21 : Nat), ∃ t22 : Bool, (∀ w', Mod [] w6 w' → (Instr.lookup 66 (.map o0) (.int .i64 a1_client) true).run Try.prog w' = .ok (.tuple #[(.agg #[(.int .i64 x9), (.int .i64 x10), (.bool t11), (.int .i64 x12), (.int .i64 x13), (.int .i64 x14), (.int .i64 x15), (.slice a16 n17 c18), (.slice a19 n20 c21)]), (.bool t22)]) w') ∧
      ∀ b23, w6.heap.size ≤ b23 →
      brB (!t22) (
        ∀ w24, Adv [b1] [b23] w6 w24 → w24.heap[b0]? = some (.cells #[(.map o0)] 68) →
        R (.tuple #[(.int .i64 0), (.agg #[(.int .i64 0), (.int .i64 0), (.int .i64 0), (.int .i64 0), (.slice none 0 0), (.slice none 0 0)]), (.int .i64 0)]) w24)
      (
        brB (decide (a2_n > x10)) (
          ∀ w25, Adv [b1] [b23] w6 w25 → w25.heap[b0]? = some (.cells #[(.map o0)] 68) →
          R (.tuple #[(.int .i64 0), (.agg #[(.int .i64 0), (.int .i64 0), (.int .i64 0), (.int .i64 0), (.slice none 0 0), (.slice none 0 0)]), (.int .i64 0)]) w25)
        (
          brB (decide (a2_n < x10)) (
            ∀ w26, Adv [b1] [b23] w6 w26 → w26.heap[b0]? = some (.cells #[(.map o0)] 68) →
            R (.tuple #[(.int .i64 0), (.agg #[(.int .i64 0), (.int .i64 0), (.int .i64 0), (.int .i64 0), (.slice none 0 0), (.slice none 0 0)]), (.int .i64 150)]) w26)
          (
            brB t11 (
              ∀ w27, Adv [] [b23] w6 w27 →
              Calls Try.prog 27 #[(.agg #[(.int .i64 x12), (.int .i64 x13), (.int .i64 x14), (.int .i64 x15), (.slice a16 n17 c18), (.slice a19 n20 c21)])] w27 fun e w28 => ∃ x29 : Int, ∃ x30 : Int, ∃ x31 : Int, ∃ x32 : Int, ∃ (a33 : Option Addr) (n34 c35 : Nat), ∃ (a36 : Option Addr) (n37 c38 : Nat), e = .returned (.agg #[(.int .i64 x29), (.int .i64 x30), (.int .i64 x31), (.int .i64 x32), (.slice a33 n34 c35), (.slice a36 n37 c38)]) ∧ Keep [b0, b1, b23] w27 w28 ∧
              ∀ w39, Adv [b1] [] w28 w39 → w39.heap[b0]? = some (.cells #[(.map o0)] 68) →
              R (.tuple #[(.int .i64 1), (.agg #[(.int .i64 x29), (.int .i64 x30), (.int .i64 x31), (.int .i64 x32), (.slice a33 n34 c35), (.slice a36 n37 c38)]), (.int .i64 0)]) w39)
            (
              ∀ w40, Adv [b1] [b23] w6 w40 → w40.heap[b0]? = some (.cells #[(.map o0)] 68) →
              R (.tuple #[(.int .i64 2), (.agg #[(.int .i64 0), (.int .i64 0), (.int .i64 0), (.int .i64 0), (.slice none 0 0), (.slice none 0 0)]), (.int .i64 0)]) w40))))))
theorem clients_Table_Ask_eq (b0 : Nat) (o0 : Option Nat) (a1_client : Int) (a2_n : Int) (R : Value → World → Prop) (w : World) :
    dnF Try.prog clients_Table_Ask_an (code Try.f16) 400 [] (post3 Try.prog Try.f16 [0] R) ⟨(0, .pointer (some ⟨b0, 0, none⟩), some (0, 0)) :: args0 1 [(.int .i64 a1_client), (.int .i64 a2_n)], fun _ => undef⟩ ⟨[⟨b0, 68, [(.map o0)], false⟩], w, [], [], true⟩ = clients_Table_Ask_T b0 o0 a1_client a2_n R w := by kernel_rfl
theorem clients_Table_Ask_go {b0 : Nat} {o0 : Option Nat} {a1_client : Int} {a2_n : Int} {R : Value → World → Prop} {w : World} (hb : w.heap[b0]? = some (.cells #[(.map o0)] 68)) (h : clients_Table_Ask_T b0 o0 a1_client a2_n R w) :
    Calls Try.prog 16 #[(.pointer (some ⟨b0, 0, none⟩)), (.int .i64 a1_client), (.int .i64 a2_n)] w fun e w' => ∃ v, e = .returned v ∧ R v w' :=
  calls_one Try.wide_mixed (f := 16) (args := [(.int .i64 a1_client), (.int .i64 a2_n)]) Try.func16 rfl rfl (by kernel_rfl) rfl hb (Eq.mpr (clients_Table_Ask_eq b0 o0 a1_client a2_n R w) h)
def clients_Table_Begin_an : List LA := []
/-- (*stagecoach/clients.Table).Begin -/
def clients_Table_Begin_T (b0 : Nat) (o0 : Option Nat) (a1_client : Int) (a2_n : Int) (R : Value → World → Prop) (w : World) : Prop :=
  ∀ w1, Adv [] [] w w1 → w1.heap[b0]? = some (.cells #[(.map o0)] 68) →
  Calls Try.prog 16 #[(.pointer (some ⟨b0, 0, none⟩)), (.int .i64 a1_client), (.int .i64 a2_n)] w1 fun e w2 => ∃ x3 : Int, ∃ x4 : Int, ∃ x5 : Int, ∃ x6 : Int, ∃ x7 : Int, ∃ (a8 : Option Addr) (n9 c10 : Nat), ∃ (a11 : Option Addr) (n12 c13 : Nat), ∃ x14 : Int, e = .returned (.tuple #[(.int .i64 x3), (.agg #[(.int .i64 x4), (.int .i64 x5), (.int .i64 x6), (.int .i64 x7), (.slice a8 n9 c10), (.slice a11 n12 c13)]), (.int .i64 x14)]) ∧ ∃ m15 : Option Nat, w2.heap[b0]? = some (.cells #[(.map m15)] 68) ∧
  ∀ b16, w2.heap.size ≤ b16 →
  brB (x14 != 0) (
    ∀ w17, Adv [] [b16] w2 w17 → w17.heap[b0]? = some (.cells #[(.map m15)] 68) →
    R (.int .i64 x14) w17)
  (
    brB (x3 != 0) (
      ∀ w18, Adv [] [b16] w2 w18 → w18.heap[b0]? = some (.cells #[(.map m15)] 68) →
      R (.int .i64 x14) w18)
    (
      ∀ w19, Adv [] [b16] w2 w19 → w19.heap[b0]? = some (.cells #[(.map m15)] 68) →
      ∃ x20 : Int, ∃ x21 : Int, ∃ t22 : Bool, ∃ x23 : Int, ∃ x24 : Int, ∃ x25 : Int, ∃ x26 : Int, ∃ (a27 : Option Addr) (n28 c29 : Nat), ∃ (a30 : Option Addr) (n31 c32 : Nat), ∃ t33 : Bool, (∀ w', Mod [] w19 w' → (Instr.lookup 66 (.map m15) (.int .i64 a1_client) true).run Try.prog w' = .ok (.tuple #[(.agg #[(.int .i64 x20), (.int .i64 x21), (.bool t22), (.int .i64 x23), (.int .i64 x24), (.int .i64 x25), (.int .i64 x26), (.slice a27 n28 c29), (.slice a30 n31 c32)]), (.bool t33)]) w') ∧
      ∀ b34, w19.heap.size ≤ b34 →
      brB (!t33) (
        ∀ w35, Adv [] [b34] w19 w35 → w35.heap[b0]? = some (.cells #[(.map m15)] 68) →
        ∃ x36 : Int, (∀ w', Mod [] w35 w' → (Builtin.len_ #[66] 3 #[(.map m15)]).run Try.prog w' = .ok (.int .i64 x36) w') ∧
        brB (decide (x36 ≥ 16)) (
          R (.int .i64 2) w35)
        (
          effU Try.prog (Instr.mapUpdate 66 (.map m15) (.int .i64 a1_client) (.agg #[(.int .i64 a1_client), (.int .i64 a2_n), (.bool false), (.int .i64 0), (.int .i64 0), (.int .i64 0), (.int .i64 0), (.slice none 0 0), (.slice none 0 0)])) w35 fun w37 => Keep [b0, b16, b34] w35 w37 ∧
          R (.int .i64 0) w37))
      (
        ∀ w38, Adv [] [b34] w19 w38 → w38.heap[b0]? = some (.cells #[(.map m15)] 68) →
        effU Try.prog (Instr.mapUpdate 66 (.map m15) (.int .i64 a1_client) (.agg #[(.int .i64 a1_client), (.int .i64 a2_n), (.bool false), (.int .i64 0), (.int .i64 0), (.int .i64 0), (.int .i64 0), (.slice none 0 0), (.slice none 0 0)])) w38 fun w39 => Keep [b0, b16, b34] w38 w39 ∧
        R (.int .i64 0) w39)))
theorem clients_Table_Begin_eq (b0 : Nat) (o0 : Option Nat) (a1_client : Int) (a2_n : Int) (R : Value → World → Prop) (w : World) :
    dnF Try.prog clients_Table_Begin_an (code Try.f17) 400 [] (post3 Try.prog Try.f17 [0] R) ⟨(0, .pointer (some ⟨b0, 0, none⟩), some (0, 0)) :: args0 1 [(.int .i64 a1_client), (.int .i64 a2_n)], fun _ => undef⟩ ⟨[⟨b0, 68, [(.map o0)], false⟩], w, [], [], true⟩ = clients_Table_Begin_T b0 o0 a1_client a2_n R w := by kernel_rfl
theorem clients_Table_Begin_go {b0 : Nat} {o0 : Option Nat} {a1_client : Int} {a2_n : Int} {R : Value → World → Prop} {w : World} (hb : w.heap[b0]? = some (.cells #[(.map o0)] 68)) (h : clients_Table_Begin_T b0 o0 a1_client a2_n R w) :
    Calls Try.prog 17 #[(.pointer (some ⟨b0, 0, none⟩)), (.int .i64 a1_client), (.int .i64 a2_n)] w fun e w' => ∃ v, e = .returned v ∧ R v w' :=
  calls_one Try.wide_mixed (f := 17) (args := [(.int .i64 a1_client), (.int .i64 a2_n)]) Try.func17 rfl rfl (by kernel_rfl) rfl hb (Eq.mpr (clients_Table_Begin_eq b0 o0 a1_client a2_n R w) h)
def clients_Table_Done_an : List LA := []
/-- (*stagecoach/clients.Table).Done -/
def clients_Table_Done_T (b0 : Nat) (o0 : Option Nat) (a1_client : Int) (a2_n : Int) (a3_r_0 : Int) (a3_r_1 : Int) (a3_r_2 : Int) (a3_r_3 : Int) (a3_r_4_a : Option Addr) (a3_r_4_n : Nat) (a3_r_4_c : Nat) (a3_r_5_a : Option Addr) (a3_r_5_n : Nat) (a3_r_5_c : Nat) (R : Value → World → Prop) (w : World) : Prop :=
  ∀ b1, w.heap.size ≤ b1 →
  ∀ w2, Adv [] [b1] w w2 →
  ∃ x3 : Int, ∃ x4 : Int, ∃ t5 : Bool, ∃ x6 : Int, ∃ x7 : Int, ∃ x8 : Int, ∃ x9 : Int, ∃ (a10 : Option Addr) (n11 c12 : Nat), ∃ (a13 : Option Addr) (n14 c15 : Nat), ∃ t16 : Bool, (∀ w', Mod [] w2 w' → (Instr.lookup 66 (.map o0) (.int .i64 a1_client) true).run Try.prog w' = .ok (.tuple #[(.agg #[(.int .i64 x3), (.int .i64 x4), (.bool t5), (.int .i64 x6), (.int .i64 x7), (.int .i64 x8), (.int .i64 x9), (.slice a10 n11 c12), (.slice a13 n14 c15)]), (.bool t16)]) w') ∧
  ∀ b17, w2.heap.size ≤ b17 →
  ∀ w18, Adv [] [b17] w2 w18 →
  Calls Try.prog 26 #[(.int .i64 a1_client)] w18 fun e w19 => ∃ t20 : Bool, e = .returned (.bool t20) ∧ Keep [b0, b1, b17] w18 w19 ∧
  brB (!t20) (
    ∀ w21, Adv [] [] w19 w21 → w21.heap[b0]? = some (.cells #[(.map o0)] 68) →
    R (.int .i64 1) w21)
  (
    Calls Try.prog 26 #[(.int .i64 a2_n)] w19 fun e w22 => ∃ t23 : Bool, e = .returned (.bool t23) ∧ Keep [b0, b1, b17] w19 w22 ∧
    brB (!t23) (
      ∀ w24, Adv [] [] w22 w24 → w24.heap[b0]? = some (.cells #[(.map o0)] 68) →
      R (.int .i64 1) w24)
    (
      brB (!t16) (
        ∀ w25, Adv [] [] w22 w25 → w25.heap[b0]? = some (.cells #[(.map o0)] 68) →
        R (.int .i64 151) w25)
      (
        brB (x4 != a2_n) (
          ∀ w26, Adv [] [] w22 w26 → w26.heap[b0]? = some (.cells #[(.map o0)] 68) →
          R (.int .i64 150) w26)
        (
          Calls Try.prog 27 #[(.agg #[(.int .i64 a3_r_0), (.int .i64 a3_r_1), (.int .i64 a3_r_2), (.int .i64 a3_r_3), (.slice a3_r_4_a a3_r_4_n a3_r_4_c), (.slice a3_r_5_a a3_r_5_n a3_r_5_c)])] w22 fun e w27 => ∃ x28 : Int, ∃ x29 : Int, ∃ x30 : Int, ∃ x31 : Int, ∃ (a32 : Option Addr) (n33 c34 : Nat), ∃ (a35 : Option Addr) (n36 c37 : Nat), e = .returned (.agg #[(.int .i64 x28), (.int .i64 x29), (.int .i64 x30), (.int .i64 x31), (.slice a32 n33 c34), (.slice a35 n36 c37)]) ∧ Keep [b0, b1, b17] w22 w27 ∧
          ∀ w38, Adv [b17] [] w27 w38 →
          effU Try.prog (Instr.mapUpdate 66 (.map o0) (.int .i64 a1_client) (.agg #[(.int .i64 x3), (.int .i64 x4), (.bool true), (.int .i64 x28), (.int .i64 x29), (.int .i64 x30), (.int .i64 x31), (.slice a32 n33 c34), (.slice a35 n36 c37)])) w38 fun w39 => Keep [b0, b1, b17] w38 w39 ∧
          ∀ w40, Adv [] [] w39 w40 → w40.heap[b0]? = some (.cells #[(.map o0)] 68) →
          R (.int .i64 0) w40))))
theorem clients_Table_Done_eq (b0 : Nat) (o0 : Option Nat) (a1_client : Int) (a2_n : Int) (a3_r_0 : Int) (a3_r_1 : Int) (a3_r_2 : Int) (a3_r_3 : Int) (a3_r_4_a : Option Addr) (a3_r_4_n : Nat) (a3_r_4_c : Nat) (a3_r_5_a : Option Addr) (a3_r_5_n : Nat) (a3_r_5_c : Nat) (R : Value → World → Prop) (w : World) :
    dnF Try.prog clients_Table_Done_an (code Try.f18) 400 [] (post3 Try.prog Try.f18 [0] R) ⟨(0, .pointer (some ⟨b0, 0, none⟩), some (0, 0)) :: args0 1 [(.int .i64 a1_client), (.int .i64 a2_n), (.agg #[(.int .i64 a3_r_0), (.int .i64 a3_r_1), (.int .i64 a3_r_2), (.int .i64 a3_r_3), (.slice a3_r_4_a a3_r_4_n a3_r_4_c), (.slice a3_r_5_a a3_r_5_n a3_r_5_c)])], fun _ => undef⟩ ⟨[⟨b0, 68, [(.map o0)], false⟩], w, [], [], true⟩ = clients_Table_Done_T b0 o0 a1_client a2_n a3_r_0 a3_r_1 a3_r_2 a3_r_3 a3_r_4_a a3_r_4_n a3_r_4_c a3_r_5_a a3_r_5_n a3_r_5_c R w := by kernel_rfl
theorem clients_Table_Done_go {b0 : Nat} {o0 : Option Nat} {a1_client : Int} {a2_n : Int} {a3_r_0 : Int} {a3_r_1 : Int} {a3_r_2 : Int} {a3_r_3 : Int} {a3_r_4_a : Option Addr} {a3_r_4_n : Nat} {a3_r_4_c : Nat} {a3_r_5_a : Option Addr} {a3_r_5_n : Nat} {a3_r_5_c : Nat} {R : Value → World → Prop} {w : World} (hb : w.heap[b0]? = some (.cells #[(.map o0)] 68)) (h : clients_Table_Done_T b0 o0 a1_client a2_n a3_r_0 a3_r_1 a3_r_2 a3_r_3 a3_r_4_a a3_r_4_n a3_r_4_c a3_r_5_a a3_r_5_n a3_r_5_c R w) :
    Calls Try.prog 18 #[(.pointer (some ⟨b0, 0, none⟩)), (.int .i64 a1_client), (.int .i64 a2_n), (.agg #[(.int .i64 a3_r_0), (.int .i64 a3_r_1), (.int .i64 a3_r_2), (.int .i64 a3_r_3), (.slice a3_r_4_a a3_r_4_n a3_r_4_c), (.slice a3_r_5_a a3_r_5_n a3_r_5_c)])] w fun e w' => ∃ v, e = .returned v ∧ R v w' :=
  calls_one Try.wide_mixed (f := 18) (args := [(.int .i64 a1_client), (.int .i64 a2_n), (.agg #[(.int .i64 a3_r_0), (.int .i64 a3_r_1), (.int .i64 a3_r_2), (.int .i64 a3_r_3), (.slice a3_r_4_a a3_r_4_n a3_r_4_c), (.slice a3_r_5_a a3_r_5_n a3_r_5_c)])]) Try.func18 rfl rfl (by kernel_rfl) rfl hb (Eq.mpr (clients_Table_Done_eq b0 o0 a1_client a2_n a3_r_0 a3_r_1 a3_r_2 a3_r_3 a3_r_4_a a3_r_4_n a3_r_4_c a3_r_5_a a3_r_5_n a3_r_5_c R w) h)
def clients_Table_List_la1 : LA := ⟨[0, 0, 1, 0, 1, 1], [0, 3, 12, 13, 14], [(0, 0, 0)], 1, []⟩
def clients_Table_List_an : List LA := [clients_Table_List_la1]
def clients_Table_List_v1 (a_12 : Option Addr) (n_12 : Nat) (c_12 : Nat) (x_13 : Int) (bm0 : Nat) (a_3 : Option Addr) (n_3 : Nat) (c_3 : Nat) (x_14 : Int) : List Value := [(.pointer (some ⟨bm0, 0, none⟩)), (.slice a_3 n_3 c_3), (.slice a_12 n_12 c_12), (.int .i64 x_13), (.int .i64 x_14)]
def clients_Table_List_m1 (bm0 : Nat) (m_m0_0 : Option Nat) : List TB := [⟨bm0, 68, [(.map m_m0_0)], false⟩]
def clients_Table_List_L1 (a_12 : Option Addr) (n_12 : Nat) (c_12 : Nat) (x_13 : Int) (bm0 : Nat) (m_m0_0 : Option Nat) (a_3 : Option Addr) (n_3 : Nat) (c_3 : Nat) (x_14 : Int) (K1 : Kh) (R : Value → World → Prop) (w : World) : Prop :=
  brB (decide (x_14 < x_13)) (
    ixA a_12 n_12 x_14 1 fun q7 =>
    ldInt .i64 w q7 fun x8 =>
    ∃ x9 : Int, ∃ x10 : Int, ∃ t11 : Bool, ∃ x12 : Int, ∃ x13 : Int, ∃ x14 : Int, ∃ x15 : Int, ∃ (a16 : Option Addr) (n17 c18 : Nat), ∃ (a19 : Option Addr) (n20 c21 : Nat), (∀ w', Mod [] w w' → (Instr.lookup 66 (.map m_m0_0) (.int .i64 x8) false).run Try.prog w' = .ok (.agg #[(.int .i64 x9), (.int .i64 x10), (.bool t11), (.int .i64 x12), (.int .i64 x13), (.int .i64 x14), (.int .i64 x15), (.slice a16 n17 c18), (.slice a19 n20 c21)]) w') ∧
    ∀ b22, w.heap.size ≤ b22 →
    ∀ w23, Adv [] [b22] w w23 →
    Calls Try.prog 27 #[(.agg #[(.int .i64 x12), (.int .i64 x13), (.int .i64 x14), (.int .i64 x15), (.slice a16 n17 c18), (.slice a19 n20 c21)])] w23 fun e w24 => ∃ x25 : Int, ∃ x26 : Int, ∃ x27 : Int, ∃ x28 : Int, ∃ (a29 : Option Addr) (n30 c31 : Nat), ∃ (a32 : Option Addr) (n33 c34 : Nat), e = .returned (.agg #[(.int .i64 x25), (.int .i64 x26), (.int .i64 x27), (.int .i64 x28), (.slice a29 n30 c31), (.slice a32 n33 c34)]) ∧ Keep [bm0, b22] w23 w24 ∧
    ∀ w35, Adv [b22] [] w24 w35 →
    al w35 (.cells #[(.int .i64 x9), (.int .i64 x10), (.bool t11), (.int .i64 x25), (.int .i64 x26), (.int .i64 x27), (.int .i64 x28), (.slice a29 n30 c31), (.slice a32 n33 c34)] 29) fun b36 w37 =>
    effSl Try.prog (Builtin.append_ #[22, 22] 22 #[(.slice a_3 n_3 c_3), (.slice (some ⟨b36, 0, none⟩) 1 1)]) w37 fun a39 n40 c41 w38 => Keep [bm0, b22] w37 w38 ∧
    K1 (clients_Table_List_v1 a_12 n_12 c_12 x_13 bm0 a39 n40 c41 (IntKind.wrap .i64 (x_14 + 1))) (clients_Table_List_m1 bm0 m_m0_0) w38)
  (
    ∀ w42, Adv [] [] w w42 → w42.heap[bm0]? = some (.cells #[(.map m_m0_0)] 68) →
    R (.slice a_3 n_3 c_3) w42)
theorem clients_Table_List_L1_eq (a_12 : Option Addr) (n_12 : Nat) (c_12 : Nat) (x_13 : Int) (bm0 : Nat) (m_m0_0 : Option Nat) (a_3 : Option Addr) (n_3 : Nat) (c_3 : Nat) (x_14 : Int) (K1 : Kh) (js : Nat → Value) (R : Value → World → Prop) (w : World) :
    headA clients_Table_List_la1 ((dnF Try.prog clients_Table_List_an (code Try.f13) 396 [0, 0, 1, 0, 1, 1]) (kthen3 (atA clients_Table_List_la1 K1) (kont3 Try.prog clients_Table_List_an (code Try.f13) [1, 1, 0, 1, 0] [] (post3 Try.prog Try.f13 [0] R)))) (clients_Table_List_v1 a_12 n_12 c_12 x_13 bm0 a_3 n_3 c_3 x_14) js (clients_Table_List_m1 bm0 m_m0_0) w = clients_Table_List_L1 a_12 n_12 c_12 x_13 bm0 m_m0_0 a_3 n_3 c_3 x_14 K1 R w := by kernel_rfl
def clients_Table_List_K1 (a_12 : Option Addr) (n_12 : Nat) (c_12 : Nat) (x_13 : Int) (bm0 : Nat) (m_m0_0 : Option Nat) (I : Nat → Option Addr → Nat → Nat → Int → World → Prop) (m : Nat) (vals : List Value) (mem : List TB) (w : World) : Prop := ∃ m', m' < m ∧ ∃ a_3 n_3 c_3 x_14, vals = (clients_Table_List_v1 a_12 n_12 c_12 x_13 bm0 a_3 n_3 c_3 x_14) ∧ mem = (clients_Table_List_m1 bm0 m_m0_0) ∧ I m' a_3 n_3 c_3 x_14 w
theorem clients_Table_List_leaf1 {a_12 : Option Addr} {n_12 : Nat} {c_12 : Nat} {x_13 : Int} {bm0 : Nat} {m_m0_0 : Option Nat} {I : Nat → Option Addr → Nat → Nat → Int → World → Prop} {m : Nat} {a_3 : Option Addr} {n_3 : Nat} {c_3 : Nat} {x_14 : Int} {w : World} (m' : Nat) (h1 : m' < m) (h2 : I m' a_3 n_3 c_3 x_14 w) : clients_Table_List_K1 a_12 n_12 c_12 x_13 bm0 m_m0_0 I m (clients_Table_List_v1 a_12 n_12 c_12 x_13 bm0 a_3 n_3 c_3 x_14) (clients_Table_List_m1 bm0 m_m0_0) w := ⟨m', h1, _, _, _, _, rfl, rfl, h2⟩
theorem clients_Table_List_rule1 {a_12 : Option Addr} {n_12 : Nat} {c_12 : Nat} {x_13 : Int} {bm0 : Nat} {m_m0_0 : Option Nat} {a_30 : Option Addr} {n_30 : Nat} {c_30 : Nat} {x_140 : Int} {R : Value → World → Prop} {w0 : World} (I : Nat → Option Addr → Nat → Nat → Int → World → Prop) (m0 : Nat) (h0 : I m0 a_30 n_30 c_30 x_140 w0)
    (hr : ∀ (m : Nat) (a_3 : Option Addr) (n_3 : Nat) (c_3 : Nat) (x_14 : Int) (w : World), I m a_3 n_3 c_3 x_14 w → clients_Table_List_L1 a_12 n_12 c_12 x_13 bm0 m_m0_0 a_3 n_3 c_3 x_14 (clients_Table_List_K1 a_12 n_12 c_12 x_13 bm0 m_m0_0 I m) R w) :
    loopD3 clients_Table_List_la1 (dnF Try.prog clients_Table_List_an (code Try.f13) 396 [0, 0, 1, 0, 1, 1]) (kont3 Try.prog clients_Table_List_an (code Try.f13) [1, 1, 0, 1, 0] [] (post3 Try.prog Try.f13 [0] R)) (clients_Table_List_v1 a_12 n_12 c_12 x_13 bm0 a_30 n_30 c_30 x_140) (clients_Table_List_m1 bm0 m_m0_0) w0 := by
  refine ⟨fun m vals mem w => ∃ a_3 n_3 c_3 x_14, vals = (clients_Table_List_v1 a_12 n_12 c_12 x_13 bm0 a_3 n_3 c_3 x_14) ∧ mem = (clients_Table_List_m1 bm0 m_m0_0) ∧ I m a_3 n_3 c_3 x_14 w, m0, ⟨_, _, _, _, rfl, rfl, h0⟩, ?_⟩
  rintro m vals mem w ⟨a_3, n_3, c_3, x_14, rfl, rfl, hI⟩
  refine ⟨rfl, rfl, fun js => ?_⟩
  have h := hr m a_3 n_3 c_3 x_14 w hI
  rw [← clients_Table_List_L1_eq _ _ _ _ _ _ _ _ _ _ _ js] at h
  exact h
/-- (*stagecoach/clients.Table).List -/
def clients_Table_List_T (b0 : Nat) (o0 : Option Nat) (R : Value → World → Prop) (w : World) : Prop :=
  Calls Try.prog 32 #[(.map o0)] w fun e w1 => ∃ v2 : Value, e = .returned v2 ∧ Keep [b0] w w1 ∧
  Calls Try.prog 31 #[v2] w1 fun e w3 => ∃ (a4 : Option Addr) (n5 c6 : Nat), e = .returned (.slice a4 n5 c6) ∧ Keep [b0] w1 w3 ∧
  loopD3 clients_Table_List_la1 (dnF Try.prog clients_Table_List_an (code Try.f13) 396 [0, 0, 1, 0, 1, 1]) (kont3 Try.prog clients_Table_List_an (code Try.f13) [1, 1, 0, 1, 0] [] (post3 Try.prog Try.f13 [0] R)) (clients_Table_List_v1 a4 n5 c6 (n5 : Int) b0 none 0 0 0) (clients_Table_List_m1 b0 o0) w3
theorem clients_Table_List_eq (b0 : Nat) (o0 : Option Nat) (R : Value → World → Prop) (w : World) :
    dnF Try.prog clients_Table_List_an (code Try.f13) 400 [] (post3 Try.prog Try.f13 [0] R) ⟨(0, .pointer (some ⟨b0, 0, none⟩), some (0, 0)) :: args0 1 [], fun _ => undef⟩ ⟨[⟨b0, 68, [(.map o0)], false⟩], w, [], [], true⟩ = clients_Table_List_T b0 o0 R w := by kernel_rfl
theorem clients_Table_List_go {b0 : Nat} {o0 : Option Nat} {R : Value → World → Prop} {w : World} (hb : w.heap[b0]? = some (.cells #[(.map o0)] 68)) (h : clients_Table_List_T b0 o0 R w) :
    Calls Try.prog 13 #[(.pointer (some ⟨b0, 0, none⟩))] w fun e w' => ∃ v, e = .returned v ∧ R v w' :=
  calls_one Try.wide_mixed (f := 13) (args := []) Try.func13 rfl rfl (by kernel_rfl) rfl hb (Eq.mpr (clients_Table_List_eq b0 o0 R w) h)
def clients_Table_Copy_la1 : LA := ⟨[0, 0, 1, 0, 1, 1], [3, 11], [], 1, []⟩
def clients_Table_Copy_an : List LA := [clients_Table_Copy_la1]
def clients_Table_Copy_v1 (p_3 : Option Addr) (p_11 : Addr) : List Value := [(.pointer p_3), (.pointer (some p_11))]
def clients_Table_Copy_m1 (bm0 : Nat) (m_m0_0 : Option Nat) : List TB := [⟨bm0, 68, [(.map m_m0_0)], false⟩]
def clients_Table_Copy_L1 (p_3 : Option Addr) (p_11 : Addr) (bm0 : Nat) (m_m0_0 : Option Nat) (K1 : Kh) (R : Value → World → Prop) (w : World) : Prop :=
  nextM Try.prog (.pointer (some p_11)) 0 w (fun w5 => Keep [bm0] w w5 ∧
    ∀ w7, Adv [] [] w5 w7 → w7.heap[bm0]? = some (.cells #[(.map m_m0_0)] 68) →
    R (.pointer p_3) w7)
  (fun v8 v9 w6 => Keep [bm0] w w6 ∧
    ∃ x11 : Int, ∃ x12 : Int, ∃ x13 : Int, ∃ t14 : Bool, ∃ x15 : Int, ∃ x16 : Int, ∃ x17 : Int, ∃ x18 : Int, ∃ (a19 : Option Addr) (n20 c21 : Nat), ∃ (a22 : Option Addr) (n23 c24 : Nat), ∃ w10, (Instr.entry (.pointer (some p_11))).run Try.prog w6 = .ok (.tuple #[(.int .i64 x11), (.agg #[(.int .i64 x12), (.int .i64 x13), (.bool t14), (.int .i64 x15), (.int .i64 x16), (.int .i64 x17), (.int .i64 x18), (.slice a19 n20 c21), (.slice a22 n23 c24)])]) w10 ∧ Keep [bm0] w6 w10 ∧
    ∀ b25, w10.heap.size ≤ b25 →
    ∀ w26, Adv [] [b25] w10 w26 →
    Calls Try.prog 27 #[(.agg #[(.int .i64 x15), (.int .i64 x16), (.int .i64 x17), (.int .i64 x18), (.slice a19 n20 c21), (.slice a22 n23 c24)])] w26 fun e w27 => ∃ x28 : Int, ∃ x29 : Int, ∃ x30 : Int, ∃ x31 : Int, ∃ (a32 : Option Addr) (n33 c34 : Nat), ∃ (a35 : Option Addr) (n36 c37 : Nat), e = .returned (.agg #[(.int .i64 x28), (.int .i64 x29), (.int .i64 x30), (.int .i64 x31), (.slice a32 n33 c34), (.slice a35 n36 c37)]) ∧ Keep [bm0, b25] w26 w27 ∧
    ckPtr p_3 fun q38 =>
    ∀ w39, Adv [b25] [] w27 w39 →
    ldMap w39 q38 fun m40 =>
    effU Try.prog (Instr.mapUpdate 66 (.map m40) (.int .i64 x11) (.agg #[(.int .i64 x12), (.int .i64 x13), (.bool t14), (.int .i64 x28), (.int .i64 x29), (.int .i64 x30), (.int .i64 x31), (.slice a32 n33 c34), (.slice a35 n36 c37)])) w39 fun w41 => Keep [bm0, b25] w39 w41 ∧
    K1 (clients_Table_Copy_v1 p_3 p_11) (clients_Table_Copy_m1 bm0 m_m0_0) w41)
theorem clients_Table_Copy_L1_eq (p_3 : Option Addr) (p_11 : Addr) (bm0 : Nat) (m_m0_0 : Option Nat) (K1 : Kh) (js : Nat → Value) (R : Value → World → Prop) (w : World) :
    headA clients_Table_Copy_la1 ((dnF Try.prog clients_Table_Copy_an (code Try.f22) 396 [0, 0, 1, 0, 1, 1]) (kthen3 (atA clients_Table_Copy_la1 K1) (kont3 Try.prog clients_Table_Copy_an (code Try.f22) [1, 1, 0, 1, 0] [] (post3 Try.prog Try.f22 [0] R)))) (clients_Table_Copy_v1 p_3 p_11) js (clients_Table_Copy_m1 bm0 m_m0_0) w = clients_Table_Copy_L1 p_3 p_11 bm0 m_m0_0 K1 R w := by kernel_rfl
def clients_Table_Copy_K1 (p_3 : Option Addr) (p_11 : Addr) (bm0 : Nat) (m_m0_0 : Option Nat) (I : Nat → World → Prop) (m : Nat) (vals : List Value) (mem : List TB) (w : World) : Prop := ∃ m', m' < m ∧ vals = (clients_Table_Copy_v1 p_3 p_11) ∧ mem = (clients_Table_Copy_m1 bm0 m_m0_0) ∧ I m' w
theorem clients_Table_Copy_leaf1 {p_3 : Option Addr} {p_11 : Addr} {bm0 : Nat} {m_m0_0 : Option Nat} {I : Nat → World → Prop} {m : Nat} {w : World} (m' : Nat) (h1 : m' < m) (h2 : I m' w) : clients_Table_Copy_K1 p_3 p_11 bm0 m_m0_0 I m (clients_Table_Copy_v1 p_3 p_11) (clients_Table_Copy_m1 bm0 m_m0_0) w := ⟨m', h1, rfl, rfl, h2⟩
theorem clients_Table_Copy_rule1 {p_3 : Option Addr} {p_11 : Addr} {bm0 : Nat} {m_m0_0 : Option Nat} {R : Value → World → Prop} {w0 : World} (I : Nat → World → Prop) (m0 : Nat) (h0 : I m0 w0)
    (hr : ∀ (m : Nat) (w : World), I m w → clients_Table_Copy_L1 p_3 p_11 bm0 m_m0_0 (clients_Table_Copy_K1 p_3 p_11 bm0 m_m0_0 I m) R w) :
    loopD3 clients_Table_Copy_la1 (dnF Try.prog clients_Table_Copy_an (code Try.f22) 396 [0, 0, 1, 0, 1, 1]) (kont3 Try.prog clients_Table_Copy_an (code Try.f22) [1, 1, 0, 1, 0] [] (post3 Try.prog Try.f22 [0] R)) (clients_Table_Copy_v1 p_3 p_11) (clients_Table_Copy_m1 bm0 m_m0_0) w0 := by
  refine ⟨fun m vals mem w => vals = (clients_Table_Copy_v1 p_3 p_11) ∧ mem = (clients_Table_Copy_m1 bm0 m_m0_0) ∧ I m w, m0, ⟨rfl, rfl, h0⟩, ?_⟩
  rintro m vals mem w ⟨rfl, rfl, hI⟩
  refine ⟨rfl, rfl, fun js => ?_⟩
  have h := hr m w hI
  rw [← clients_Table_Copy_L1_eq _ _ _ _ _ js] at h
  exact h
/-- (*stagecoach/clients.Table).Copy -/
def clients_Table_Copy_T (b0 : Nat) (o0 : Option Nat) (R : Value → World → Prop) (w : World) : Prop :=
  Calls Try.prog 15 #[] w fun e w1 => ∃ p2 : Option Addr, e = .returned (.pointer p2) ∧ Keep [b0] w w1 ∧
  effPtr Try.prog (Instr.range 66 (.map o0)) w1 fun q3 w4 => Keep [b0] w1 w4 ∧
  loopD3 clients_Table_Copy_la1 (dnF Try.prog clients_Table_Copy_an (code Try.f22) 396 [0, 0, 1, 0, 1, 1]) (kont3 Try.prog clients_Table_Copy_an (code Try.f22) [1, 1, 0, 1, 0] [] (post3 Try.prog Try.f22 [0] R)) (clients_Table_Copy_v1 p2 q3) (clients_Table_Copy_m1 b0 o0) w4
theorem clients_Table_Copy_eq (b0 : Nat) (o0 : Option Nat) (R : Value → World → Prop) (w : World) :
    dnF Try.prog clients_Table_Copy_an (code Try.f22) 400 [] (post3 Try.prog Try.f22 [0] R) ⟨(0, .pointer (some ⟨b0, 0, none⟩), some (0, 0)) :: args0 1 [], fun _ => undef⟩ ⟨[⟨b0, 68, [(.map o0)], false⟩], w, [], [], true⟩ = clients_Table_Copy_T b0 o0 R w := by kernel_rfl
theorem clients_Table_Copy_go {b0 : Nat} {o0 : Option Nat} {R : Value → World → Prop} {w : World} (hb : w.heap[b0]? = some (.cells #[(.map o0)] 68)) (h : clients_Table_Copy_T b0 o0 R w) :
    Calls Try.prog 22 #[(.pointer (some ⟨b0, 0, none⟩))] w fun e w' => ∃ v, e = .returned v ∧ R v w' :=
  calls_one Try.wide_mixed (f := 22) (args := []) Try.func22 rfl rfl (by kernel_rfl) rfl hb (Eq.mpr (clients_Table_Copy_eq b0 o0 R w) h)
def clients_Load_la1 : LA := ⟨[0, 0, 1, 0, 1, 1, 1], [0, 4, 14, 15, 16], [], 0, []⟩
def clients_Load_an : List LA := [clients_Load_la1]
def clients_Load_v1 (a_0 : Option Addr) (n_0 : Nat) (c_0 : Nat) (p_4 : Option Addr) (a_14 : Option Addr) (n_14 : Nat) (c_14 : Nat) (x_15 : Int) (x_16 : Int) : List Value := [(.slice a_0 n_0 c_0), (.pointer p_4), (.slice a_14 n_14 c_14), (.int .i64 x_15), (.int .i64 x_16)]
def clients_Load_m1 : List TB := []
def clients_Load_L1 (a_0 : Option Addr) (n_0 : Nat) (c_0 : Nat) (p_4 : Option Addr) (a_14 : Option Addr) (n_14 : Nat) (c_14 : Nat) (x_15 : Int) (x_16 : Int) (K1 : Kh) (R : Value → World → Prop) (w : World) : Prop :=
  brB (decide (x_16 < x_15)) (
    ixA a_14 n_14 x_16 9 fun q3 =>
    ldInt .i64 w q3 fun x4 => ldInt .i64 w (Addr.add q3 1) fun x5 => ldBool w (Addr.add q3 2) fun t6 => ldInt .i64 w (Addr.add q3 3) fun x7 => ldInt .i64 w (Addr.add q3 4) fun x8 => ldInt .i64 w (Addr.add q3 5) fun x9 => ldInt .i64 w (Addr.add q3 6) fun x10 => ldSlice w (Addr.add q3 7) fun a11 n12 c13 => ldSlice w (Addr.add q3 8) fun a14 n15 c16 =>
    ∀ b17, w.heap.size ≤ b17 →
    ∀ w18, Adv [] [b17] w w18 →
    Calls Try.prog 24 #[(.agg #[(.int .i64 x7), (.int .i64 x8), (.int .i64 x9), (.int .i64 x10), (.slice a11 n12 c13), (.slice a14 n15 c16)])] w18 fun e w19 => ∃ s20 : ByteArray, ∃ x21 : Int, e = .returned (.tuple #[(.string s20), (.int .i64 x21)]) ∧ Keep [b17] w18 w19 ∧
    brB (!t6) (
      Calls Try.prog 25 #[(.agg #[(.int .i64 x7), (.int .i64 x8), (.int .i64 x9), (.int .i64 x10), (.slice a11 n12 c13), (.slice a14 n15 c16)]), (.agg #[(.int .i64 0), (.int .i64 0), (.int .i64 0), (.int .i64 0), (.slice none 0 0), (.slice none 0 0)])] w19 fun e w22 => ∃ t23 : Bool, e = .returned (.bool t23) ∧ Keep [b17] w19 w22 ∧
      ∀ w24, Adv [] [] w22 w24 →
      Calls Try.prog 26 #[(.int .i64 x4)] w24 fun e w25 => ∃ t26 : Bool, e = .returned (.bool t26) ∧ Keep [b17] w24 w25 ∧
      brB (!t26) (
        R (.tuple #[(.pointer none), (.int .i64 1)]) w25)
      (
        Calls Try.prog 26 #[(.int .i64 x5)] w25 fun e w27 => ∃ t28 : Bool, e = .returned (.bool t28) ∧ Keep [b17] w25 w27 ∧
        brB (!t28) (
          R (.tuple #[(.pointer none), (.int .i64 1)]) w27)
        (
          brB (decide (x_16 > 0)) (
            ixA a_0 n_0 (IntKind.wrap .i64 (x_16 - 1)) 9 fun q29 =>
            ldInt .i64 w27 q29 fun x30 =>
            brB (decide (x4 ≤ x30)) (
              R (.tuple #[(.pointer none), (.int .i64 1)]) w27)
            (
              brB (x21 != 0) (
                R (.tuple #[(.pointer none), (.int .i64 1)]) w27)
              (
                brB (!t23) (
                  R (.tuple #[(.pointer none), (.int .i64 1)]) w27)
                (
                  Calls Try.prog 27 #[(.agg #[(.int .i64 x7), (.int .i64 x8), (.int .i64 x9), (.int .i64 x10), (.slice a11 n12 c13), (.slice a14 n15 c16)])] w27 fun e w31 => ∃ x32 : Int, ∃ x33 : Int, ∃ x34 : Int, ∃ x35 : Int, ∃ (a36 : Option Addr) (n37 c38 : Nat), ∃ (a39 : Option Addr) (n40 c41 : Nat), e = .returned (.agg #[(.int .i64 x32), (.int .i64 x33), (.int .i64 x34), (.int .i64 x35), (.slice a36 n37 c38), (.slice a39 n40 c41)]) ∧ Keep [b17] w27 w31 ∧
                  ckPtr p_4 fun q42 =>
                  ∀ w43, Adv [b17] [] w31 w43 →
                  ldMap w43 q42 fun m44 =>
                  effU Try.prog (Instr.mapUpdate 66 (.map m44) (.int .i64 x4) (.agg #[(.int .i64 x4), (.int .i64 x5), (.bool t6), (.int .i64 x32), (.int .i64 x33), (.int .i64 x34), (.int .i64 x35), (.slice a36 n37 c38), (.slice a39 n40 c41)])) w43 fun w45 => Keep [b17] w43 w45 ∧
                  K1 (clients_Load_v1 a_0 n_0 c_0 p_4 a_14 n_14 c_14 x_15 (IntKind.wrap .i64 (x_16 + 1))) (clients_Load_m1) w45))))
          (
            brB (x21 != 0) (
              R (.tuple #[(.pointer none), (.int .i64 1)]) w27)
            (
              brB (!t23) (
                R (.tuple #[(.pointer none), (.int .i64 1)]) w27)
              (
                Calls Try.prog 27 #[(.agg #[(.int .i64 x7), (.int .i64 x8), (.int .i64 x9), (.int .i64 x10), (.slice a11 n12 c13), (.slice a14 n15 c16)])] w27 fun e w46 => ∃ x47 : Int, ∃ x48 : Int, ∃ x49 : Int, ∃ x50 : Int, ∃ (a51 : Option Addr) (n52 c53 : Nat), ∃ (a54 : Option Addr) (n55 c56 : Nat), e = .returned (.agg #[(.int .i64 x47), (.int .i64 x48), (.int .i64 x49), (.int .i64 x50), (.slice a51 n52 c53), (.slice a54 n55 c56)]) ∧ Keep [b17] w27 w46 ∧
                ckPtr p_4 fun q57 =>
                ∀ w58, Adv [b17] [] w46 w58 →
                ldMap w58 q57 fun m59 =>
                effU Try.prog (Instr.mapUpdate 66 (.map m59) (.int .i64 x4) (.agg #[(.int .i64 x4), (.int .i64 x5), (.bool t6), (.int .i64 x47), (.int .i64 x48), (.int .i64 x49), (.int .i64 x50), (.slice a51 n52 c53), (.slice a54 n55 c56)])) w58 fun w60 => Keep [b17] w58 w60 ∧
                K1 (clients_Load_v1 a_0 n_0 c_0 p_4 a_14 n_14 c_14 x_15 (IntKind.wrap .i64 (x_16 + 1))) (clients_Load_m1) w60))))))
    (
      ∀ w61, Adv [] [] w19 w61 →
      Calls Try.prog 26 #[(.int .i64 x4)] w61 fun e w62 => ∃ t63 : Bool, e = .returned (.bool t63) ∧ Keep [b17] w61 w62 ∧
      brB (!t63) (
        R (.tuple #[(.pointer none), (.int .i64 1)]) w62)
      (
        Calls Try.prog 26 #[(.int .i64 x5)] w62 fun e w64 => ∃ t65 : Bool, e = .returned (.bool t65) ∧ Keep [b17] w62 w64 ∧
        brB (!t65) (
          R (.tuple #[(.pointer none), (.int .i64 1)]) w64)
        (
          brB (decide (x_16 > 0)) (
            ixA a_0 n_0 (IntKind.wrap .i64 (x_16 - 1)) 9 fun q66 =>
            ldInt .i64 w64 q66 fun x67 =>
            brB (decide (x4 ≤ x67)) (
              R (.tuple #[(.pointer none), (.int .i64 1)]) w64)
            (
              brB (x21 != 0) (
                R (.tuple #[(.pointer none), (.int .i64 1)]) w64)
              (
                Calls Try.prog 27 #[(.agg #[(.int .i64 x7), (.int .i64 x8), (.int .i64 x9), (.int .i64 x10), (.slice a11 n12 c13), (.slice a14 n15 c16)])] w64 fun e w68 => ∃ x69 : Int, ∃ x70 : Int, ∃ x71 : Int, ∃ x72 : Int, ∃ (a73 : Option Addr) (n74 c75 : Nat), ∃ (a76 : Option Addr) (n77 c78 : Nat), e = .returned (.agg #[(.int .i64 x69), (.int .i64 x70), (.int .i64 x71), (.int .i64 x72), (.slice a73 n74 c75), (.slice a76 n77 c78)]) ∧ Keep [b17] w64 w68 ∧
                ckPtr p_4 fun q79 =>
                ∀ w80, Adv [b17] [] w68 w80 →
                ldMap w80 q79 fun m81 =>
                effU Try.prog (Instr.mapUpdate 66 (.map m81) (.int .i64 x4) (.agg #[(.int .i64 x4), (.int .i64 x5), (.bool t6), (.int .i64 x69), (.int .i64 x70), (.int .i64 x71), (.int .i64 x72), (.slice a73 n74 c75), (.slice a76 n77 c78)])) w80 fun w82 => Keep [b17] w80 w82 ∧
                K1 (clients_Load_v1 a_0 n_0 c_0 p_4 a_14 n_14 c_14 x_15 (IntKind.wrap .i64 (x_16 + 1))) (clients_Load_m1) w82)))
          (
            brB (x21 != 0) (
              R (.tuple #[(.pointer none), (.int .i64 1)]) w64)
            (
              Calls Try.prog 27 #[(.agg #[(.int .i64 x7), (.int .i64 x8), (.int .i64 x9), (.int .i64 x10), (.slice a11 n12 c13), (.slice a14 n15 c16)])] w64 fun e w83 => ∃ x84 : Int, ∃ x85 : Int, ∃ x86 : Int, ∃ x87 : Int, ∃ (a88 : Option Addr) (n89 c90 : Nat), ∃ (a91 : Option Addr) (n92 c93 : Nat), e = .returned (.agg #[(.int .i64 x84), (.int .i64 x85), (.int .i64 x86), (.int .i64 x87), (.slice a88 n89 c90), (.slice a91 n92 c93)]) ∧ Keep [b17] w64 w83 ∧
              ckPtr p_4 fun q94 =>
              ∀ w95, Adv [b17] [] w83 w95 →
              ldMap w95 q94 fun m96 =>
              effU Try.prog (Instr.mapUpdate 66 (.map m96) (.int .i64 x4) (.agg #[(.int .i64 x4), (.int .i64 x5), (.bool t6), (.int .i64 x84), (.int .i64 x85), (.int .i64 x86), (.int .i64 x87), (.slice a88 n89 c90), (.slice a91 n92 c93)])) w95 fun w97 => Keep [b17] w95 w97 ∧
              K1 (clients_Load_v1 a_0 n_0 c_0 p_4 a_14 n_14 c_14 x_15 (IntKind.wrap .i64 (x_16 + 1))) (clients_Load_m1) w97))))))
  (
    R (.tuple #[(.pointer p_4), (.int .i64 0)]) w)
theorem clients_Load_L1_eq (a_0 : Option Addr) (n_0 : Nat) (c_0 : Nat) (p_4 : Option Addr) (a_14 : Option Addr) (n_14 : Nat) (c_14 : Nat) (x_15 : Int) (x_16 : Int) (K1 : Kh) (js : Nat → Value) (R : Value → World → Prop) (w : World) :
    headA clients_Load_la1 ((dnF Try.prog clients_Load_an (code Try.f10) 395 [0, 0, 1, 0, 1, 1, 1]) (kthen3 (atA clients_Load_la1 K1) (kont3 Try.prog clients_Load_an (code Try.f10) [1, 1, 1, 0, 1, 0] [] (post3 Try.prog Try.f10 [] R)))) (clients_Load_v1 a_0 n_0 c_0 p_4 a_14 n_14 c_14 x_15 x_16) js (clients_Load_m1) w = clients_Load_L1 a_0 n_0 c_0 p_4 a_14 n_14 c_14 x_15 x_16 K1 R w := by kernel_rfl
def clients_Load_K1 (a_0 : Option Addr) (n_0 : Nat) (c_0 : Nat) (p_4 : Option Addr) (a_14 : Option Addr) (n_14 : Nat) (c_14 : Nat) (x_15 : Int) (I : Nat → Int → World → Prop) (m : Nat) (vals : List Value) (mem : List TB) (w : World) : Prop := ∃ m', m' < m ∧ ∃ x_16, vals = (clients_Load_v1 a_0 n_0 c_0 p_4 a_14 n_14 c_14 x_15 x_16) ∧ mem = (clients_Load_m1) ∧ I m' x_16 w
theorem clients_Load_leaf1 {a_0 : Option Addr} {n_0 : Nat} {c_0 : Nat} {p_4 : Option Addr} {a_14 : Option Addr} {n_14 : Nat} {c_14 : Nat} {x_15 : Int} {I : Nat → Int → World → Prop} {m : Nat} {x_16 : Int} {w : World} (m' : Nat) (h1 : m' < m) (h2 : I m' x_16 w) : clients_Load_K1 a_0 n_0 c_0 p_4 a_14 n_14 c_14 x_15 I m (clients_Load_v1 a_0 n_0 c_0 p_4 a_14 n_14 c_14 x_15 x_16) (clients_Load_m1) w := ⟨m', h1, _, rfl, rfl, h2⟩
theorem clients_Load_rule1 {a_0 : Option Addr} {n_0 : Nat} {c_0 : Nat} {p_4 : Option Addr} {a_14 : Option Addr} {n_14 : Nat} {c_14 : Nat} {x_15 : Int} {x_160 : Int} {R : Value → World → Prop} {w0 : World} (I : Nat → Int → World → Prop) (m0 : Nat) (h0 : I m0 x_160 w0)
    (hr : ∀ (m : Nat) (x_16 : Int) (w : World), I m x_16 w → clients_Load_L1 a_0 n_0 c_0 p_4 a_14 n_14 c_14 x_15 x_16 (clients_Load_K1 a_0 n_0 c_0 p_4 a_14 n_14 c_14 x_15 I m) R w) :
    loopD3 clients_Load_la1 (dnF Try.prog clients_Load_an (code Try.f10) 395 [0, 0, 1, 0, 1, 1, 1]) (kont3 Try.prog clients_Load_an (code Try.f10) [1, 1, 1, 0, 1, 0] [] (post3 Try.prog Try.f10 [] R)) (clients_Load_v1 a_0 n_0 c_0 p_4 a_14 n_14 c_14 x_15 x_160) (clients_Load_m1) w0 := by
  refine ⟨fun m vals mem w => ∃ x_16, vals = (clients_Load_v1 a_0 n_0 c_0 p_4 a_14 n_14 c_14 x_15 x_16) ∧ mem = (clients_Load_m1) ∧ I m x_16 w, m0, ⟨_, rfl, rfl, h0⟩, ?_⟩
  rintro m vals mem w ⟨x_16, rfl, rfl, hI⟩
  refine ⟨rfl, rfl, fun js => ?_⟩
  have h := hr m x_16 w hI
  rw [← clients_Load_L1_eq _ _ _ _ _ _ _ _ _ _ js] at h
  exact h
/-- stagecoach/clients.Load -/
def clients_Load_T (a0_l_a : Option Addr) (a0_l_n : Nat) (a0_l_c : Nat) (R : Value → World → Prop) (w : World) : Prop :=
  brB (decide ((a0_l_n : Int) > 16)) (
    R (.tuple #[(.pointer none), (.int .i64 2)]) w)
  (
    Calls Try.prog 15 #[] w fun e w1 => ∃ p2 : Option Addr, e = .returned (.pointer p2) ∧
    loopD3 clients_Load_la1 (dnF Try.prog clients_Load_an (code Try.f10) 395 [0, 0, 1, 0, 1, 1, 1]) (kont3 Try.prog clients_Load_an (code Try.f10) [1, 1, 1, 0, 1, 0] [] (post3 Try.prog Try.f10 [] R)) (clients_Load_v1 a0_l_a a0_l_n a0_l_c p2 a0_l_a a0_l_n a0_l_c (a0_l_n : Int) 0) (clients_Load_m1) w1)
theorem clients_Load_eq (a0_l_a : Option Addr) (a0_l_n : Nat) (a0_l_c : Nat) (R : Value → World → Prop) (w : World) :
    dnF Try.prog clients_Load_an (code Try.f10) 400 [] (post3 Try.prog Try.f10 [] R) ⟨args0 0 [(.slice a0_l_a a0_l_n a0_l_c)], fun _ => undef⟩ ⟨[], w, [], [], true⟩ = clients_Load_T a0_l_a a0_l_n a0_l_c R w := by kernel_rfl
theorem clients_Load_go {a0_l_a : Option Addr} {a0_l_n : Nat} {a0_l_c : Nat} {R : Value → World → Prop} {w : World} (h : clients_Load_T a0_l_a a0_l_n a0_l_c R w) :
    Calls Try.prog 10 #[(.slice a0_l_a a0_l_n a0_l_c)] w fun e w' => ∃ v, e = .returned v ∧ R v w' :=
  calls_none Try.wide_mixed (f := 10) (args := [(.slice a0_l_a a0_l_n a0_l_c)]) Try.func10 rfl rfl (by kernel_rfl) rfl (Eq.mpr (clients_Load_eq a0_l_a a0_l_n a0_l_c R w) h)

end Go.Proofs.Ytdgiemnadpkcfaa
