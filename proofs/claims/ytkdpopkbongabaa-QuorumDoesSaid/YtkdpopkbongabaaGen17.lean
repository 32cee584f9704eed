/- The conditions of Go functions' bodies, printed by gen.py. -/
import Derived.Test.YtkdpopkbongabaaBase
namespace Go.Proofs.Ytkdpopkbongabaa
open Go Go.RowKit
set_option linter.unusedVariables false
set_option maxRecDepth 100000

/-- stagecoach/quorum.may -/
def quorum_may_T (a0_replicas : Int) (R : Value → World → Prop) (w : World) : Prop :=
  brB (decide (a0_replicas ≥ 1)) (R (.bool (decide (a0_replicas ≤ 7))) w)
  (R (.bool false) w)
theorem quorum_may_eq (a0_replicas : Int) (R : Value → World → Prop) (w : World) :
    den Try.prog (code Try.f29) (post Try.prog Try.f29 R) [(.int .i64 a0_replicas), undef, undef, undef, undef, undef, undef, undef, undef] w = quorum_may_T a0_replicas R w := by kernel_rfl
theorem quorum_may_go {a0_replicas : Int} {R : Value → World → Prop} {w : World} (h : quorum_may_T a0_replicas R w) :
    Calls Try.prog 29 #[(.int .i64 a0_replicas)] w fun e w' => ∃ v, e = .returned v ∧ R v w' :=
  calls_den Try.wide_mixed (f := 29) (args := [(.int .i64 a0_replicas)]) Try.func29 rfl rfl (Eq.mpr (quorum_may_eq a0_replicas R w) h)
/-- stagecoach/quorum.number -/
def quorum_number_T (a0_n : Int) (R : Value → World → Prop) (w : World) : Prop :=
  brB (decide (a0_n ≥ 0)) (R (.bool (decide (a0_n ≤ 1099511627776))) w)
  (R (.bool false) w)
theorem quorum_number_eq (a0_n : Int) (R : Value → World → Prop) (w : World) :
    den Try.prog (code Try.f30) (post Try.prog Try.f30 R) [(.int .i64 a0_n), undef, undef, undef, undef, undef, undef, undef, undef] w = quorum_number_T a0_n R w := by kernel_rfl
theorem quorum_number_go {a0_n : Int} {R : Value → World → Prop} {w : World} (h : quorum_number_T a0_n R w) :
    Calls Try.prog 30 #[(.int .i64 a0_n)] w fun e w' => ∃ v, e = .returned v ∧ R v w' :=
  calls_den Try.wide_mixed (f := 30) (args := [(.int .i64 a0_n)]) Try.func30 rfl rfl (Eq.mpr (quorum_number_eq a0_n R w) h)
/-- stagecoach/quorum.Need -/
def quorum_Need_T (a0_replicas : Int) (R : Value → World → Prop) (w : World) : Prop :=
  Calls Try.prog 29 #[(.int .i64 a0_replicas)] w fun e w1 => ∃ t2 : Bool, e = .returned (.bool t2) ∧
  brB (!t2) (R (.int .i64 0) w1)
  (nz 2 (R (.int .i64 (IntKind.wrap .i64 ((IntKind.wrap .i64 (Int.tdiv a0_replicas 2)) + 1))) w1))
theorem quorum_Need_eq (a0_replicas : Int) (R : Value → World → Prop) (w : World) :
    den Try.prog (code Try.f12) (post Try.prog Try.f12 R) [(.int .i64 a0_replicas), undef, undef, undef, undef, undef, undef, undef, undef] w = quorum_Need_T a0_replicas R w := by kernel_rfl
theorem quorum_Need_go {a0_replicas : Int} {R : Value → World → Prop} {w : World} (h : quorum_Need_T a0_replicas R w) :
    Calls Try.prog 12 #[(.int .i64 a0_replicas)] w fun e w' => ∃ v, e = .returned v ∧ R v w' :=
  calls_den Try.wide_mixed (f := 12) (args := [(.int .i64 a0_replicas)]) Try.func12 rfl rfl (Eq.mpr (quorum_Need_eq a0_replicas R w) h)
/-- stagecoach/quorum.Primary -/
def quorum_Primary_T (a0_view : Int) (a1_replicas : Int) (R : Value → World → Prop) (w : World) : Prop :=
  Calls Try.prog 29 #[(.int .i64 a1_replicas)] w fun e w1 => ∃ t2 : Bool, e = .returned (.bool t2) ∧
  brB (!t2) (R (.int .i64 (-1)) w1)
  (
    brB (decide (a0_view < 0)) (R (.int .i64 (-1)) w1)
    (nz a1_replicas (R (.int .i64 (Int.tmod a0_view a1_replicas)) w1)))
theorem quorum_Primary_eq (a0_view : Int) (a1_replicas : Int) (R : Value → World → Prop) (w : World) :
    den Try.prog (code Try.f15) (post Try.prog Try.f15 R) [(.int .i64 a0_view), (.int .i64 a1_replicas), undef, undef, undef, undef, undef, undef, undef, undef, undef, undef, undef, undef, undef] w = quorum_Primary_T a0_view a1_replicas R w := by kernel_rfl
theorem quorum_Primary_go {a0_view : Int} {a1_replicas : Int} {R : Value → World → Prop} {w : World} (h : quorum_Primary_T a0_view a1_replicas R w) :
    Calls Try.prog 15 #[(.int .i64 a0_view), (.int .i64 a1_replicas)] w fun e w' => ∃ v, e = .returned v ∧ R v w' :=
  calls_den Try.wide_mixed (f := 15) (args := [(.int .i64 a0_view), (.int .i64 a1_replicas)]) Try.func15 rfl rfl (Eq.mpr (quorum_Primary_eq a0_view a1_replicas R w) h)
/-- stagecoach/quorum.New -/
def quorum_New_T (a0_replicas : Int) (R : Value → World → Prop) (w : World) : Prop :=
  Calls Try.prog 29 #[(.int .i64 a0_replicas)] w fun e w1 => ∃ t2 : Bool, e = .returned (.bool t2) ∧
  brB (!t2) (R (.tuple #[(.pointer none), (.int .i64 1)]) w1)
  (
    al w1 (.map #[] 0) fun b3 w4 =>
    al w4 (.cells #[(.int .i64 a0_replicas), (.map (some b3))] 54) fun b5 w6 => R (.tuple #[(.pointer (some ⟨b5, 0, none⟩)), (.int .i64 0)]) w6)
theorem quorum_New_eq (a0_replicas : Int) (R : Value → World → Prop) (w : World) :
    den Try.prog (code Try.f8) (post Try.prog Try.f8 R) [(.int .i64 a0_replicas), undef, undef, undef, undef, undef, undef, undef, undef, undef, undef] w = quorum_New_T a0_replicas R w := by kernel_rfl
theorem quorum_New_go {a0_replicas : Int} {R : Value → World → Prop} {w : World} (h : quorum_New_T a0_replicas R w) :
    Calls Try.prog 8 #[(.int .i64 a0_replicas)] w fun e w' => ∃ v, e = .returned v ∧ R v w' :=
  calls_den Try.wide_mixed (f := 8) (args := [(.int .i64 a0_replicas)]) Try.func8 rfl rfl (Eq.mpr (quorum_New_eq a0_replicas R w) h)
/-- (*stagecoach/quorum.Box).Vote -/
def quorum_Box_Vote_T (a0_b : Addr) (a1_view : Int) (a2_kind : Int) (a3_v_0 : Int) (a3_v_1 : Int) (a3_v_2 : Int) (a3_v_3 : Int) (R : Value → World → Prop) (w : World) : Prop :=
  al w (.cells #[(.int .i64 a3_v_0), (.int .i64 a3_v_1), (.int .i64 a3_v_2), (.int .i64 a3_v_3)] 29) fun b1 w2 =>
  ∀ w3, Mod [] w2 w3 →
  brB (decide (a1_view < 0)) (R (.int .i64 1) w3)
  (
    brB (decide (a2_kind < 0)) (R (.int .i64 1) w3)
    (
      ldInt .i64 w3 ⟨b1, 0, none⟩ fun x4 =>
      brB (decide (x4 < 0)) (R (.int .i64 1) w3)
      (
        ldInt .i64 w3 ⟨b1, 0, none⟩ fun x5 =>
        ldInt .i64 w3 a0_b fun x6 =>
        brB (decide (x5 ≥ x6)) (R (.int .i64 1) w3)
        (
          ldInt .i64 w3 ⟨b1, 1, none⟩ fun x7 =>
          Calls Try.prog 30 #[(.int .i64 x7)] w3 fun e w8 => ∃ t9 : Bool, e = .returned (.bool t9) ∧
          brB (!t9) (R (.int .i64 1) w8)
          (
            ldInt .i64 w8 ⟨b1, 2, none⟩ fun x10 =>
            Calls Try.prog 30 #[(.int .i64 x10)] w8 fun e w11 => ∃ t12 : Bool, e = .returned (.bool t12) ∧
            brB (!t12) (R (.int .i64 1) w11)
            (
              ldInt .i64 w11 ⟨b1, 3, none⟩ fun x13 =>
              Calls Try.prog 30 #[(.int .i64 x13)] w11 fun e w14 => ∃ t15 : Bool, e = .returned (.bool t15) ∧
              brB (!t15) (R (.int .i64 1) w14)
              (
                ldInt .i64 w14 ⟨b1, 0, none⟩ fun x16 =>
                al w14 (.cells #[(.int .i64 0), (.int .i64 0), (.int .i64 0)] 56) fun b17 w18 =>
                st w18 ⟨b17, 0, none⟩ [(.int .i64 a1_view), (.int .i64 a2_kind), (.int .i64 x16)] fun w19 =>
                ∀ w20, Mod [] w19 w20 →
                ldMap w20 (Addr.add a0_b 1) fun m21 =>
                ldInt .i64 w20 ⟨b17, 0, none⟩ fun x22 => ldInt .i64 w20 ⟨b17, 1, none⟩ fun x23 => ldInt .i64 w20 ⟨b17, 2, none⟩ fun x24 =>
                ∃ x25 : Int, ∃ x26 : Int, ∃ x27 : Int, ∃ x28 : Int, ∃ t29 : Bool, (∀ w', Mod [] w20 w' → (Instr.lookup 52 (.map m21) (.agg #[(.int .i64 x22), (.int .i64 x23), (.int .i64 x24)]) true).run Try.prog w' = .ok (.tuple #[(.agg #[(.int .i64 x25), (.int .i64 x26), (.int .i64 x27), (.int .i64 x28)]), (.bool t29)]) w') ∧
                al w20 (.cells #[(.int .i64 0), (.int .i64 0), (.int .i64 0), (.int .i64 0)] 29) fun b30 w31 =>
                st w31 ⟨b30, 0, none⟩ [(.int .i64 x25), (.int .i64 x26), (.int .i64 x27), (.int .i64 x28)] fun w32 =>
                brB t29 (
                  ldInt .i64 w32 ⟨b30, 0, none⟩ fun x33 => ldInt .i64 w32 ⟨b30, 1, none⟩ fun x34 => ldInt .i64 w32 ⟨b30, 2, none⟩ fun x35 => ldInt .i64 w32 ⟨b30, 3, none⟩ fun x36 =>
                  ldInt .i64 w32 ⟨b1, 0, none⟩ fun x37 => ldInt .i64 w32 ⟨b1, 1, none⟩ fun x38 => ldInt .i64 w32 ⟨b1, 2, none⟩ fun x39 => ldInt .i64 w32 ⟨b1, 3, none⟩ fun x40 =>
                  ∃ t41 : Bool, (∀ w', Mod [] w32 w' → Sem.run Try.prog (do eqGuard .neq 29 (.tmp 66) (.tmp 67) (.agg #[(.int .i64 x33), (.int .i64 x34), (.int .i64 x35), (.int .i64 x36)]) (.agg #[(.int .i64 x37), (.int .i64 x38), (.int .i64 x39), (.int .i64 x40)]); Go.binOp .neq 29 (.agg #[(.int .i64 x33), (.int .i64 x34), (.int .i64 x35), (.int .i64 x36)]) (.agg #[(.int .i64 x37), (.int .i64 x38), (.int .i64 x39), (.int .i64 x40)])) w' = .ok (.bool t41) w') ∧
                  brB t41 (R (.int .i64 170) w32)
                  (
                    ∀ w42, Mod [] w32 w42 →
                    ldMap w42 (Addr.add a0_b 1) fun m43 =>
                    ldInt .i64 w42 ⟨b17, 0, none⟩ fun x44 => ldInt .i64 w42 ⟨b17, 1, none⟩ fun x45 => ldInt .i64 w42 ⟨b17, 2, none⟩ fun x46 =>
                    ldInt .i64 w42 ⟨b1, 0, none⟩ fun x47 => ldInt .i64 w42 ⟨b1, 1, none⟩ fun x48 => ldInt .i64 w42 ⟨b1, 2, none⟩ fun x49 => ldInt .i64 w42 ⟨b1, 3, none⟩ fun x50 =>
                    effU Try.prog (Instr.mapUpdate 52 (.map m43) (.agg #[(.int .i64 x44), (.int .i64 x45), (.int .i64 x46)]) (.agg #[(.int .i64 x47), (.int .i64 x48), (.int .i64 x49), (.int .i64 x50)])) w42 fun w51 => R (.int .i64 0) w51))
                (
                  ∀ w52, Mod [] w32 w52 →
                  ldMap w52 (Addr.add a0_b 1) fun m53 =>
                  ldInt .i64 w52 ⟨b17, 0, none⟩ fun x54 => ldInt .i64 w52 ⟨b17, 1, none⟩ fun x55 => ldInt .i64 w52 ⟨b17, 2, none⟩ fun x56 =>
                  ldInt .i64 w52 ⟨b1, 0, none⟩ fun x57 => ldInt .i64 w52 ⟨b1, 1, none⟩ fun x58 => ldInt .i64 w52 ⟨b1, 2, none⟩ fun x59 => ldInt .i64 w52 ⟨b1, 3, none⟩ fun x60 =>
                  effU Try.prog (Instr.mapUpdate 52 (.map m53) (.agg #[(.int .i64 x54), (.int .i64 x55), (.int .i64 x56)]) (.agg #[(.int .i64 x57), (.int .i64 x58), (.int .i64 x59), (.int .i64 x60)])) w52 fun w61 => R (.int .i64 0) w61))))))))
theorem quorum_Box_Vote_eq (a0_b : Addr) (a1_view : Int) (a2_kind : Int) (a3_v_0 : Int) (a3_v_1 : Int) (a3_v_2 : Int) (a3_v_3 : Int) (R : Value → World → Prop) (w : World) :
    den Try.prog (code Try.f9) (post Try.prog Try.f9 R) [(.pointer (some a0_b)), (.int .i64 a1_view), (.int .i64 a2_kind), (.agg #[(.int .i64 a3_v_0), (.int .i64 a3_v_1), (.int .i64 a3_v_2), (.int .i64 a3_v_3)]), undef, undef, undef, undef, undef, undef, undef, undef, undef, undef, undef, undef, undef, undef, undef, undef, undef, undef, undef, undef, undef, undef, undef, undef, undef, undef, undef, undef, undef, undef, undef, undef, undef, undef, undef, undef, undef, undef, undef, undef, undef, undef, undef, undef, undef, undef, undef, undef, undef, undef, undef, undef, undef, undef, undef, undef, undef, undef, undef, undef, undef, undef, undef, undef, undef, undef, undef, undef, undef, undef, undef, undef] w = quorum_Box_Vote_T a0_b a1_view a2_kind a3_v_0 a3_v_1 a3_v_2 a3_v_3 R w := by kernel_rfl
theorem quorum_Box_Vote_go {a0_b : Addr} {a1_view : Int} {a2_kind : Int} {a3_v_0 : Int} {a3_v_1 : Int} {a3_v_2 : Int} {a3_v_3 : Int} {R : Value → World → Prop} {w : World} (h : quorum_Box_Vote_T a0_b a1_view a2_kind a3_v_0 a3_v_1 a3_v_2 a3_v_3 R w) :
    Calls Try.prog 9 #[(.pointer (some a0_b)), (.int .i64 a1_view), (.int .i64 a2_kind), (.agg #[(.int .i64 a3_v_0), (.int .i64 a3_v_1), (.int .i64 a3_v_2), (.int .i64 a3_v_3)])] w fun e w' => ∃ v, e = .returned v ∧ R v w' :=
  calls_den Try.wide_mixed (f := 9) (args := [(.pointer (some a0_b)), (.int .i64 a1_view), (.int .i64 a2_kind), (.agg #[(.int .i64 a3_v_0), (.int .i64 a3_v_1), (.int .i64 a3_v_2), (.int .i64 a3_v_3)])]) Try.func9 rfl rfl (Eq.mpr (quorum_Box_Vote_eq a0_b a1_view a2_kind a3_v_0 a3_v_1 a3_v_2 a3_v_3 R w) h)
def quorum_Box_Votes_fr1 (p_0 : Addr) (x_1 : Int) (x_2 : Int) (x_14 : Int) (a_7 : Option Addr) (n_7 : Nat) (c_7 : Nat) (x_15 : Int) (js1 : Nat → Value) : Fr := [(.pointer (some p_0)), (.int .i64 x_1), (.int .i64 x_2), (js1 3), (js1 4), (js1 5), (js1 6), (.slice a_7 n_7 c_7), (js1 8), (js1 9), (js1 10), (js1 11), (js1 12), (js1 13), (.int .i64 x_14), (.int .i64 x_15), (js1 16), (js1 17), (js1 18), (js1 19), (js1 20), (js1 21), (js1 22), (js1 23), (js1 24), (js1 25), (js1 26), (js1 27), (js1 28), (js1 29), (js1 30), (js1 31), (js1 32), (js1 33), (js1 34), (js1 35), (js1 36)]
def quorum_Box_Votes_L1 (p_0 : Addr) (x_1 : Int) (x_2 : Int) (x_14 : Int) (a_7 : Option Addr) (n_7 : Nat) (c_7 : Nat) (x_15 : Int) (K1 : Fr → World → Prop) (js1 : Nat → Value) (R : Value → World → Prop) (w : World) : Prop :=
  brB (decide (x_15 < x_14)) (
    ldMap w (Addr.add p_0 1) fun m2 =>
    ∃ x3 : Int, ∃ x4 : Int, ∃ x5 : Int, ∃ x6 : Int, ∃ t7 : Bool, (∀ w', Mod [] w w' → (Instr.lookup 52 (.map m2) (.agg #[(.int .i64 x_1), (.int .i64 x_2), (.int .i64 x_15)]) true).run Try.prog w' = .ok (.tuple #[(.agg #[(.int .i64 x3), (.int .i64 x4), (.int .i64 x5), (.int .i64 x6)]), (.bool t7)]) w') ∧
    al w (.cells #[(.int .i64 0), (.int .i64 0), (.int .i64 0), (.int .i64 0)] 29) fun b8 w9 =>
    st w9 ⟨b8, 0, none⟩ [(.int .i64 x3), (.int .i64 x4), (.int .i64 x5), (.int .i64 x6)] fun w10 =>
    brB t7 (
      ldInt .i64 w10 ⟨b8, 0, none⟩ fun x11 => ldInt .i64 w10 ⟨b8, 1, none⟩ fun x12 => ldInt .i64 w10 ⟨b8, 2, none⟩ fun x13 => ldInt .i64 w10 ⟨b8, 3, none⟩ fun x14 =>
      al w10 (.cells #[(.int .i64 x11), (.int .i64 x12), (.int .i64 x13), (.int .i64 x14)] 29) fun b15 w16 =>
      effSl Try.prog (Builtin.append_ #[30, 30] 30 #[(.slice a_7 n_7 c_7), (.slice (some ⟨b15, 0, none⟩) 1 1)]) w16 fun a18 n19 c20 w17 =>
      K1 (quorum_Box_Votes_fr1 p_0 x_1 x_2 x_14 a18 n19 c20 (IntKind.wrap .i64 (x_15 + 1)) (jk [(8, (.int .i64 x_15)), (9, (.pointer (some ⟨b8, 0, none⟩))), (10, (.bool t7)), (16, (.bool (decide (x_15 < x_14)))), (17, (.int .i64 x_15)), (18, (.tuple #[(.agg #[(.int .i64 x3), (.int .i64 x4), (.int .i64 x5), (.int .i64 x6)]), (.bool t7)])), (19, (.pointer (some p_0))), (20, (.pointer (some p_0))), (21, (.pointer (some (Addr.add p_0 1)))), (22, (.map m2)), (23, (.int .i64 x_1)), (24, (.int .i64 x_2)), (25, (.int .i64 x_15)), (26, (.agg #[(.int .i64 x_1), (.int .i64 x_2), (.int .i64 x_15)])), (27, (.tuple #[(.agg #[(.int .i64 x3), (.int .i64 x4), (.int .i64 x5), (.int .i64 x6)]), (.bool t7)])), (28, (.agg #[(.int .i64 x3), (.int .i64 x4), (.int .i64 x5), (.int .i64 x6)])), (29, (.bool t7)), (30, (.bool t7)), (31, (.slice a_7 n_7 c_7)), (32, (.agg #[(.int .i64 x11), (.int .i64 x12), (.int .i64 x13), (.int .i64 x14)])), (33, (.slice (some ⟨b15, 0, none⟩) 1 1)), (34, (.slice a18 n19 c20)), (35, (.int .i64 (IntKind.wrap .i64 (x_15 + 1))))] js1)) w17)
    (
      K1 (quorum_Box_Votes_fr1 p_0 x_1 x_2 x_14 a_7 n_7 c_7 (IntKind.wrap .i64 (x_15 + 1)) (jk [(8, (.int .i64 x_15)), (9, (.pointer (some ⟨b8, 0, none⟩))), (10, (.bool t7)), (16, (.bool (decide (x_15 < x_14)))), (17, (.int .i64 x_15)), (18, (.tuple #[(.agg #[(.int .i64 x3), (.int .i64 x4), (.int .i64 x5), (.int .i64 x6)]), (.bool t7)])), (19, (.pointer (some p_0))), (20, (.pointer (some p_0))), (21, (.pointer (some (Addr.add p_0 1)))), (22, (.map m2)), (23, (.int .i64 x_1)), (24, (.int .i64 x_2)), (25, (.int .i64 x_15)), (26, (.agg #[(.int .i64 x_1), (.int .i64 x_2), (.int .i64 x_15)])), (27, (.tuple #[(.agg #[(.int .i64 x3), (.int .i64 x4), (.int .i64 x5), (.int .i64 x6)]), (.bool t7)])), (28, (.agg #[(.int .i64 x3), (.int .i64 x4), (.int .i64 x5), (.int .i64 x6)])), (29, (.bool t7)), (30, (.bool t7)), (35, (.int .i64 (IntKind.wrap .i64 (x_15 + 1))))] js1)) w10))
  (R (.slice a_7 n_7 c_7) w)
theorem quorum_Box_Votes_L1_eq (p_0 : Addr) (x_1 : Int) (x_2 : Int) (x_14 : Int) (a_7 : Option Addr) (n_7 : Nat) (c_7 : Nat) (x_15 : Int) (K1 : Fr → World → Prop) (js1 : Nat → Value) (R : Value → World → Prop) (w : World) :
    den Try.prog (sub (code Try.f10) [1, 1, 0, 1, 0, 0]) (kthen K1 (kont Try.prog (code Try.f10) [1, 1, 0, 1, 0] [] (post Try.prog Try.f10 R))) (quorum_Box_Votes_fr1 p_0 x_1 x_2 x_14 a_7 n_7 c_7 x_15 js1) w = quorum_Box_Votes_L1 p_0 x_1 x_2 x_14 a_7 n_7 c_7 x_15 K1 js1 R w := by kernel_rfl
def quorum_Box_Votes_K1 (p_0 : Addr) (x_1 : Int) (x_2 : Int) (x_14 : Int) (I : Nat → Option Addr → Nat → Nat → Int → World → Prop) (m : Nat) (fr : Fr) (w : World) : Prop := ∃ m', m' < m ∧ ∃ a_7 n_7 c_7 x_15 js, fr = quorum_Box_Votes_fr1 p_0 x_1 x_2 x_14 a_7 n_7 c_7 x_15 js ∧ I m' a_7 n_7 c_7 x_15 w
theorem quorum_Box_Votes_leaf1 {p_0 : Addr} {x_1 : Int} {x_2 : Int} {x_14 : Int} {I : Nat → Option Addr → Nat → Nat → Int → World → Prop} {m : Nat} {a_7 : Option Addr} {n_7 : Nat} {c_7 : Nat} {x_15 : Int} {js : Nat → Value} {w : World} (m' : Nat) (h1 : m' < m) (h2 : I m' a_7 n_7 c_7 x_15 w) : quorum_Box_Votes_K1 p_0 x_1 x_2 x_14 I m (quorum_Box_Votes_fr1 p_0 x_1 x_2 x_14 a_7 n_7 c_7 x_15 js) w := ⟨m', h1, _, _, _, _, _, rfl, h2⟩
theorem quorum_Box_Votes_rule1 {p_0 : Addr} {x_1 : Int} {x_2 : Int} {x_14 : Int} {a_70 : Option Addr} {n_70 : Nat} {c_70 : Nat} {x_150 : Int} {js0 : Nat → Value} {R : Value → World → Prop} {w0 : World} (I : Nat → Option Addr → Nat → Nat → Int → World → Prop) (m0 : Nat) (h0 : I m0 a_70 n_70 c_70 x_150 w0)
    (hr : ∀ (m : Nat) (a_7 : Option Addr) (n_7 : Nat) (c_7 : Nat) (x_15 : Int) (js : Nat → Value) (w : World), I m a_7 n_7 c_7 x_15 w → quorum_Box_Votes_L1 p_0 x_1 x_2 x_14 a_7 n_7 c_7 x_15 (quorum_Box_Votes_K1 p_0 x_1 x_2 x_14 I m) js R w) :
    loopD (den Try.prog (sub (code Try.f10) [1, 1, 0, 1, 0, 0])) (kont Try.prog (code Try.f10) [1, 1, 0, 1, 0] [] (post Try.prog Try.f10 R)) (quorum_Box_Votes_fr1 p_0 x_1 x_2 x_14 a_70 n_70 c_70 x_150 js0) w0 := by
  refine ⟨fun m fr w => ∃ a_7 n_7 c_7 x_15 js, fr = quorum_Box_Votes_fr1 p_0 x_1 x_2 x_14 a_7 n_7 c_7 x_15 js ∧ I m a_7 n_7 c_7 x_15 w, m0, ⟨_, _, _, _, _, rfl, h0⟩, ?_⟩
  rintro m fr w ⟨a_7, n_7, c_7, x_15, js, rfl, hI⟩
  have h := hr m a_7 n_7 c_7 x_15 js w hI
  rw [← quorum_Box_Votes_L1_eq] at h
  exact h
/-- (*stagecoach/quorum.Box).Votes -/
def quorum_Box_Votes_T (a0_b : Addr) (a1_view : Int) (a2_kind : Int) (R : Value → World → Prop) (w : World) : Prop :=
  ldInt .i64 w a0_b fun x1 =>
  loopD (den Try.prog (sub (code Try.f10) [1, 1, 0, 1, 0, 0])) (kont Try.prog (code Try.f10) [1, 1, 0, 1, 0] [] (post Try.prog Try.f10 R)) (quorum_Box_Votes_fr1 a0_b a1_view a2_kind x1 none 0 0 0 (jk [(6, (.slice none 0 0)), (11, (.pointer (some a0_b))), (12, (.pointer (some a0_b))), (13, (.pointer (some a0_b)))] (fun _ => undef))) w
theorem quorum_Box_Votes_eq (a0_b : Addr) (a1_view : Int) (a2_kind : Int) (R : Value → World → Prop) (w : World) :
    den Try.prog (code Try.f10) (post Try.prog Try.f10 R) [(.pointer (some a0_b)), (.int .i64 a1_view), (.int .i64 a2_kind), undef, undef, undef, undef, undef, undef, undef, undef, undef, undef, undef, undef, undef, undef, undef, undef, undef, undef, undef, undef, undef, undef, undef, undef, undef, undef, undef, undef, undef, undef, undef, undef, undef, undef] w = quorum_Box_Votes_T a0_b a1_view a2_kind R w := by kernel_rfl
theorem quorum_Box_Votes_go {a0_b : Addr} {a1_view : Int} {a2_kind : Int} {R : Value → World → Prop} {w : World} (h : quorum_Box_Votes_T a0_b a1_view a2_kind R w) :
    Calls Try.prog 10 #[(.pointer (some a0_b)), (.int .i64 a1_view), (.int .i64 a2_kind)] w fun e w' => ∃ v, e = .returned v ∧ R v w' :=
  calls_den Try.wide_mixed (f := 10) (args := [(.pointer (some a0_b)), (.int .i64 a1_view), (.int .i64 a2_kind)]) Try.func10 rfl rfl (Eq.mpr (quorum_Box_Votes_eq a0_b a1_view a2_kind R w) h)
/-- (*stagecoach/quorum.Box).Full -/
def quorum_Box_Full_T (a0_b : Addr) (a1_view : Int) (a2_kind : Int) (R : Value → World → Prop) (w : World) : Prop :=
  ∀ w1, Mod [] w w1 →
  ldInt .i64 w1 a0_b fun x2 =>
  Calls Try.prog 10 #[(.pointer (some a0_b)), (.int .i64 a1_view), (.int .i64 a2_kind)] w1 fun e w3 => ∃ (a4 : Option Addr) (n5 c6 : Nat), e = .returned (.slice a4 n5 c6) ∧ (ldInt .i64 w3 a0_b fun x7 => ((.int .i64 x7) : Value) = (.int .i64 x2)) ∧
  Calls Try.prog 12 #[(.int .i64 x2)] w3 fun e w8 => ∃ x9 : Int, e = .returned (.int .i64 x9) ∧ R (.bool (decide ((n5 : Int) ≥ x9))) w8
theorem quorum_Box_Full_eq (a0_b : Addr) (a1_view : Int) (a2_kind : Int) (R : Value → World → Prop) (w : World) :
    den Try.prog (code Try.f11) (post Try.prog Try.f11 R) [(.pointer (some a0_b)), (.int .i64 a1_view), (.int .i64 a2_kind), undef, undef, undef, undef, undef, undef, undef, undef, undef, undef, undef, undef, undef, undef, undef] w = quorum_Box_Full_T a0_b a1_view a2_kind R w := by kernel_rfl
theorem quorum_Box_Full_go {a0_b : Addr} {a1_view : Int} {a2_kind : Int} {R : Value → World → Prop} {w : World} (h : quorum_Box_Full_T a0_b a1_view a2_kind R w) :
    Calls Try.prog 11 #[(.pointer (some a0_b)), (.int .i64 a1_view), (.int .i64 a2_kind)] w fun e w' => ∃ v, e = .returned v ∧ R v w' :=
  calls_den Try.wide_mixed (f := 11) (args := [(.pointer (some a0_b)), (.int .i64 a1_view), (.int .i64 a2_kind)]) Try.func11 rfl rfl (Eq.mpr (quorum_Box_Full_eq a0_b a1_view a2_kind R w) h)
def quorum_Box_Commit_fr1 (a_13 : Option Addr) (n_13 : Nat) (c_13 : Nat) (x_14 : Int) (x_7 : Int) (x_15 : Int) (js1 : Nat → Value) : Fr := [(js1 0), (js1 1), (js1 2), (js1 3), (js1 4), (js1 5), (js1 6), (.int .i64 x_7), (js1 8), (js1 9), (js1 10), (js1 11), (js1 12), (.slice a_13 n_13 c_13), (.int .i64 x_14), (.int .i64 x_15), (js1 16), (js1 17), (js1 18), (js1 19), (js1 20), (js1 21), (js1 22), (js1 23), (js1 24)]
def quorum_Box_Commit_L1 (a_13 : Option Addr) (n_13 : Nat) (c_13 : Nat) (x_14 : Int) (x_7 : Int) (x_15 : Int) (K1 : Fr → World → Prop) (js1 : Nat → Value) (R : Value → World → Prop) (w : World) : Prop :=
  brB (decide (x_15 < x_14)) (
    ixA a_13 n_13 x_15 4 fun q5 =>
    ldInt .i64 w q5 fun x6 => ldInt .i64 w (Addr.add q5 1) fun x7 => ldInt .i64 w (Addr.add q5 2) fun x8 => ldInt .i64 w (Addr.add q5 3) fun x9 =>
    al w (.cells #[(.int .i64 0), (.int .i64 0), (.int .i64 0), (.int .i64 0)] 29) fun b10 w11 =>
    st w11 ⟨b10, 0, none⟩ [(.int .i64 x6), (.int .i64 x7), (.int .i64 x8), (.int .i64 x9)] fun w12 =>
    ldInt .i64 w12 ⟨b10, 3, none⟩ fun x13 =>
    K1 (quorum_Box_Commit_fr1 a_13 n_13 c_13 x_14 (if x13 > x_7 then x13 else x_7) (IntKind.wrap .i64 (x_15 + 1)) (jk [(9, (.pointer (some ⟨b10, 0, none⟩))), (16, (.bool (decide (x_15 < x_14)))), (17, (.pointer (some q5))), (18, (.agg #[(.int .i64 x6), (.int .i64 x7), (.int .i64 x8), (.int .i64 x9)])), (19, (.int .i64 x_7)), (20, (.pointer (some ⟨b10, 3, none⟩))), (21, (.int .i64 x13)), (22, (.int .i64 (if x13 > x_7 then x13 else x_7))), (23, (.int .i64 (IntKind.wrap .i64 (x_15 + 1))))] js1)) w12)
  (R (.int .i64 x_7) w)
theorem quorum_Box_Commit_L1_eq (a_13 : Option Addr) (n_13 : Nat) (c_13 : Nat) (x_14 : Int) (x_7 : Int) (x_15 : Int) (K1 : Fr → World → Prop) (js1 : Nat → Value) (R : Value → World → Prop) (w : World) :
    den Try.prog (sub (code Try.f16) [1, 1, 0, 1, 0, 0]) (kthen K1 (kont Try.prog (code Try.f16) [1, 1, 0, 1, 0] [] (post Try.prog Try.f16 R))) (quorum_Box_Commit_fr1 a_13 n_13 c_13 x_14 x_7 x_15 js1) w = quorum_Box_Commit_L1 a_13 n_13 c_13 x_14 x_7 x_15 K1 js1 R w := by kernel_rfl
def quorum_Box_Commit_K1 (a_13 : Option Addr) (n_13 : Nat) (c_13 : Nat) (x_14 : Int) (I : Nat → Int → Int → World → Prop) (m : Nat) (fr : Fr) (w : World) : Prop := ∃ m', m' < m ∧ ∃ x_7 x_15 js, fr = quorum_Box_Commit_fr1 a_13 n_13 c_13 x_14 x_7 x_15 js ∧ I m' x_7 x_15 w
theorem quorum_Box_Commit_leaf1 {a_13 : Option Addr} {n_13 : Nat} {c_13 : Nat} {x_14 : Int} {I : Nat → Int → Int → World → Prop} {m : Nat} {x_7 : Int} {x_15 : Int} {js : Nat → Value} {w : World} (m' : Nat) (h1 : m' < m) (h2 : I m' x_7 x_15 w) : quorum_Box_Commit_K1 a_13 n_13 c_13 x_14 I m (quorum_Box_Commit_fr1 a_13 n_13 c_13 x_14 x_7 x_15 js) w := ⟨m', h1, _, _, _, rfl, h2⟩
theorem quorum_Box_Commit_rule1 {a_13 : Option Addr} {n_13 : Nat} {c_13 : Nat} {x_14 : Int} {x_70 : Int} {x_150 : Int} {js0 : Nat → Value} {R : Value → World → Prop} {w0 : World} (I : Nat → Int → Int → World → Prop) (m0 : Nat) (h0 : I m0 x_70 x_150 w0)
    (hr : ∀ (m : Nat) (x_7 : Int) (x_15 : Int) (js : Nat → Value) (w : World), I m x_7 x_15 w → quorum_Box_Commit_L1 a_13 n_13 c_13 x_14 x_7 x_15 (quorum_Box_Commit_K1 a_13 n_13 c_13 x_14 I m) js R w) :
    loopD (den Try.prog (sub (code Try.f16) [1, 1, 0, 1, 0, 0])) (kont Try.prog (code Try.f16) [1, 1, 0, 1, 0] [] (post Try.prog Try.f16 R)) (quorum_Box_Commit_fr1 a_13 n_13 c_13 x_14 x_70 x_150 js0) w0 := by
  refine ⟨fun m fr w => ∃ x_7 x_15 js, fr = quorum_Box_Commit_fr1 a_13 n_13 c_13 x_14 x_7 x_15 js ∧ I m x_7 x_15 w, m0, ⟨_, _, _, rfl, h0⟩, ?_⟩
  rintro m fr w ⟨x_7, x_15, js, rfl, hI⟩
  have h := hr m x_7 x_15 js w hI
  rw [← quorum_Box_Commit_L1_eq] at h
  exact h
/-- (*stagecoach/quorum.Box).Commit -/
def quorum_Box_Commit_T (a0_b : Addr) (a1_view : Int) (a2_kind : Int) (R : Value → World → Prop) (w : World) : Prop :=
  Calls Try.prog 10 #[(.pointer (some a0_b)), (.int .i64 a1_view), (.int .i64 a2_kind)] w fun e w1 => ∃ (a2 : Option Addr) (n3 c4 : Nat), e = .returned (.slice a2 n3 c4) ∧
  loopD (den Try.prog (sub (code Try.f16) [1, 1, 0, 1, 0, 0])) (kont Try.prog (code Try.f16) [1, 1, 0, 1, 0] [] (post Try.prog Try.f16 R)) (quorum_Box_Commit_fr1 a2 n3 c4 (n3 : Int) 0 0 (jk [(0, (.pointer (some a0_b))), (1, (.int .i64 a1_view)), (2, (.int .i64 a2_kind)), (6, (.int .i64 0)), (10, (.pointer (some a0_b))), (11, (.int .i64 a1_view)), (12, (.int .i64 a2_kind))] (fun _ => undef))) w1
theorem quorum_Box_Commit_eq (a0_b : Addr) (a1_view : Int) (a2_kind : Int) (R : Value → World → Prop) (w : World) :
    den Try.prog (code Try.f16) (post Try.prog Try.f16 R) [(.pointer (some a0_b)), (.int .i64 a1_view), (.int .i64 a2_kind), undef, undef, undef, undef, undef, undef, undef, undef, undef, undef, undef, undef, undef, undef, undef, undef, undef, undef, undef, undef, undef, undef] w = quorum_Box_Commit_T a0_b a1_view a2_kind R w := by kernel_rfl
theorem quorum_Box_Commit_go {a0_b : Addr} {a1_view : Int} {a2_kind : Int} {R : Value → World → Prop} {w : World} (h : quorum_Box_Commit_T a0_b a1_view a2_kind R w) :
    Calls Try.prog 16 #[(.pointer (some a0_b)), (.int .i64 a1_view), (.int .i64 a2_kind)] w fun e w' => ∃ v, e = .returned v ∧ R v w' :=
  calls_den Try.wide_mixed (f := 16) (args := [(.pointer (some a0_b)), (.int .i64 a1_view), (.int .i64 a2_kind)]) Try.func16 rfl rfl (Eq.mpr (quorum_Box_Commit_eq a0_b a1_view a2_kind R w) h)
/-- (*stagecoach/quorum.Box).Best -/
def quorum_Box_Best_T (a0_b : Addr) (a1_view : Int) (a2_kind : Int) (R : Value → World → Prop) (w : World) : Prop :=
  al w (.cells #[(.int .i64 0), (.int .i64 0), (.int .i64 0), (.int .i64 0)] 29) fun b1 w2 =>
  Calls Try.prog 10 #[(.pointer (some a0_b)), (.int .i64 a1_view), (.int .i64 a2_kind)] w2 fun e w3 => ∃ (a4 : Option Addr) (n5 c6 : Nat), e = .returned (.slice a4 n5 c6) ∧
  brB ((n5 : Int) == 0) (
    st w3 ⟨b1, 0, none⟩ [(.int .i64 0), (.int .i64 0), (.int .i64 0), (.int .i64 0)] fun w7 =>
    ldInt .i64 w7 ⟨b1, 0, none⟩ fun x8 => ldInt .i64 w7 ⟨b1, 1, none⟩ fun x9 => ldInt .i64 w7 ⟨b1, 2, none⟩ fun x10 => ldInt .i64 w7 ⟨b1, 3, none⟩ fun x11 => R (.tuple #[(.agg #[(.int .i64 x8), (.int .i64 x9), (.int .i64 x10), (.int .i64 x11)]), (.bool false)]) w7)
  (
    Calls Try.prog 31 #[(.slice a4 n5 c6), (.func (.func 32) #[] #[])] w3 fun e w12 => ∃ x13 : Int, ∃ x14 : Int, ∃ x15 : Int, ∃ x16 : Int, e = .returned (.agg #[(.int .i64 x13), (.int .i64 x14), (.int .i64 x15), (.int .i64 x16)]) ∧
    st w12 ⟨b1, 0, none⟩ [(.int .i64 x13), (.int .i64 x14), (.int .i64 x15), (.int .i64 x16)] fun w17 =>
    ldInt .i64 w17 ⟨b1, 0, none⟩ fun x18 => ldInt .i64 w17 ⟨b1, 1, none⟩ fun x19 => ldInt .i64 w17 ⟨b1, 2, none⟩ fun x20 => ldInt .i64 w17 ⟨b1, 3, none⟩ fun x21 => R (.tuple #[(.agg #[(.int .i64 x18), (.int .i64 x19), (.int .i64 x20), (.int .i64 x21)]), (.bool true)]) w17)
theorem quorum_Box_Best_eq (a0_b : Addr) (a1_view : Int) (a2_kind : Int) (R : Value → World → Prop) (w : World) :
    den Try.prog (code Try.f14) (post Try.prog Try.f14 R) [(.pointer (some a0_b)), (.int .i64 a1_view), (.int .i64 a2_kind), undef, undef, undef, undef, undef, undef, undef, undef, undef, undef, undef, undef, undef, undef, undef, undef] w = quorum_Box_Best_T a0_b a1_view a2_kind R w := by kernel_rfl
theorem quorum_Box_Best_go {a0_b : Addr} {a1_view : Int} {a2_kind : Int} {R : Value → World → Prop} {w : World} (h : quorum_Box_Best_T a0_b a1_view a2_kind R w) :
    Calls Try.prog 14 #[(.pointer (some a0_b)), (.int .i64 a1_view), (.int .i64 a2_kind)] w fun e w' => ∃ v, e = .returned v ∧ R v w' :=
  calls_den Try.wide_mixed (f := 14) (args := [(.pointer (some a0_b)), (.int .i64 a1_view), (.int .i64 a2_kind)]) Try.func14 rfl rfl (Eq.mpr (quorum_Box_Best_eq a0_b a1_view a2_kind R w) h)
def quorum_Box_Drop_fr1 (p_0 : Addr) (x_1 : Int) (x_5 : Int) (p_16 : Addr) (js1 : Nat → Value) : Fr := [(.pointer (some p_0)), (.int .i64 x_1), (js1 2), (js1 3), (js1 4), (.int .i64 x_5), (js1 6), (js1 7), (js1 8), (js1 9), (js1 10), (js1 11), (js1 12), (js1 13), (js1 14), (js1 15), (.pointer (some p_16)), (js1 17), (js1 18), (js1 19), (js1 20), (js1 21), (js1 22), (js1 23), (js1 24), (js1 25), (js1 26), (js1 27), (js1 28), (js1 29), (js1 30), (js1 31), (js1 32), (js1 33), (js1 34), (js1 35), (js1 36)]
def quorum_Box_Drop_L1 (p_0 : Addr) (x_1 : Int) (x_5 : Int) (p_16 : Addr) (K1 : Fr → World → Prop) (js1 : Nat → Value) (R : Value → World → Prop) (w : World) : Prop :=
  nextM Try.prog (.pointer (some p_16)) 0 w (fun w6 =>
    ldMap w6 (Addr.add p_0 1) fun m8 =>
    ∃ x9 : Int, (∀ w', Mod [] w6 w' → (Builtin.len_ #[52] 3 #[(.map m8)]).run Try.prog w' = .ok (.int .i64 x9) w') ∧ R (.int .i64 (IntKind.wrap .i64 (x_5 - x9))) w6)
  (fun v10 v11 w7 =>
    ∃ x13 : Int, ∃ x14 : Int, ∃ x15 : Int, ∃ v16 : Value, ∃ w12, (Instr.entry (.pointer (some p_16))).run Try.prog w7 = .ok (.tuple #[(.agg #[(.int .i64 x13), (.int .i64 x14), (.int .i64 x15)]), v16]) w12 ∧
    al w12 (.cells #[(.int .i64 0), (.int .i64 0), (.int .i64 0)] 56) fun b17 w18 =>
    st w18 ⟨b17, 0, none⟩ [(.int .i64 x13), (.int .i64 x14), (.int .i64 x15)] fun w19 =>
    ldInt .i64 w19 ⟨b17, 0, none⟩ fun x20 =>
    brB (decide (x20 < x_1)) (
      ∀ w21, Mod [] w19 w21 →
      ldMap w21 (Addr.add p_0 1) fun m22 =>
      ldInt .i64 w21 ⟨b17, 0, none⟩ fun x23 => ldInt .i64 w21 ⟨b17, 1, none⟩ fun x24 => ldInt .i64 w21 ⟨b17, 2, none⟩ fun x25 =>
      effV Try.prog (Builtin.delete_ #[52, 56] 0 #[(.map m22), (.agg #[(.int .i64 x23), (.int .i64 x24), (.int .i64 x25)])]) w21 fun v27 w26 =>
      K1 (quorum_Box_Drop_fr1 p_0 x_1 x_5 p_16 (jk [(6, (.pointer (some ⟨b17, 0, none⟩))), (17, (.tuple #[(.bool true), v10, v11])), (18, (.bool true)), (19, (.tuple #[(.agg #[(.int .i64 x13), (.int .i64 x14), (.int .i64 x15)]), v16])), (20, (.agg #[(.int .i64 x13), (.int .i64 x14), (.int .i64 x15)])), (21, (.pointer (some ⟨b17, 0, none⟩))), (22, (.int .i64 x20)), (23, (.int .i64 x_1)), (24, (.bool (decide (x20 < x_1)))), (25, (.pointer (some p_0))), (26, (.pointer (some p_0))), (27, (.pointer (some (Addr.add p_0 1)))), (28, (.map m22)), (29, (.agg #[(.int .i64 x23), (.int .i64 x24), (.int .i64 x25)]))] js1)) w26)
    (
      K1 (quorum_Box_Drop_fr1 p_0 x_1 x_5 p_16 (jk [(6, (.pointer (some ⟨b17, 0, none⟩))), (17, (.tuple #[(.bool true), v10, v11])), (18, (.bool true)), (19, (.tuple #[(.agg #[(.int .i64 x13), (.int .i64 x14), (.int .i64 x15)]), v16])), (20, (.agg #[(.int .i64 x13), (.int .i64 x14), (.int .i64 x15)])), (21, (.pointer (some ⟨b17, 0, none⟩))), (22, (.int .i64 x20)), (23, (.int .i64 x_1)), (24, (.bool (decide (x20 < x_1))))] js1)) w19))
theorem quorum_Box_Drop_L1_eq (p_0 : Addr) (x_1 : Int) (x_5 : Int) (p_16 : Addr) (K1 : Fr → World → Prop) (js1 : Nat → Value) (R : Value → World → Prop) (w : World) :
    den Try.prog (sub (code Try.f17) [1, 1, 0, 1, 0, 0]) (kthen K1 (kont Try.prog (code Try.f17) [1, 1, 0, 1, 0] [] (post Try.prog Try.f17 R))) (quorum_Box_Drop_fr1 p_0 x_1 x_5 p_16 js1) w = quorum_Box_Drop_L1 p_0 x_1 x_5 p_16 K1 js1 R w := by kernel_rfl
def quorum_Box_Drop_K1 (p_0 : Addr) (x_1 : Int) (x_5 : Int) (p_16 : Addr) (I : Nat → World → Prop) (m : Nat) (fr : Fr) (w : World) : Prop := ∃ m', m' < m ∧ ∃ js, fr = quorum_Box_Drop_fr1 p_0 x_1 x_5 p_16 js ∧ I m' w
theorem quorum_Box_Drop_leaf1 {p_0 : Addr} {x_1 : Int} {x_5 : Int} {p_16 : Addr} {I : Nat → World → Prop} {m : Nat} {js : Nat → Value} {w : World} (m' : Nat) (h1 : m' < m) (h2 : I m' w) : quorum_Box_Drop_K1 p_0 x_1 x_5 p_16 I m (quorum_Box_Drop_fr1 p_0 x_1 x_5 p_16 js) w := ⟨m', h1, _, rfl, h2⟩
theorem quorum_Box_Drop_rule1 {p_0 : Addr} {x_1 : Int} {x_5 : Int} {p_16 : Addr} {js0 : Nat → Value} {R : Value → World → Prop} {w0 : World} (I : Nat → World → Prop) (m0 : Nat) (h0 : I m0 w0)
    (hr : ∀ (m : Nat) (js : Nat → Value) (w : World), I m w → quorum_Box_Drop_L1 p_0 x_1 x_5 p_16 (quorum_Box_Drop_K1 p_0 x_1 x_5 p_16 I m) js R w) :
    loopD (den Try.prog (sub (code Try.f17) [1, 1, 0, 1, 0, 0])) (kont Try.prog (code Try.f17) [1, 1, 0, 1, 0] [] (post Try.prog Try.f17 R)) (quorum_Box_Drop_fr1 p_0 x_1 x_5 p_16 js0) w0 := by
  refine ⟨fun m fr w => ∃ js, fr = quorum_Box_Drop_fr1 p_0 x_1 x_5 p_16 js ∧ I m w, m0, ⟨_, rfl, h0⟩, ?_⟩
  rintro m fr w ⟨js, rfl, hI⟩
  have h := hr m js w hI
  rw [← quorum_Box_Drop_L1_eq] at h
  exact h
/-- (*stagecoach/quorum.Box).Drop -/
def quorum_Box_Drop_T (a0_b : Addr) (a1_below : Int) (R : Value → World → Prop) (w : World) : Prop :=
  ldMap w (Addr.add a0_b 1) fun m1 =>
  ∃ x2 : Int, (∀ w', Mod [] w w' → (Builtin.len_ #[52] 3 #[(.map m1)]).run Try.prog w' = .ok (.int .i64 x2) w') ∧
  ldMap w (Addr.add a0_b 1) fun m3 =>
  effPtr Try.prog (Instr.range 52 (.map m3)) w fun q4 w5 =>
  loopD (den Try.prog (sub (code Try.f17) [1, 1, 0, 1, 0, 0])) (kont Try.prog (code Try.f17) [1, 1, 0, 1, 0] [] (post Try.prog Try.f17 R)) (quorum_Box_Drop_fr1 a0_b a1_below x2 q4 (jk [(4, (.int .i64 0)), (7, (.pointer (some a0_b))), (8, (.pointer (some a0_b))), (9, (.pointer (some (Addr.add a0_b 1)))), (10, (.map m1)), (11, (.int .i64 x2)), (12, (.pointer (some a0_b))), (13, (.pointer (some a0_b))), (14, (.pointer (some (Addr.add a0_b 1)))), (15, (.map m3))] (fun _ => undef))) w5
theorem quorum_Box_Drop_eq (a0_b : Addr) (a1_below : Int) (R : Value → World → Prop) (w : World) :
    den Try.prog (code Try.f17) (post Try.prog Try.f17 R) [(.pointer (some a0_b)), (.int .i64 a1_below), undef, undef, undef, undef, undef, undef, undef, undef, undef, undef, undef, undef, undef, undef, undef, undef, undef, undef, undef, undef, undef, undef, undef, undef, undef, undef, undef, undef, undef, undef, undef, undef, undef, undef, undef] w = quorum_Box_Drop_T a0_b a1_below R w := by kernel_rfl
theorem quorum_Box_Drop_go {a0_b : Addr} {a1_below : Int} {R : Value → World → Prop} {w : World} (h : quorum_Box_Drop_T a0_b a1_below R w) :
    Calls Try.prog 17 #[(.pointer (some a0_b)), (.int .i64 a1_below)] w fun e w' => ∃ v, e = .returned v ∧ R v w' :=
  calls_den Try.wide_mixed (f := 17) (args := [(.pointer (some a0_b)), (.int .i64 a1_below)]) Try.func17 rfl rfl (Eq.mpr (quorum_Box_Drop_eq a0_b a1_below R w) h)
/-- (*stagecoach/quorum.Box).Copy -/
def quorum_Box_Copy_T (a0_b : Addr) (R : Value → World → Prop) (w : World) : Prop :=
  ∀ w1, Mod [] w w1 →
  ldInt .i64 w1 a0_b fun x2 =>
  ldMap w1 (Addr.add a0_b 1) fun m3 =>
  Calls Try.prog 34 #[(.map m3)] w1 fun e w4 => ∃ m5 : Option Nat, e = .returned (.map m5) ∧ (ldInt .i64 w4 a0_b fun x6 => ((.int .i64 x6) : Value) = (.int .i64 x2)) ∧
  al w4 (.cells #[(.int .i64 x2), (.map m5)] 54) fun b7 w8 => R (.pointer (some ⟨b7, 0, none⟩)) w8
theorem quorum_Box_Copy_eq (a0_b : Addr) (R : Value → World → Prop) (w : World) :
    den Try.prog (code Try.f23) (post Try.prog Try.f23 R) [(.pointer (some a0_b)), undef, undef, undef, undef, undef, undef, undef, undef, undef, undef, undef, undef, undef] w = quorum_Box_Copy_T a0_b R w := by kernel_rfl
theorem quorum_Box_Copy_go {a0_b : Addr} {R : Value → World → Prop} {w : World} (h : quorum_Box_Copy_T a0_b R w) :
    Calls Try.prog 23 #[(.pointer (some a0_b))] w fun e w' => ∃ v, e = .returned v ∧ R v w' :=
  calls_den Try.wide_mixed (f := 23) (args := [(.pointer (some a0_b))]) Try.func23 rfl rfl (Eq.mpr (quorum_Box_Copy_eq a0_b R w) h)
/-- stagecoach/quorum.order -/
def quorum_order_T (a0_x_0 : Int) (a0_x_1 : Int) (a0_x_2 : Int) (a0_x_3 : Int) (a1_y_0 : Int) (a1_y_1 : Int) (a1_y_2 : Int) (a1_y_3 : Int) (R : Value → World → Prop) (w : World) : Prop :=
  al w (.cells #[(.int .i64 a0_x_0), (.int .i64 a0_x_1), (.int .i64 a0_x_2), (.int .i64 a0_x_3)] 29) fun b1 w2 =>
  al w2 (.cells #[(.int .i64 a1_y_0), (.int .i64 a1_y_1), (.int .i64 a1_y_2), (.int .i64 a1_y_3)] 29) fun b3 w4 =>
  ∀ w5, Mod [] w4 w5 →
  ldInt .i64 w5 ⟨b1, 1, none⟩ fun x6 =>
  ldInt .i64 w5 ⟨b3, 1, none⟩ fun x7 =>
  ldInt .i64 w5 ⟨b1, 2, none⟩ fun x8 =>
  ldInt .i64 w5 ⟨b3, 2, none⟩ fun x9 =>
  ldInt .i64 w5 ⟨b3, 0, none⟩ fun x10 =>
  ldInt .i64 w5 ⟨b1, 0, none⟩ fun x11 =>
  Calls Try.prog 36 #[(.int .i64 x6), (.int .i64 x7)] w5 fun e w12 => ∃ x13 : Int, e = .returned (.int .i64 x13) ∧ (ldInt .i64 w12 ⟨b1, 0, none⟩ fun x14 => ((.int .i64 x14) : Value) = (.int .i64 x11)) ∧ (ldInt .i64 w12 ⟨b3, 0, none⟩ fun x15 => ((.int .i64 x15) : Value) = (.int .i64 x10)) ∧ (ldInt .i64 w12 ⟨b3, 2, none⟩ fun x16 => ((.int .i64 x16) : Value) = (.int .i64 x9)) ∧ (ldInt .i64 w12 ⟨b1, 2, none⟩ fun x17 => ((.int .i64 x17) : Value) = (.int .i64 x8)) ∧
  Calls Try.prog 36 #[(.int .i64 x8), (.int .i64 x9)] w12 fun e w18 => ∃ x19 : Int, e = .returned (.int .i64 x19) ∧ (ldInt .i64 w18 ⟨b1, 0, none⟩ fun x20 => ((.int .i64 x20) : Value) = (.int .i64 x11)) ∧ (ldInt .i64 w18 ⟨b3, 0, none⟩ fun x21 => ((.int .i64 x21) : Value) = (.int .i64 x10)) ∧
  Calls Try.prog 36 #[(.int .i64 x10), (.int .i64 x11)] w18 fun e w22 => ∃ x23 : Int, e = .returned (.int .i64 x23) ∧
  al w22 (.cells #[(.int .i64 x13), (.int .i64 x19), (.int .i64 x23)] 3) fun b24 w25 =>
  Calls Try.prog 35 #[(.slice (some ⟨b24, 0, none⟩) 3 3)] w25 fun e w26 => ∃ x27 : Int, e = .returned (.int .i64 x27) ∧ R (.int .i64 x27) w26
theorem quorum_order_eq (a0_x_0 : Int) (a0_x_1 : Int) (a0_x_2 : Int) (a0_x_3 : Int) (a1_y_0 : Int) (a1_y_1 : Int) (a1_y_2 : Int) (a1_y_3 : Int) (R : Value → World → Prop) (w : World) :
    den Try.prog (code Try.f32) (post Try.prog Try.f32 R) [(.agg #[(.int .i64 a0_x_0), (.int .i64 a0_x_1), (.int .i64 a0_x_2), (.int .i64 a0_x_3)]), (.agg #[(.int .i64 a1_y_0), (.int .i64 a1_y_1), (.int .i64 a1_y_2), (.int .i64 a1_y_3)]), undef, undef, undef, undef, undef, undef, undef, undef, undef, undef, undef, undef, undef, undef, undef, undef, undef, undef, undef, undef] w = quorum_order_T a0_x_0 a0_x_1 a0_x_2 a0_x_3 a1_y_0 a1_y_1 a1_y_2 a1_y_3 R w := by kernel_rfl
theorem quorum_order_go {a0_x_0 : Int} {a0_x_1 : Int} {a0_x_2 : Int} {a0_x_3 : Int} {a1_y_0 : Int} {a1_y_1 : Int} {a1_y_2 : Int} {a1_y_3 : Int} {R : Value → World → Prop} {w : World} (h : quorum_order_T a0_x_0 a0_x_1 a0_x_2 a0_x_3 a1_y_0 a1_y_1 a1_y_2 a1_y_3 R w) :
    Calls Try.prog 32 #[(.agg #[(.int .i64 a0_x_0), (.int .i64 a0_x_1), (.int .i64 a0_x_2), (.int .i64 a0_x_3)]), (.agg #[(.int .i64 a1_y_0), (.int .i64 a1_y_1), (.int .i64 a1_y_2), (.int .i64 a1_y_3)])] w fun e w' => ∃ v, e = .returned v ∧ R v w' :=
  calls_den Try.wide_mixed (f := 32) (args := [(.agg #[(.int .i64 a0_x_0), (.int .i64 a0_x_1), (.int .i64 a0_x_2), (.int .i64 a0_x_3)]), (.agg #[(.int .i64 a1_y_0), (.int .i64 a1_y_1), (.int .i64 a1_y_2), (.int .i64 a1_y_3)])]) Try.func32 rfl rfl (Eq.mpr (quorum_order_eq a0_x_0 a0_x_1 a0_x_2 a0_x_3 a1_y_0 a1_y_1 a1_y_2 a1_y_3 R w) h)
/-- cmp.isNaN[int] -/
def cmp_isNaN_int_T (a0_x : Int) (R : Value → World → Prop) (w : World) : Prop :=
  R (.bool (a0_x != a0_x)) w
theorem cmp_isNaN_int_eq (a0_x : Int) (R : Value → World → Prop) (w : World) :
    den Try.prog (code Try.f38) (post Try.prog Try.f38 R) [(.int .i64 a0_x), undef, undef, undef, undef, undef] w = cmp_isNaN_int_T a0_x R w := by kernel_rfl
theorem cmp_isNaN_int_go {a0_x : Int} {R : Value → World → Prop} {w : World} (h : cmp_isNaN_int_T a0_x R w) :
    Calls Try.prog 38 #[(.int .i64 a0_x)] w fun e w' => ∃ v, e = .returned v ∧ R v w' :=
  calls_den Try.wide_mixed (f := 38) (args := [(.int .i64 a0_x)]) Try.func38 rfl rfl (Eq.mpr (cmp_isNaN_int_eq a0_x R w) h)
/-- cmp.Compare[int] -/
def cmp_Compare_int_T (a0_x : Int) (a1_y : Int) (R : Value → World → Prop) (w : World) : Prop :=
  Calls Try.prog 38 #[(.int .i64 a0_x)] w fun e w1 => ∃ t2 : Bool, e = .returned (.bool t2) ∧
  Calls Try.prog 38 #[(.int .i64 a1_y)] w1 fun e w3 => ∃ t4 : Bool, e = .returned (.bool t4) ∧
  brB t2 (
    brB t4 (R (.int .i64 0) w3)
    (R (.int .i64 (-1)) w3))
  (
    brB t4 (R (.int .i64 1) w3)
    (
      brB (decide (a0_x < a1_y)) (R (.int .i64 (-1)) w3)
      (
        brB (decide (a0_x > a1_y)) (R (.int .i64 1) w3)
        (R (.int .i64 0) w3))))
theorem cmp_Compare_int_eq (a0_x : Int) (a1_y : Int) (R : Value → World → Prop) (w : World) :
    den Try.prog (code Try.f36) (post Try.prog Try.f36 R) [(.int .i64 a0_x), (.int .i64 a1_y), undef, undef, undef, undef, undef, undef, undef, undef, undef, undef, undef, undef, undef, undef, undef, undef, undef, undef] w = cmp_Compare_int_T a0_x a1_y R w := by kernel_rfl
theorem cmp_Compare_int_go {a0_x : Int} {a1_y : Int} {R : Value → World → Prop} {w : World} (h : cmp_Compare_int_T a0_x a1_y R w) :
    Calls Try.prog 36 #[(.int .i64 a0_x), (.int .i64 a1_y)] w fun e w' => ∃ v, e = .returned v ∧ R v w' :=
  calls_den Try.wide_mixed (f := 36) (args := [(.int .i64 a0_x), (.int .i64 a1_y)]) Try.func36 rfl rfl (Eq.mpr (cmp_Compare_int_eq a0_x a1_y R w) h)
def cmp_Or_int_fr1 (a_6 : Option Addr) (n_6 : Nat) (c_6 : Nat) (x_7 : Int) (x_8 : Int) (js1 : Nat → Value) : Fr := [(js1 0), (js1 1), (js1 2), (.int .i64 0), (js1 4), (js1 5), (.slice a_6 n_6 c_6), (.int .i64 x_7), (.int .i64 x_8), (js1 9), (js1 10), (js1 11), (js1 12), (js1 13), (js1 14), (js1 15), (js1 16), (js1 17)]
def cmp_Or_int_L1 (a_6 : Option Addr) (n_6 : Nat) (c_6 : Nat) (x_7 : Int) (x_8 : Int) (K1 : Fr → World → Prop) (js1 : Nat → Value) (R : Value → World → Prop) (w : World) : Prop :=
  brB (decide (x_8 < x_7)) (
    ixA a_6 n_6 x_8 1 fun q1 =>
    ldInt .i64 w q1 fun x2 =>
    brB (x2 != 0) (R (.int .i64 x2) w)
    (
      K1 (cmp_Or_int_fr1 a_6 n_6 c_6 x_7 (IntKind.wrap .i64 (x_8 + 1)) (jk [(5, (.int .i64 x2)), (9, (.bool (decide (x_8 < x_7)))), (10, (.pointer (some q1))), (11, (.int .i64 x2)), (12, (.int .i64 x2)), (13, (.int .i64 0)), (14, (.bool (x2 != 0))), (16, (.int .i64 (IntKind.wrap .i64 (x_8 + 1))))] js1)) w))
  (R (.int .i64 0) w)
theorem cmp_Or_int_L1_eq (a_6 : Option Addr) (n_6 : Nat) (c_6 : Nat) (x_7 : Int) (x_8 : Int) (K1 : Fr → World → Prop) (js1 : Nat → Value) (R : Value → World → Prop) (w : World) :
    den Try.prog (sub (code Try.f35) [1, 1, 0, 1, 0, 0]) (kthen K1 (kont Try.prog (code Try.f35) [1, 1, 0, 1, 0] [] (post Try.prog Try.f35 R))) (cmp_Or_int_fr1 a_6 n_6 c_6 x_7 x_8 js1) w = cmp_Or_int_L1 a_6 n_6 c_6 x_7 x_8 K1 js1 R w := by kernel_rfl
def cmp_Or_int_K1 (a_6 : Option Addr) (n_6 : Nat) (c_6 : Nat) (x_7 : Int) (I : Nat → Int → World → Prop) (m : Nat) (fr : Fr) (w : World) : Prop := ∃ m', m' < m ∧ ∃ x_8 js, fr = cmp_Or_int_fr1 a_6 n_6 c_6 x_7 x_8 js ∧ I m' x_8 w
theorem cmp_Or_int_leaf1 {a_6 : Option Addr} {n_6 : Nat} {c_6 : Nat} {x_7 : Int} {I : Nat → Int → World → Prop} {m : Nat} {x_8 : Int} {js : Nat → Value} {w : World} (m' : Nat) (h1 : m' < m) (h2 : I m' x_8 w) : cmp_Or_int_K1 a_6 n_6 c_6 x_7 I m (cmp_Or_int_fr1 a_6 n_6 c_6 x_7 x_8 js) w := ⟨m', h1, _, _, rfl, h2⟩
theorem cmp_Or_int_rule1 {a_6 : Option Addr} {n_6 : Nat} {c_6 : Nat} {x_7 : Int} {x_80 : Int} {js0 : Nat → Value} {R : Value → World → Prop} {w0 : World} (I : Nat → Int → World → Prop) (m0 : Nat) (h0 : I m0 x_80 w0)
    (hr : ∀ (m : Nat) (x_8 : Int) (js : Nat → Value) (w : World), I m x_8 w → cmp_Or_int_L1 a_6 n_6 c_6 x_7 x_8 (cmp_Or_int_K1 a_6 n_6 c_6 x_7 I m) js R w) :
    loopD (den Try.prog (sub (code Try.f35) [1, 1, 0, 1, 0, 0])) (kont Try.prog (code Try.f35) [1, 1, 0, 1, 0] [] (post Try.prog Try.f35 R)) (cmp_Or_int_fr1 a_6 n_6 c_6 x_7 x_80 js0) w0 := by
  refine ⟨fun m fr w => ∃ x_8 js, fr = cmp_Or_int_fr1 a_6 n_6 c_6 x_7 x_8 js ∧ I m x_8 w, m0, ⟨_, _, rfl, h0⟩, ?_⟩
  rintro m fr w ⟨x_8, js, rfl, hI⟩
  have h := hr m x_8 js w hI
  rw [← cmp_Or_int_L1_eq] at h
  exact h
/-- cmp.Or[int] -/
def cmp_Or_int_T (a0_vals_a : Option Addr) (a0_vals_n : Nat) (a0_vals_c : Nat) (R : Value → World → Prop) (w : World) : Prop :=
  loopD (den Try.prog (sub (code Try.f35) [1, 1, 0, 1, 0, 0])) (kont Try.prog (code Try.f35) [1, 1, 0, 1, 0] [] (post Try.prog Try.f35 R)) (cmp_Or_int_fr1 a0_vals_a a0_vals_n a0_vals_c (a0_vals_n : Int) 0 (jk [(0, (.slice a0_vals_a a0_vals_n a0_vals_c)), (2, (.int .i64 0))] (fun _ => undef))) w
theorem cmp_Or_int_eq (a0_vals_a : Option Addr) (a0_vals_n : Nat) (a0_vals_c : Nat) (R : Value → World → Prop) (w : World) :
    den Try.prog (code Try.f35) (post Try.prog Try.f35 R) [(.slice a0_vals_a a0_vals_n a0_vals_c), undef, undef, undef, undef, undef, undef, undef, undef, undef, undef, undef, undef, undef, undef, undef, undef, undef] w = cmp_Or_int_T a0_vals_a a0_vals_n a0_vals_c R w := by kernel_rfl
theorem cmp_Or_int_go {a0_vals_a : Option Addr} {a0_vals_n : Nat} {a0_vals_c : Nat} {R : Value → World → Prop} {w : World} (h : cmp_Or_int_T a0_vals_a a0_vals_n a0_vals_c R w) :
    Calls Try.prog 35 #[(.slice a0_vals_a a0_vals_n a0_vals_c)] w fun e w' => ∃ v, e = .returned v ∧ R v w' :=
  calls_den Try.wide_mixed (f := 35) (args := [(.slice a0_vals_a a0_vals_n a0_vals_c)]) Try.func35 rfl rfl (Eq.mpr (cmp_Or_int_eq a0_vals_a a0_vals_n a0_vals_c R w) h)
def slices_MaxFunc_api_Vote_api_Vote_fr1 (a_0 : Option Addr) (n_0 : Nat) (c_0 : Nat) (b_4 : Nat) (b_5 : Nat) (x_6 : Int) (js1 : Nat → Value) : Fr := [(.slice a_0 n_0 c_0), (.func (.func 32) #[] #[]), (js1 2), (js1 3), (.pointer (some ⟨b_4, 0, none⟩)), (.pointer (some ⟨b_5, 0, none⟩)), (.int .i64 x_6), (js1 7), (js1 8), (js1 9), (js1 10), (js1 11), (js1 12), (js1 13), (js1 14), (js1 15), (js1 16), (js1 17), (js1 18), (js1 19), (js1 20), (js1 21), (js1 22), (js1 23), (js1 24), (js1 25), (js1 26), (js1 27), (js1 28), (js1 29), (js1 30), (js1 31), (js1 32)]
def slices_MaxFunc_api_Vote_api_Vote_L1 (a_0 : Option Addr) (n_0 : Nat) (c_0 : Nat) (b_4 : Nat) (b_5 : Nat) (x_6 : Int) (K1 : Fr → World → Prop) (js1 : Nat → Value) (R : Value → World → Prop) (w : World) : Prop :=
  brB (decide (x_6 < (n_0 : Int))) (
    ∀ w11, Mod [] w w11 →
    ixA a_0 n_0 x_6 4 fun q12 =>
    ldInt .i64 w11 q12 fun x13 => ldInt .i64 w11 (Addr.add q12 1) fun x14 => ldInt .i64 w11 (Addr.add q12 2) fun x15 => ldInt .i64 w11 (Addr.add q12 3) fun x16 =>
    ldInt .i64 w11 ⟨b_5, 0, none⟩ fun x17 => ldInt .i64 w11 ⟨b_5, 1, none⟩ fun x18 => ldInt .i64 w11 ⟨b_5, 2, none⟩ fun x19 => ldInt .i64 w11 ⟨b_5, 3, none⟩ fun x20 =>
    Calls Try.prog 32 #[(.agg #[(.int .i64 x13), (.int .i64 x14), (.int .i64 x15), (.int .i64 x16)]), (.agg #[(.int .i64 x17), (.int .i64 x18), (.int .i64 x19), (.int .i64 x20)])] w11 fun e w21 => ∃ x22 : Int, e = .returned (.int .i64 x22) ∧
    brB (decide (x22 > 0)) (
      ixA a_0 n_0 x_6 4 fun q23 =>
      ldInt .i64 w21 q23 fun x24 => ldInt .i64 w21 (Addr.add q23 1) fun x25 => ldInt .i64 w21 (Addr.add q23 2) fun x26 => ldInt .i64 w21 (Addr.add q23 3) fun x27 =>
      st w21 ⟨b_5, 0, none⟩ [(.int .i64 x24), (.int .i64 x25), (.int .i64 x26), (.int .i64 x27)] fun w28 =>
      K1 (slices_MaxFunc_api_Vote_api_Vote_fr1 a_0 n_0 c_0 b_4 b_5 (IntKind.wrap .i64 (x_6 + 1)) (jk [(14, (.int .i64 x_6)), (15, (.slice a_0 n_0 c_0)), (16, (.int .i64 (n_0 : Int))), (17, (.bool (decide (x_6 < (n_0 : Int))))), (18, (.int .i64 x_6)), (19, (.int .i64 (IntKind.wrap .i64 (x_6 + 1)))), (20, (.func (.func 32) #[] #[])), (21, (.slice a_0 n_0 c_0)), (22, (.int .i64 x_6)), (23, (.pointer (some q12))), (24, (.agg #[(.int .i64 x13), (.int .i64 x14), (.int .i64 x15), (.int .i64 x16)])), (25, (.agg #[(.int .i64 x17), (.int .i64 x18), (.int .i64 x19), (.int .i64 x20)])), (26, (.int .i64 x22)), (27, (.bool (decide (x22 > 0)))), (28, (.slice a_0 n_0 c_0)), (29, (.int .i64 x_6)), (30, (.pointer (some q23))), (31, (.agg #[(.int .i64 x24), (.int .i64 x25), (.int .i64 x26), (.int .i64 x27)]))] js1)) w28)
    (
      K1 (slices_MaxFunc_api_Vote_api_Vote_fr1 a_0 n_0 c_0 b_4 b_5 (IntKind.wrap .i64 (x_6 + 1)) (jk [(14, (.int .i64 x_6)), (15, (.slice a_0 n_0 c_0)), (16, (.int .i64 (n_0 : Int))), (17, (.bool (decide (x_6 < (n_0 : Int))))), (18, (.int .i64 x_6)), (19, (.int .i64 (IntKind.wrap .i64 (x_6 + 1)))), (20, (.func (.func 32) #[] #[])), (21, (.slice a_0 n_0 c_0)), (22, (.int .i64 x_6)), (23, (.pointer (some q12))), (24, (.agg #[(.int .i64 x13), (.int .i64 x14), (.int .i64 x15), (.int .i64 x16)])), (25, (.agg #[(.int .i64 x17), (.int .i64 x18), (.int .i64 x19), (.int .i64 x20)])), (26, (.int .i64 x22)), (27, (.bool (decide (x22 > 0))))] js1)) w21))
  (
    ldInt .i64 w ⟨b_5, 0, none⟩ fun x29 => ldInt .i64 w ⟨b_5, 1, none⟩ fun x30 => ldInt .i64 w ⟨b_5, 2, none⟩ fun x31 => ldInt .i64 w ⟨b_5, 3, none⟩ fun x32 =>
    st w ⟨b_4, 0, none⟩ [(.int .i64 x29), (.int .i64 x30), (.int .i64 x31), (.int .i64 x32)] fun w33 =>
    ldInt .i64 w33 ⟨b_4, 0, none⟩ fun x34 => ldInt .i64 w33 ⟨b_4, 1, none⟩ fun x35 => ldInt .i64 w33 ⟨b_4, 2, none⟩ fun x36 => ldInt .i64 w33 ⟨b_4, 3, none⟩ fun x37 => R (.agg #[(.int .i64 x34), (.int .i64 x35), (.int .i64 x36), (.int .i64 x37)]) w33)
theorem slices_MaxFunc_api_Vote_api_Vote_L1_eq (a_0 : Option Addr) (n_0 : Nat) (c_0 : Nat) (b_4 : Nat) (b_5 : Nat) (x_6 : Int) (K1 : Fr → World → Prop) (js1 : Nat → Value) (R : Value → World → Prop) (w : World) :
    den Try.prog (sub (code Try.f31) [1, 1, 1, 0, 1, 0, 0]) (kthen K1 (kont Try.prog (code Try.f31) [1, 1, 1, 0, 1, 0] [] (post Try.prog Try.f31 R))) (slices_MaxFunc_api_Vote_api_Vote_fr1 a_0 n_0 c_0 b_4 b_5 x_6 js1) w = slices_MaxFunc_api_Vote_api_Vote_L1 a_0 n_0 c_0 b_4 b_5 x_6 K1 js1 R w := by kernel_rfl
def slices_MaxFunc_api_Vote_api_Vote_K1 (a_0 : Option Addr) (n_0 : Nat) (c_0 : Nat) (b_4 : Nat) (b_5 : Nat) (I : Nat → Int → World → Prop) (m : Nat) (fr : Fr) (w : World) : Prop := ∃ m', m' < m ∧ ∃ x_6 js, fr = slices_MaxFunc_api_Vote_api_Vote_fr1 a_0 n_0 c_0 b_4 b_5 x_6 js ∧ I m' x_6 w
theorem slices_MaxFunc_api_Vote_api_Vote_leaf1 {a_0 : Option Addr} {n_0 : Nat} {c_0 : Nat} {b_4 : Nat} {b_5 : Nat} {I : Nat → Int → World → Prop} {m : Nat} {x_6 : Int} {js : Nat → Value} {w : World} (m' : Nat) (h1 : m' < m) (h2 : I m' x_6 w) : slices_MaxFunc_api_Vote_api_Vote_K1 a_0 n_0 c_0 b_4 b_5 I m (slices_MaxFunc_api_Vote_api_Vote_fr1 a_0 n_0 c_0 b_4 b_5 x_6 js) w := ⟨m', h1, _, _, rfl, h2⟩
theorem slices_MaxFunc_api_Vote_api_Vote_rule1 {a_0 : Option Addr} {n_0 : Nat} {c_0 : Nat} {b_4 : Nat} {b_5 : Nat} {x_60 : Int} {js0 : Nat → Value} {R : Value → World → Prop} {w0 : World} (I : Nat → Int → World → Prop) (m0 : Nat) (h0 : I m0 x_60 w0)
    (hr : ∀ (m : Nat) (x_6 : Int) (js : Nat → Value) (w : World), I m x_6 w → slices_MaxFunc_api_Vote_api_Vote_L1 a_0 n_0 c_0 b_4 b_5 x_6 (slices_MaxFunc_api_Vote_api_Vote_K1 a_0 n_0 c_0 b_4 b_5 I m) js R w) :
    loopD (den Try.prog (sub (code Try.f31) [1, 1, 1, 0, 1, 0, 0])) (kont Try.prog (code Try.f31) [1, 1, 1, 0, 1, 0] [] (post Try.prog Try.f31 R)) (slices_MaxFunc_api_Vote_api_Vote_fr1 a_0 n_0 c_0 b_4 b_5 x_60 js0) w0 := by
  refine ⟨fun m fr w => ∃ x_6 js, fr = slices_MaxFunc_api_Vote_api_Vote_fr1 a_0 n_0 c_0 b_4 b_5 x_6 js ∧ I m x_6 w, m0, ⟨_, _, rfl, h0⟩, ?_⟩
  rintro m fr w ⟨x_6, js, rfl, hI⟩
  have h := hr m x_6 js w hI
  rw [← slices_MaxFunc_api_Vote_api_Vote_L1_eq] at h
  exact h
/-- slices.MaxFunc[[]stagecoach/api.Vote,stagecoach/api.Vote] -/
def slices_MaxFunc_api_Vote_api_Vote_T (a0_x_a : Option Addr) (a0_x_n : Nat) (a0_x_c : Nat) (R : Value → World → Prop) (w : World) : Prop :=
  al w (.cells #[(.int .i64 0), (.int .i64 0), (.int .i64 0), (.int .i64 0)] 29) fun b1 w2 =>
  brB (decide ((a0_x_n : Int) < 1)) (False)
  (
    ixA a0_x_a a0_x_n 0 4 fun q3 =>
    ldInt .i64 w2 q3 fun x4 => ldInt .i64 w2 (Addr.add q3 1) fun x5 => ldInt .i64 w2 (Addr.add q3 2) fun x6 => ldInt .i64 w2 (Addr.add q3 3) fun x7 =>
    al w2 (.cells #[(.int .i64 0), (.int .i64 0), (.int .i64 0), (.int .i64 0)] 29) fun b8 w9 =>
    st w9 ⟨b8, 0, none⟩ [(.int .i64 x4), (.int .i64 x5), (.int .i64 x6), (.int .i64 x7)] fun w10 =>
    loopD (den Try.prog (sub (code Try.f31) [1, 1, 1, 0, 1, 0, 0])) (kont Try.prog (code Try.f31) [1, 1, 1, 0, 1, 0] [] (post Try.prog Try.f31 R)) (slices_MaxFunc_api_Vote_api_Vote_fr1 a0_x_a a0_x_n a0_x_c b1 b8 1 (jk [(7, (.slice a0_x_a a0_x_n a0_x_c)), (8, (.int .i64 (a0_x_n : Int))), (9, (.bool (decide ((a0_x_n : Int) < 1)))), (11, (.slice a0_x_a a0_x_n a0_x_c)), (12, (.pointer (some q3))), (13, (.agg #[(.int .i64 x4), (.int .i64 x5), (.int .i64 x6), (.int .i64 x7)]))] (fun _ => undef))) w10)
theorem slices_MaxFunc_api_Vote_api_Vote_eq (a0_x_a : Option Addr) (a0_x_n : Nat) (a0_x_c : Nat) (R : Value → World → Prop) (w : World) :
    den Try.prog (code Try.f31) (post Try.prog Try.f31 R) [(.slice a0_x_a a0_x_n a0_x_c), (.func (.func 32) #[] #[]), undef, undef, undef, undef, undef, undef, undef, undef, undef, undef, undef, undef, undef, undef, undef, undef, undef, undef, undef, undef, undef, undef, undef, undef, undef, undef, undef, undef, undef, undef, undef] w = slices_MaxFunc_api_Vote_api_Vote_T a0_x_a a0_x_n a0_x_c R w := by kernel_rfl
theorem slices_MaxFunc_api_Vote_api_Vote_go {a0_x_a : Option Addr} {a0_x_n : Nat} {a0_x_c : Nat} {R : Value → World → Prop} {w : World} (h : slices_MaxFunc_api_Vote_api_Vote_T a0_x_a a0_x_n a0_x_c R w) :
    Calls Try.prog 31 #[(.slice a0_x_a a0_x_n a0_x_c), (.func (.func 32) #[] #[])] w fun e w' => ∃ v, e = .returned v ∧ R v w' :=
  calls_den Try.wide_mixed (f := 31) (args := [(.slice a0_x_a a0_x_n a0_x_c), (.func (.func 32) #[] #[])]) Try.func31 rfl rfl (Eq.mpr (slices_MaxFunc_api_Vote_api_Vote_eq a0_x_a a0_x_n a0_x_c R w) h)

end Go.Proofs.Ytkdpopkbongabaa
