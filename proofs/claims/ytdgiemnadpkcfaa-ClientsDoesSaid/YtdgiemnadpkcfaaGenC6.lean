/- The conditions of Go functions' bodies, printed by gen2.py. -/
import Derived.Test.YtdgiemnadpkcfaaTrkS
namespace Go.Proofs.Ytdgiemnadpkcfaa
open Go Go.RowKit
set_option linter.unusedVariables false
set_option maxRecDepth 100000

def law15_ClientsLoads_la1 : LA := ⟨[0, 0, 1, 0, 1, 1], [0, 3, 4], [], 0, []⟩
def law15_ClientsLoads_an : List LA := [law15_ClientsLoads_la1]
def law15_ClientsLoads_v1 (a_0 : Option Addr) (n_0 : Nat) (c_0 : Nat) (a_3 : Option Addr) (n_3 : Nat) (c_3 : Nat) (x_4 : Int) : List Value := [(.slice a_0 n_0 c_0), (.slice a_3 n_3 c_3), (.int .i64 x_4)]
def law15_ClientsLoads_m1 : List TB := []
def law15_ClientsLoads_L1 (a_0 : Option Addr) (n_0 : Nat) (c_0 : Nat) (a_3 : Option Addr) (n_3 : Nat) (c_3 : Nat) (x_4 : Int) (K1 : Kh) (R : Value → World → Prop) (w : World) : Prop :=
  brB (decide (x_4 < (n_0 : Int))) (
    brB (decide (x_4 < 20)) (
      ixA a_0 n_0 x_4 9 fun q3 =>
      ldInt .i64 w q3 fun x4 => ldInt .i64 w (Addr.add q3 1) fun x5 => ldBool w (Addr.add q3 2) fun t6 => ldInt .i64 w (Addr.add q3 3) fun x7 => ldInt .i64 w (Addr.add q3 4) fun x8 => ldInt .i64 w (Addr.add q3 5) fun x9 => ldInt .i64 w (Addr.add q3 6) fun x10 => ldSlice w (Addr.add q3 7) fun a11 n12 c13 => ldSlice w (Addr.add q3 8) fun a14 n15 c16 =>
      ∀ b17, w.heap.size ≤ b17 →
      ∀ w18, Adv [] [b17] w w18 →
      Calls Try.prog 9 #[(.agg #[(.int .i64 x7), (.int .i64 x8), (.int .i64 x9), (.int .i64 x10), (.slice a11 n12 c13), (.slice a14 n15 c16)])] w18 fun e w19 => ∃ x20 : Int, ∃ x21 : Int, ∃ x22 : Int, ∃ x23 : Int, ∃ (a24 : Option Addr) (n25 c26 : Nat), ∃ (a27 : Option Addr) (n28 c29 : Nat), e = .returned (.agg #[(.int .i64 x20), (.int .i64 x21), (.int .i64 x22), (.int .i64 x23), (.slice a24 n25 c26), (.slice a27 n28 c29)]) ∧ Keep [b17] w18 w19 ∧
      ∀ w30, Adv [b17] [] w19 w30 →
      al w30 (.cells #[(.int .i64 x4), (.int .i64 x5), (.bool t6), (.int .i64 x20), (.int .i64 x21), (.int .i64 x22), (.int .i64 x23), (.slice a24 n25 c26), (.slice a27 n28 c29)] 29) fun b31 w32 =>
      effSl Try.prog (Builtin.append_ #[22, 22] 22 #[(.slice a_3 n_3 c_3), (.slice (some ⟨b31, 0, none⟩) 1 1)]) w32 fun a34 n35 c36 w33 => Keep [b17] w32 w33 ∧
      K1 (law15_ClientsLoads_v1 a_0 n_0 c_0 a34 n35 c36 (IntKind.wrap .i64 (x_4 + 1))) (law15_ClientsLoads_m1) w33)
    (
      Calls Try.prog 10 #[(.slice a_3 n_3 c_3)] w fun e w37 => ∃ p38 : Option Addr, ∃ x39 : Int, e = .returned (.tuple #[(.pointer p38), (.int .i64 x39)]) ∧
      Calls Try.prog 11 #[(.slice a_3 n_3 c_3)] w37 fun e w40 => ∃ p41 : Option Addr, ∃ x42 : Int, e = .returned (.tuple #[(.pointer p41), (.int .i64 x42)]) ∧
      brB (x39 != x42) (
        R (.bool false) w40)
      (
        brB (!((Option.isNone p38) == (Option.isNone p41))) (
          R (.bool false) w40)
        (
          brB (Option.isNone p38) (
            Calls Try.prog 14 #[] w40 fun e w43 => ∃ t44 : Bool, e = .returned (.bool t44) ∧
            R (.bool t44) w43)
          (
            Calls Try.prog 13 #[(.pointer p38)] w40 fun e w45 => ∃ (a46 : Option Addr) (n47 c48 : Nat), e = .returned (.slice a46 n47 c48) ∧
            Calls Try.prog 12 #[(.slice a46 n47 c48), (.slice a_3 n_3 c_3)] w45 fun e w49 => ∃ t50 : Bool, e = .returned (.bool t50) ∧
            brB t50 (
              Calls Try.prog 14 #[] w49 fun e w51 => ∃ t52 : Bool, e = .returned (.bool t52) ∧
              R (.bool t52) w51)
            (
              R (.bool false) w49))))))
  (
    Calls Try.prog 10 #[(.slice a_3 n_3 c_3)] w fun e w53 => ∃ p54 : Option Addr, ∃ x55 : Int, e = .returned (.tuple #[(.pointer p54), (.int .i64 x55)]) ∧
    Calls Try.prog 11 #[(.slice a_3 n_3 c_3)] w53 fun e w56 => ∃ p57 : Option Addr, ∃ x58 : Int, e = .returned (.tuple #[(.pointer p57), (.int .i64 x58)]) ∧
    brB (x55 != x58) (
      R (.bool false) w56)
    (
      brB (!((Option.isNone p54) == (Option.isNone p57))) (
        R (.bool false) w56)
      (
        brB (Option.isNone p54) (
          Calls Try.prog 14 #[] w56 fun e w59 => ∃ t60 : Bool, e = .returned (.bool t60) ∧
          R (.bool t60) w59)
        (
          Calls Try.prog 13 #[(.pointer p54)] w56 fun e w61 => ∃ (a62 : Option Addr) (n63 c64 : Nat), e = .returned (.slice a62 n63 c64) ∧
          Calls Try.prog 12 #[(.slice a62 n63 c64), (.slice a_3 n_3 c_3)] w61 fun e w65 => ∃ t66 : Bool, e = .returned (.bool t66) ∧
          brB t66 (
            Calls Try.prog 14 #[] w65 fun e w67 => ∃ t68 : Bool, e = .returned (.bool t68) ∧
            R (.bool t68) w67)
          (
            R (.bool false) w65)))))
theorem law15_ClientsLoads_L1_eq (a_0 : Option Addr) (n_0 : Nat) (c_0 : Nat) (a_3 : Option Addr) (n_3 : Nat) (c_3 : Nat) (x_4 : Int) (K1 : Kh) (js : Nat → Value) (R : Value → World → Prop) (w : World) :
    headA law15_ClientsLoads_la1 ((dnF Try.prog law15_ClientsLoads_an (code Try.f3) 396 [0, 0, 1, 0, 1, 1]) (kthen3 (atA law15_ClientsLoads_la1 K1) (kont3 Try.prog law15_ClientsLoads_an (code Try.f3) [1, 1, 0, 1, 0] [] (post3 Try.prog Try.f3 [] R)))) (law15_ClientsLoads_v1 a_0 n_0 c_0 a_3 n_3 c_3 x_4) js (law15_ClientsLoads_m1) w = law15_ClientsLoads_L1 a_0 n_0 c_0 a_3 n_3 c_3 x_4 K1 R w := by kernel_rfl
def law15_ClientsLoads_K1 (a_0 : Option Addr) (n_0 : Nat) (c_0 : Nat) (I : Nat → Option Addr → Nat → Nat → Int → World → Prop) (m : Nat) (vals : List Value) (mem : List TB) (w : World) : Prop := ∃ m', m' < m ∧ ∃ a_3 n_3 c_3 x_4, vals = (law15_ClientsLoads_v1 a_0 n_0 c_0 a_3 n_3 c_3 x_4) ∧ mem = (law15_ClientsLoads_m1) ∧ I m' a_3 n_3 c_3 x_4 w
theorem law15_ClientsLoads_leaf1 {a_0 : Option Addr} {n_0 : Nat} {c_0 : Nat} {I : Nat → Option Addr → Nat → Nat → Int → World → Prop} {m : Nat} {a_3 : Option Addr} {n_3 : Nat} {c_3 : Nat} {x_4 : Int} {w : World} (m' : Nat) (h1 : m' < m) (h2 : I m' a_3 n_3 c_3 x_4 w) : law15_ClientsLoads_K1 a_0 n_0 c_0 I m (law15_ClientsLoads_v1 a_0 n_0 c_0 a_3 n_3 c_3 x_4) (law15_ClientsLoads_m1) w := ⟨m', h1, _, _, _, _, rfl, rfl, h2⟩
theorem law15_ClientsLoads_rule1 {a_0 : Option Addr} {n_0 : Nat} {c_0 : Nat} {a_30 : Option Addr} {n_30 : Nat} {c_30 : Nat} {x_40 : Int} {R : Value → World → Prop} {w0 : World} (I : Nat → Option Addr → Nat → Nat → Int → World → Prop) (m0 : Nat) (h0 : I m0 a_30 n_30 c_30 x_40 w0)
    (hr : ∀ (m : Nat) (a_3 : Option Addr) (n_3 : Nat) (c_3 : Nat) (x_4 : Int) (w : World), I m a_3 n_3 c_3 x_4 w → law15_ClientsLoads_L1 a_0 n_0 c_0 a_3 n_3 c_3 x_4 (law15_ClientsLoads_K1 a_0 n_0 c_0 I m) R w) :
    loopD3 law15_ClientsLoads_la1 (dnF Try.prog law15_ClientsLoads_an (code Try.f3) 396 [0, 0, 1, 0, 1, 1]) (kont3 Try.prog law15_ClientsLoads_an (code Try.f3) [1, 1, 0, 1, 0] [] (post3 Try.prog Try.f3 [] R)) (law15_ClientsLoads_v1 a_0 n_0 c_0 a_30 n_30 c_30 x_40) (law15_ClientsLoads_m1) w0 := by
  refine ⟨fun m vals mem w => ∃ a_3 n_3 c_3 x_4, vals = (law15_ClientsLoads_v1 a_0 n_0 c_0 a_3 n_3 c_3 x_4) ∧ mem = (law15_ClientsLoads_m1) ∧ I m a_3 n_3 c_3 x_4 w, m0, ⟨_, _, _, _, rfl, rfl, h0⟩, ?_⟩
  rintro m vals mem w ⟨a_3, n_3, c_3, x_4, rfl, rfl, hI⟩
  refine ⟨rfl, rfl, fun js => ?_⟩
  have h := hr m a_3 n_3 c_3 x_4 w hI
  rw [← law15_ClientsLoads_L1_eq _ _ _ _ _ _ _ _ js] at h
  exact h
/-- stagecoach/stagecoachlaw15.ClientsLoads -/
def law15_ClientsLoads_T (a0_l_a : Option Addr) (a0_l_n : Nat) (a0_l_c : Nat) (R : Value → World → Prop) (w : World) : Prop :=
  al w (.cells #[] 29) fun b1 w2 =>
  loopD3 law15_ClientsLoads_la1 (dnF Try.prog law15_ClientsLoads_an (code Try.f3) 396 [0, 0, 1, 0, 1, 1]) (kont3 Try.prog law15_ClientsLoads_an (code Try.f3) [1, 1, 0, 1, 0] [] (post3 Try.prog Try.f3 [] R)) (law15_ClientsLoads_v1 a0_l_a a0_l_n a0_l_c (some ⟨b1, 0, none⟩) 0 0 0) (law15_ClientsLoads_m1) w2
theorem law15_ClientsLoads_eq (a0_l_a : Option Addr) (a0_l_n : Nat) (a0_l_c : Nat) (R : Value → World → Prop) (w : World) :
    dnF Try.prog law15_ClientsLoads_an (code Try.f3) 400 [] (post3 Try.prog Try.f3 [] R) ⟨args0 0 [(.slice a0_l_a a0_l_n a0_l_c)], fun _ => undef⟩ ⟨[], w, [], [], true⟩ = law15_ClientsLoads_T a0_l_a a0_l_n a0_l_c R w := by kernel_rfl
theorem law15_ClientsLoads_go {a0_l_a : Option Addr} {a0_l_n : Nat} {a0_l_c : Nat} {R : Value → World → Prop} {w : World} (h : law15_ClientsLoads_T a0_l_a a0_l_n a0_l_c R w) :
    Calls Try.prog 3 #[(.slice a0_l_a a0_l_n a0_l_c)] w fun e w' => ∃ v, e = .returned v ∧ R v w' :=
  calls_none Try.wide_mixed (f := 3) (args := [(.slice a0_l_a a0_l_n a0_l_c)]) Try.func3 rfl rfl (by kernel_rfl) rfl (Eq.mpr (law15_ClientsLoads_eq a0_l_a a0_l_n a0_l_c R w) h)
def law15_ClientsOnce_la1 : LA := ⟨[0, 0, 1, 0, 1, 1, 1, 1], [0, 5, 6, 7, 8], [], 0, []⟩
def law15_ClientsOnce_an : List LA := [law15_ClientsOnce_la1]
def law15_ClientsOnce_v1 (a_0 : Option Addr) (n_0 : Nat) (c_0 : Nat) (p_5 : Option Addr) (x_6 : Int) (x_7 : Int) (x_8 : Int) : List Value := [(.slice a_0 n_0 c_0), (.pointer p_5), (.int .i64 x_6), (.int .i64 x_7), (.int .i64 x_8)]
def law15_ClientsOnce_m1 : List TB := []
def law15_ClientsOnce_L1 (a_0 : Option Addr) (n_0 : Nat) (c_0 : Nat) (p_5 : Option Addr) (x_6 : Int) (x_7 : Int) (x_8 : Int) (K1 : Kh) (R : Value → World → Prop) (w : World) : Prop :=
  brB (decide (x_8 < (n_0 : Int))) (
    brB (decide (x_8 < 40)) (
      ixA a_0 n_0 x_8 1 fun q3 =>
      ldInt .i64 w q3 fun x4 =>
      Calls Try.prog 16 #[(.pointer p_5), (.int .i64 x_6), (.int .i64 (IntKind.wrap .i64 (x_7 + (IntKind.wrap .i64 (1 + (bAnd .i64 x4 7))))))] w fun e w5 => ∃ x6 : Int, ∃ x7 : Int, ∃ x8 : Int, ∃ x9 : Int, ∃ x10 : Int, ∃ (a11 : Option Addr) (n12 c13 : Nat), ∃ (a14 : Option Addr) (n15 c16 : Nat), ∃ x17 : Int, e = .returned (.tuple #[(.int .i64 x6), (.agg #[(.int .i64 x7), (.int .i64 x8), (.int .i64 x9), (.int .i64 x10), (.slice a11 n12 c13), (.slice a14 n15 c16)]), (.int .i64 x17)]) ∧
      ∀ b18, w5.heap.size ≤ b18 →
      ∀ w19, Adv [] [b18] w5 w19 →
      Calls Try.prog 17 #[(.pointer p_5), (.int .i64 x_6), (.int .i64 (IntKind.wrap .i64 (x_7 + (IntKind.wrap .i64 (1 + (bAnd .i64 x4 7))))))] w19 fun e w20 => ∃ x21 : Int, e = .returned (.int .i64 x21) ∧ Keep [b18] w19 w20 ∧
      Calls Try.prog 16 #[(.pointer p_5), (.int .i64 x_6), (.int .i64 (IntKind.wrap .i64 (x_7 + (IntKind.wrap .i64 (1 + (bAnd .i64 x4 7))))))] w20 fun e w22 => ∃ x23 : Int, ∃ x24 : Int, ∃ x25 : Int, ∃ x26 : Int, ∃ x27 : Int, ∃ (a28 : Option Addr) (n29 c30 : Nat), ∃ (a31 : Option Addr) (n32 c33 : Nat), ∃ x34 : Int, e = .returned (.tuple #[(.int .i64 x23), (.agg #[(.int .i64 x24), (.int .i64 x25), (.int .i64 x26), (.int .i64 x27), (.slice a28 n29 c30), (.slice a31 n32 c33)]), (.int .i64 x34)]) ∧ Keep [b18] w20 w22 ∧
      ∀ b35, w22.heap.size ≤ b35 →
      ∀ w36, Adv [] [b35] w22 w36 →
      Calls Try.prog 18 #[(.pointer p_5), (.int .i64 x_6), (.int .i64 (IntKind.wrap .i64 (x_7 + (IntKind.wrap .i64 (1 + (bAnd .i64 x4 7)))))), (.agg #[(.int .i64 0), (.int .i64 (IntKind.wrap .i64 (x_7 + (IntKind.wrap .i64 (1 + (bAnd .i64 x4 7)))))), (.int .i64 0), (.int .i64 0), (.slice none 0 0), (.slice none 0 0)])] w36 fun e w37 => ∃ x38 : Int, e = .returned (.int .i64 x38) ∧ Keep [b18, b35] w36 w37 ∧
      Calls Try.prog 16 #[(.pointer p_5), (.int .i64 x_6), (.int .i64 (IntKind.wrap .i64 (x_7 + (IntKind.wrap .i64 (1 + (bAnd .i64 x4 7))))))] w37 fun e w39 => ∃ x40 : Int, ∃ x41 : Int, ∃ x42 : Int, ∃ x43 : Int, ∃ x44 : Int, ∃ (a45 : Option Addr) (n46 c47 : Nat), ∃ (a48 : Option Addr) (n49 c50 : Nat), ∃ x51 : Int, e = .returned (.tuple #[(.int .i64 x40), (.agg #[(.int .i64 x41), (.int .i64 x42), (.int .i64 x43), (.int .i64 x44), (.slice a45 n46 c47), (.slice a48 n49 c50)]), (.int .i64 x51)]) ∧ Keep [b18, b35] w37 w39 ∧
      ∀ b52, w39.heap.size ≤ b52 →
      ∀ w53, Adv [] [b52] w39 w53 →
      Calls Try.prog 17 #[(.pointer p_5), (.int .i64 x_6), (.int .i64 (IntKind.wrap .i64 (x_7 + (IntKind.wrap .i64 (1 + (bAnd .i64 x4 7))))))] w53 fun e w54 => ∃ x55 : Int, e = .returned (.int .i64 x55) ∧ Keep [b18, b35, b52] w53 w54 ∧
      Calls Try.prog 16 #[(.pointer p_5), (.int .i64 x_6), (.int .i64 (if x_7 > 1 then x_7 else 1))] w54 fun e w56 => ∃ x57 : Int, ∃ x58 : Int, ∃ x59 : Int, ∃ x60 : Int, ∃ x61 : Int, ∃ (a62 : Option Addr) (n63 c64 : Nat), ∃ (a65 : Option Addr) (n66 c67 : Nat), ∃ x68 : Int, e = .returned (.tuple #[(.int .i64 x57), (.agg #[(.int .i64 x58), (.int .i64 x59), (.int .i64 x60), (.int .i64 x61), (.slice a62 n63 c64), (.slice a65 n66 c67)]), (.int .i64 x68)]) ∧ Keep [b18, b35, b52] w54 w56 ∧
      ∀ b69, w56.heap.size ≤ b69 →
      brB (x6 != 0) (
        ∀ w70, Adv [] [b69] w56 w70 →
        R (.bool false) w70)
      (
        brB (x17 != 0) (
          ∀ w71, Adv [] [b69] w56 w71 →
          R (.bool false) w71)
        (
          brB (x21 != 0) (
            ∀ w72, Adv [] [b69] w56 w72 →
            R (.bool false) w72)
          (
            brB (x23 != 2) (
              ∀ w73, Adv [] [b69] w56 w73 →
              R (.bool false) w73)
            (
              brB (x34 != 0) (
                ∀ w74, Adv [] [b69] w56 w74 →
                R (.bool false) w74)
              (
                brB (x38 != 0) (
                  ∀ w75, Adv [] [b69] w56 w75 →
                  R (.bool false) w75)
                (
                  brB (x40 != 1) (
                    ∀ w76, Adv [] [b69] w56 w76 →
                    R (.bool false) w76)
                  (
                    brB (x51 != 0) (
                      ∀ w77, Adv [] [b69] w56 w77 →
                      R (.bool false) w77)
                    (
                      brB (x42 != (IntKind.wrap .i64 (x_7 + (IntKind.wrap .i64 (1 + (bAnd .i64 x4 7)))))) (
                        ∀ w78, Adv [] [b69] w56 w78 →
                        R (.bool false) w78)
                      (
                        brB (x55 != 0) (
                          ∀ w79, Adv [] [b69] w56 w79 →
                          R (.bool false) w79)
                        (
                          brB (decide ((IntKind.wrap .i64 (x_7 + (IntKind.wrap .i64 (1 + (bAnd .i64 x4 7))))) > 1)) (
                            brB (x_7 != (IntKind.wrap .i64 (x_7 + (IntKind.wrap .i64 (1 + (bAnd .i64 x4 7)))))) (
                              brB (!((x68 != 150) == ((if x_7 > 1 then x_7 else 1) == (IntKind.wrap .i64 (x_7 + (IntKind.wrap .i64 (1 + (bAnd .i64 x4 7)))))))) (
                                ∀ w80, Adv [] [b69] w56 w80 →
                                R (.bool false) w80)
                              (
                                ∀ w81, Adv [] [b69] w56 w81 →
                                K1 (law15_ClientsOnce_v1 a_0 n_0 c_0 p_5 x_6 (IntKind.wrap .i64 (x_7 + (IntKind.wrap .i64 (1 + (bAnd .i64 x4 7))))) (IntKind.wrap .i64 (x_8 + 1))) (law15_ClientsOnce_m1) w81))
                            (
                              ∀ w82, Adv [] [b69] w56 w82 →
                              K1 (law15_ClientsOnce_v1 a_0 n_0 c_0 p_5 x_6 (IntKind.wrap .i64 (x_7 + (IntKind.wrap .i64 (1 + (bAnd .i64 x4 7))))) (IntKind.wrap .i64 (x_8 + 1))) (law15_ClientsOnce_m1) w82))
                          (
                            ∀ w83, Adv [] [b69] w56 w83 →
                            K1 (law15_ClientsOnce_v1 a_0 n_0 c_0 p_5 x_6 (IntKind.wrap .i64 (x_7 + (IntKind.wrap .i64 (1 + (bAnd .i64 x4 7))))) (IntKind.wrap .i64 (x_8 + 1))) (law15_ClientsOnce_m1) w83))))))))))))
    (
      Calls Try.prog 13 #[(.pointer p_5)] w fun e w84 => ∃ (a85 : Option Addr) (n86 c87 : Nat), e = .returned (.slice a85 n86 c87) ∧
      brB (decide ((n86 : Int) ≤ 1)) (
        Calls Try.prog 14 #[] w84 fun e w88 => ∃ t89 : Bool, e = .returned (.bool t89) ∧
        R (.bool t89) w88)
      (
        R (.bool false) w84)))
  (
    Calls Try.prog 13 #[(.pointer p_5)] w fun e w90 => ∃ (a91 : Option Addr) (n92 c93 : Nat), e = .returned (.slice a91 n92 c93) ∧
    brB (decide ((n92 : Int) ≤ 1)) (
      Calls Try.prog 14 #[] w90 fun e w94 => ∃ t95 : Bool, e = .returned (.bool t95) ∧
      R (.bool t95) w94)
    (
      R (.bool false) w90))
theorem law15_ClientsOnce_L1_eq (a_0 : Option Addr) (n_0 : Nat) (c_0 : Nat) (p_5 : Option Addr) (x_6 : Int) (x_7 : Int) (x_8 : Int) (K1 : Kh) (js : Nat → Value) (R : Value → World → Prop) (w : World) :
    headA law15_ClientsOnce_la1 ((dnF Try.prog law15_ClientsOnce_an (code Try.f4) 394 [0, 0, 1, 0, 1, 1, 1, 1]) (kthen3 (atA law15_ClientsOnce_la1 K1) (kont3 Try.prog law15_ClientsOnce_an (code Try.f4) [1, 1, 1, 1, 0, 1, 0] [] (post3 Try.prog Try.f4 [] R)))) (law15_ClientsOnce_v1 a_0 n_0 c_0 p_5 x_6 x_7 x_8) js (law15_ClientsOnce_m1) w = law15_ClientsOnce_L1 a_0 n_0 c_0 p_5 x_6 x_7 x_8 K1 R w := by kernel_rfl
def law15_ClientsOnce_K1 (a_0 : Option Addr) (n_0 : Nat) (c_0 : Nat) (p_5 : Option Addr) (x_6 : Int) (I : Nat → Int → Int → World → Prop) (m : Nat) (vals : List Value) (mem : List TB) (w : World) : Prop := ∃ m', m' < m ∧ ∃ x_7 x_8, vals = (law15_ClientsOnce_v1 a_0 n_0 c_0 p_5 x_6 x_7 x_8) ∧ mem = (law15_ClientsOnce_m1) ∧ I m' x_7 x_8 w
theorem law15_ClientsOnce_leaf1 {a_0 : Option Addr} {n_0 : Nat} {c_0 : Nat} {p_5 : Option Addr} {x_6 : Int} {I : Nat → Int → Int → World → Prop} {m : Nat} {x_7 : Int} {x_8 : Int} {w : World} (m' : Nat) (h1 : m' < m) (h2 : I m' x_7 x_8 w) : law15_ClientsOnce_K1 a_0 n_0 c_0 p_5 x_6 I m (law15_ClientsOnce_v1 a_0 n_0 c_0 p_5 x_6 x_7 x_8) (law15_ClientsOnce_m1) w := ⟨m', h1, _, _, rfl, rfl, h2⟩
theorem law15_ClientsOnce_rule1 {a_0 : Option Addr} {n_0 : Nat} {c_0 : Nat} {p_5 : Option Addr} {x_6 : Int} {x_70 : Int} {x_80 : Int} {R : Value → World → Prop} {w0 : World} (I : Nat → Int → Int → World → Prop) (m0 : Nat) (h0 : I m0 x_70 x_80 w0)
    (hr : ∀ (m : Nat) (x_7 : Int) (x_8 : Int) (w : World), I m x_7 x_8 w → law15_ClientsOnce_L1 a_0 n_0 c_0 p_5 x_6 x_7 x_8 (law15_ClientsOnce_K1 a_0 n_0 c_0 p_5 x_6 I m) R w) :
    loopD3 law15_ClientsOnce_la1 (dnF Try.prog law15_ClientsOnce_an (code Try.f4) 394 [0, 0, 1, 0, 1, 1, 1, 1]) (kont3 Try.prog law15_ClientsOnce_an (code Try.f4) [1, 1, 1, 1, 0, 1, 0] [] (post3 Try.prog Try.f4 [] R)) (law15_ClientsOnce_v1 a_0 n_0 c_0 p_5 x_6 x_70 x_80) (law15_ClientsOnce_m1) w0 := by
  refine ⟨fun m vals mem w => ∃ x_7 x_8, vals = (law15_ClientsOnce_v1 a_0 n_0 c_0 p_5 x_6 x_7 x_8) ∧ mem = (law15_ClientsOnce_m1) ∧ I m x_7 x_8 w, m0, ⟨_, _, rfl, rfl, h0⟩, ?_⟩
  rintro m vals mem w ⟨x_7, x_8, rfl, rfl, hI⟩
  refine ⟨rfl, rfl, fun js => ?_⟩
  have h := hr m x_7 x_8 w hI
  rw [← law15_ClientsOnce_L1_eq _ _ _ _ _ _ _ _ js] at h
  exact h
/-- stagecoach/stagecoachlaw15.ClientsOnce -/
def law15_ClientsOnce_T (a0_steps_a : Option Addr) (a0_steps_n : Nat) (a0_steps_c : Nat) (a1_client : Int) (R : Value → World → Prop) (w : World) : Prop :=
  Calls Try.prog 15 #[] w fun e w1 => ∃ p2 : Option Addr, e = .returned (.pointer p2) ∧
  brB (Option.isNone p2) (
    R (.bool false) w1)
  (
    loopD3 law15_ClientsOnce_la1 (dnF Try.prog law15_ClientsOnce_an (code Try.f4) 394 [0, 0, 1, 0, 1, 1, 1, 1]) (kont3 Try.prog law15_ClientsOnce_an (code Try.f4) [1, 1, 1, 1, 0, 1, 0] [] (post3 Try.prog Try.f4 [] R)) (law15_ClientsOnce_v1 a0_steps_a a0_steps_n a0_steps_c p2 (IntKind.wrap .i64 (1 + (bAnd .i64 a1_client 65535))) 0 0) (law15_ClientsOnce_m1) w1)
theorem law15_ClientsOnce_eq (a0_steps_a : Option Addr) (a0_steps_n : Nat) (a0_steps_c : Nat) (a1_client : Int) (R : Value → World → Prop) (w : World) :
    dnF Try.prog law15_ClientsOnce_an (code Try.f4) 400 [] (post3 Try.prog Try.f4 [] R) ⟨args0 0 [(.slice a0_steps_a a0_steps_n a0_steps_c), (.int .i64 a1_client)], fun _ => undef⟩ ⟨[], w, [], [], true⟩ = law15_ClientsOnce_T a0_steps_a a0_steps_n a0_steps_c a1_client R w := by kernel_rfl
theorem law15_ClientsOnce_go {a0_steps_a : Option Addr} {a0_steps_n : Nat} {a0_steps_c : Nat} {a1_client : Int} {R : Value → World → Prop} {w : World} (h : law15_ClientsOnce_T a0_steps_a a0_steps_n a0_steps_c a1_client R w) :
    Calls Try.prog 4 #[(.slice a0_steps_a a0_steps_n a0_steps_c), (.int .i64 a1_client)] w fun e w' => ∃ v, e = .returned v ∧ R v w' :=
  calls_none Try.wide_mixed (f := 4) (args := [(.slice a0_steps_a a0_steps_n a0_steps_c), (.int .i64 a1_client)]) Try.func4 rfl rfl (by kernel_rfl) rfl (Eq.mpr (law15_ClientsOnce_eq a0_steps_a a0_steps_n a0_steps_c a1_client R w) h)
def law15_ClientsFull_la1 : LA := ⟨[0, 0, 1, 0, 1, 1, 1, 1], [5, 6, 7, 8], [], 0, []⟩
def law15_ClientsFull_la2 : LA := ⟨[0, 0, 1, 0, 1, 1, 1, 1, 1, 1, 1, 1], [6, 7, 9, 10], [], 0, []⟩
def law15_ClientsFull_an : List LA := [law15_ClientsFull_la1, law15_ClientsFull_la2]
def law15_ClientsFull_v1 (p_5 : Option Addr) (x_6 : Int) (x_7 : Int) (x_8 : Int) : List Value := [(.pointer p_5), (.int .i64 x_6), (.int .i64 x_7), (.int .i64 x_8)]
def law15_ClientsFull_m1 : List TB := []
def law15_ClientsFull_v2 (x_6 : Int) (x_7 : Int) (a_9 : Option Addr) (n_9 : Nat) (c_9 : Nat) (x_10 : Int) : List Value := [(.int .i64 x_6), (.int .i64 x_7), (.slice a_9 n_9 c_9), (.int .i64 x_10)]
def law15_ClientsFull_m2 : List TB := []
def law15_ClientsFull_L1 (p_5 : Option Addr) (x_6 : Int) (x_7 : Int) (x_8 : Int) (K1 : Kh) (R : Value → World → Prop) (w : World) : Prop :=
  brB (decide (x_8 < 16)) (
    Calls Try.prog 17 #[(.pointer p_5), (.int .i64 (IntKind.wrap .i64 (x_6 + x_8))), (.int .i64 (IntKind.wrap .i64 (x_7 + x_8)))] w fun e w3 => ∃ x4 : Int, e = .returned (.int .i64 x4) ∧
    brB (x4 != 0) (
      R (.bool false) w3)
    (
      K1 (law15_ClientsFull_v1 p_5 x_6 x_7 (IntKind.wrap .i64 (x_8 + 1))) (law15_ClientsFull_m1) w3))
  (
    Calls Try.prog 17 #[(.pointer p_5), (.int .i64 (IntKind.wrap .i64 (x_6 + 16))), (.int .i64 x_7)] w fun e w5 => ∃ x6 : Int, e = .returned (.int .i64 x6) ∧
    brB (x6 != 2) (
      R (.bool false) w5)
    (
      Calls Try.prog 17 #[(.pointer p_5), (.int .i64 x_6), (.int .i64 (IntKind.wrap .i64 (x_7 + 1)))] w5 fun e w7 => ∃ x8 : Int, e = .returned (.int .i64 x8) ∧
      brB (x8 != 0) (
        R (.bool false) w7)
      (
        Calls Try.prog 13 #[(.pointer p_5)] w7 fun e w9 => ∃ (a10 : Option Addr) (n11 c12 : Nat), e = .returned (.slice a10 n11 c12) ∧
        brB ((n11 : Int) != 16) (
          R (.bool false) w9)
        (
          loopD3 law15_ClientsFull_la2 (dnF Try.prog law15_ClientsFull_an (code Try.f5) 390 [0, 0, 1, 0, 1, 1, 1, 1, 1, 1, 1, 1]) (kont3 Try.prog law15_ClientsFull_an (code Try.f5) [1, 1, 1, 1, 1, 1, 1, 1, 0, 1, 0] [] (post3 Try.prog Try.f5 [] R)) (law15_ClientsFull_v2 x_6 x_7 a10 n11 c12 0) (law15_ClientsFull_m2) w9))))
theorem law15_ClientsFull_L1_eq (p_5 : Option Addr) (x_6 : Int) (x_7 : Int) (x_8 : Int) (K1 : Kh) (js : Nat → Value) (R : Value → World → Prop) (w : World) :
    headA law15_ClientsFull_la1 ((dnF Try.prog law15_ClientsFull_an (code Try.f5) 394 [0, 0, 1, 0, 1, 1, 1, 1]) (kthen3 (atA law15_ClientsFull_la1 K1) (kont3 Try.prog law15_ClientsFull_an (code Try.f5) [1, 1, 1, 1, 0, 1, 0] [] (post3 Try.prog Try.f5 [] R)))) (law15_ClientsFull_v1 p_5 x_6 x_7 x_8) js (law15_ClientsFull_m1) w = law15_ClientsFull_L1 p_5 x_6 x_7 x_8 K1 R w := by kernel_rfl
def law15_ClientsFull_K1 (p_5 : Option Addr) (x_6 : Int) (x_7 : Int) (I : Nat → Int → World → Prop) (m : Nat) (vals : List Value) (mem : List TB) (w : World) : Prop := ∃ m', m' < m ∧ ∃ x_8, vals = (law15_ClientsFull_v1 p_5 x_6 x_7 x_8) ∧ mem = (law15_ClientsFull_m1) ∧ I m' x_8 w
theorem law15_ClientsFull_leaf1 {p_5 : Option Addr} {x_6 : Int} {x_7 : Int} {I : Nat → Int → World → Prop} {m : Nat} {x_8 : Int} {w : World} (m' : Nat) (h1 : m' < m) (h2 : I m' x_8 w) : law15_ClientsFull_K1 p_5 x_6 x_7 I m (law15_ClientsFull_v1 p_5 x_6 x_7 x_8) (law15_ClientsFull_m1) w := ⟨m', h1, _, rfl, rfl, h2⟩
theorem law15_ClientsFull_rule1 {p_5 : Option Addr} {x_6 : Int} {x_7 : Int} {x_80 : Int} {R : Value → World → Prop} {w0 : World} (I : Nat → Int → World → Prop) (m0 : Nat) (h0 : I m0 x_80 w0)
    (hr : ∀ (m : Nat) (x_8 : Int) (w : World), I m x_8 w → law15_ClientsFull_L1 p_5 x_6 x_7 x_8 (law15_ClientsFull_K1 p_5 x_6 x_7 I m) R w) :
    loopD3 law15_ClientsFull_la1 (dnF Try.prog law15_ClientsFull_an (code Try.f5) 394 [0, 0, 1, 0, 1, 1, 1, 1]) (kont3 Try.prog law15_ClientsFull_an (code Try.f5) [1, 1, 1, 1, 0, 1, 0] [] (post3 Try.prog Try.f5 [] R)) (law15_ClientsFull_v1 p_5 x_6 x_7 x_80) (law15_ClientsFull_m1) w0 := by
  refine ⟨fun m vals mem w => ∃ x_8, vals = (law15_ClientsFull_v1 p_5 x_6 x_7 x_8) ∧ mem = (law15_ClientsFull_m1) ∧ I m x_8 w, m0, ⟨_, rfl, rfl, h0⟩, ?_⟩
  rintro m vals mem w ⟨x_8, rfl, rfl, hI⟩
  refine ⟨rfl, rfl, fun js => ?_⟩
  have h := hr m x_8 w hI
  rw [← law15_ClientsFull_L1_eq _ _ _ _ _ js] at h
  exact h
def law15_ClientsFull_L2 (x_6 : Int) (x_7 : Int) (a_9 : Option Addr) (n_9 : Nat) (c_9 : Nat) (x_10 : Int) (K2 : Kh) (R : Value → World → Prop) (w : World) : Prop :=
  brB (decide (x_10 < 16)) (
    brB (x_10 == 0) (
      ixA a_9 n_9 x_10 9 fun q13 =>
      ldInt .i64 w q13 fun x14 =>
      brB (x14 != (IntKind.wrap .i64 (x_6 + x_10))) (
        R (.bool false) w)
      (
        ixA a_9 n_9 x_10 9 fun q15 =>
        ldInt .i64 w (Addr.add q15 1) fun x16 =>
        brB (x16 != (IntKind.wrap .i64 (x_7 + 1))) (
          R (.bool false) w)
        (
          ixA a_9 n_9 x_10 9 fun q17 =>
          ldBool w (Addr.add q17 2) fun t18 =>
          brB t18 (
            R (.bool false) w)
          (
            K2 (law15_ClientsFull_v2 x_6 x_7 a_9 n_9 c_9 (IntKind.wrap .i64 (x_10 + 1))) (law15_ClientsFull_m2) w))))
    (
      ixA a_9 n_9 x_10 9 fun q19 =>
      ldInt .i64 w q19 fun x20 =>
      brB (x20 != (IntKind.wrap .i64 (x_6 + x_10))) (
        R (.bool false) w)
      (
        ixA a_9 n_9 x_10 9 fun q21 =>
        ldInt .i64 w (Addr.add q21 1) fun x22 =>
        brB (x22 != (IntKind.wrap .i64 (x_7 + x_10))) (
          R (.bool false) w)
        (
          ixA a_9 n_9 x_10 9 fun q23 =>
          ldBool w (Addr.add q23 2) fun t24 =>
          brB t24 (
            R (.bool false) w)
          (
            K2 (law15_ClientsFull_v2 x_6 x_7 a_9 n_9 c_9 (IntKind.wrap .i64 (x_10 + 1))) (law15_ClientsFull_m2) w)))))
  (
    Calls Try.prog 14 #[] w fun e w25 => ∃ t26 : Bool, e = .returned (.bool t26) ∧
    R (.bool t26) w25)
theorem law15_ClientsFull_L2_eq (x_6 : Int) (x_7 : Int) (a_9 : Option Addr) (n_9 : Nat) (c_9 : Nat) (x_10 : Int) (K2 : Kh) (js : Nat → Value) (R : Value → World → Prop) (w : World) :
    headA law15_ClientsFull_la2 ((dnF Try.prog law15_ClientsFull_an (code Try.f5) 390 [0, 0, 1, 0, 1, 1, 1, 1, 1, 1, 1, 1]) (kthen3 (atA law15_ClientsFull_la2 K2) (kont3 Try.prog law15_ClientsFull_an (code Try.f5) [1, 1, 1, 1, 1, 1, 1, 1, 0, 1, 0] [] (post3 Try.prog Try.f5 [] R)))) (law15_ClientsFull_v2 x_6 x_7 a_9 n_9 c_9 x_10) js (law15_ClientsFull_m2) w = law15_ClientsFull_L2 x_6 x_7 a_9 n_9 c_9 x_10 K2 R w := by kernel_rfl
def law15_ClientsFull_K2 (x_6 : Int) (x_7 : Int) (a_9 : Option Addr) (n_9 : Nat) (c_9 : Nat) (I : Nat → Int → World → Prop) (m : Nat) (vals : List Value) (mem : List TB) (w : World) : Prop := ∃ m', m' < m ∧ ∃ x_10, vals = (law15_ClientsFull_v2 x_6 x_7 a_9 n_9 c_9 x_10) ∧ mem = (law15_ClientsFull_m2) ∧ I m' x_10 w
theorem law15_ClientsFull_leaf2 {x_6 : Int} {x_7 : Int} {a_9 : Option Addr} {n_9 : Nat} {c_9 : Nat} {I : Nat → Int → World → Prop} {m : Nat} {x_10 : Int} {w : World} (m' : Nat) (h1 : m' < m) (h2 : I m' x_10 w) : law15_ClientsFull_K2 x_6 x_7 a_9 n_9 c_9 I m (law15_ClientsFull_v2 x_6 x_7 a_9 n_9 c_9 x_10) (law15_ClientsFull_m2) w := ⟨m', h1, _, rfl, rfl, h2⟩
theorem law15_ClientsFull_rule2 {x_6 : Int} {x_7 : Int} {a_9 : Option Addr} {n_9 : Nat} {c_9 : Nat} {x_100 : Int} {R : Value → World → Prop} {w0 : World} (I : Nat → Int → World → Prop) (m0 : Nat) (h0 : I m0 x_100 w0)
    (hr : ∀ (m : Nat) (x_10 : Int) (w : World), I m x_10 w → law15_ClientsFull_L2 x_6 x_7 a_9 n_9 c_9 x_10 (law15_ClientsFull_K2 x_6 x_7 a_9 n_9 c_9 I m) R w) :
    loopD3 law15_ClientsFull_la2 (dnF Try.prog law15_ClientsFull_an (code Try.f5) 390 [0, 0, 1, 0, 1, 1, 1, 1, 1, 1, 1, 1]) (kont3 Try.prog law15_ClientsFull_an (code Try.f5) [1, 1, 1, 1, 1, 1, 1, 1, 0, 1, 0] [] (post3 Try.prog Try.f5 [] R)) (law15_ClientsFull_v2 x_6 x_7 a_9 n_9 c_9 x_100) (law15_ClientsFull_m2) w0 := by
  refine ⟨fun m vals mem w => ∃ x_10, vals = (law15_ClientsFull_v2 x_6 x_7 a_9 n_9 c_9 x_10) ∧ mem = (law15_ClientsFull_m2) ∧ I m x_10 w, m0, ⟨_, rfl, rfl, h0⟩, ?_⟩
  rintro m vals mem w ⟨x_10, rfl, rfl, hI⟩
  refine ⟨rfl, rfl, fun js => ?_⟩
  have h := hr m x_10 w hI
  rw [← law15_ClientsFull_L2_eq _ _ _ _ _ _ _ js] at h
  exact h
/-- stagecoach/stagecoachlaw15.ClientsFull -/
def law15_ClientsFull_T (a0_first : Int) (a1_n : Int) (R : Value → World → Prop) (w : World) : Prop :=
  Calls Try.prog 15 #[] w fun e w1 => ∃ p2 : Option Addr, e = .returned (.pointer p2) ∧
  brB (Option.isNone p2) (
    R (.bool false) w1)
  (
    loopD3 law15_ClientsFull_la1 (dnF Try.prog law15_ClientsFull_an (code Try.f5) 394 [0, 0, 1, 0, 1, 1, 1, 1]) (kont3 Try.prog law15_ClientsFull_an (code Try.f5) [1, 1, 1, 1, 0, 1, 0] [] (post3 Try.prog Try.f5 [] R)) (law15_ClientsFull_v1 p2 (IntKind.wrap .i64 (1 + (bAnd .i64 a0_first 65535))) (IntKind.wrap .i64 (1 + (bAnd .i64 a1_n 65535))) 0) (law15_ClientsFull_m1) w1)
theorem law15_ClientsFull_eq (a0_first : Int) (a1_n : Int) (R : Value → World → Prop) (w : World) :
    dnF Try.prog law15_ClientsFull_an (code Try.f5) 400 [] (post3 Try.prog Try.f5 [] R) ⟨args0 0 [(.int .i64 a0_first), (.int .i64 a1_n)], fun _ => undef⟩ ⟨[], w, [], [], true⟩ = law15_ClientsFull_T a0_first a1_n R w := by kernel_rfl
theorem law15_ClientsFull_go {a0_first : Int} {a1_n : Int} {R : Value → World → Prop} {w : World} (h : law15_ClientsFull_T a0_first a1_n R w) :
    Calls Try.prog 5 #[(.int .i64 a0_first), (.int .i64 a1_n)] w fun e w' => ∃ v, e = .returned v ∧ R v w' :=
  calls_none Try.wide_mixed (f := 5) (args := [(.int .i64 a0_first), (.int .i64 a1_n)]) Try.func5 rfl rfl (by kernel_rfl) rfl (Eq.mpr (law15_ClientsFull_eq a0_first a1_n R w) h)
def law15_ClientsApart_la1 : LA := ⟨[0, 0, 1, 0, 1, 1, 1, 1, 1], [0, 5, 6, 7], [], 0, []⟩
def law15_ClientsApart_an : List LA := [law15_ClientsApart_la1]
def law15_ClientsApart_v1 (a_0 : Option Addr) (n_0 : Nat) (c_0 : Nat) (p_5 : Option Addr) (x_6 : Int) (x_7 : Int) : List Value := [(.slice a_0 n_0 c_0), (.pointer p_5), (.int .i64 x_6), (.int .i64 x_7)]
def law15_ClientsApart_m1 : List TB := []
def law15_ClientsApart_L1 (a_0 : Option Addr) (n_0 : Nat) (c_0 : Nat) (p_5 : Option Addr) (x_6 : Int) (x_7 : Int) (K1 : Kh) (R : Value → World → Prop) (w : World) : Prop :=
  brB (decide (x_7 < (n_0 : Int))) (
    brB (decide (x_7 < 60)) (
      ixA a_0 n_0 x_7 9 fun q7 =>
      ldInt .i64 w q7 fun x8 => ldInt .i64 w (Addr.add q7 1) fun x9 => ldInt .i64 w (Addr.add q7 2) fun x10 => ldInt .i64 w (Addr.add q7 3) fun x11 => ldInt .i64 w (Addr.add q7 4) fun x12 => ldInt .i64 w (Addr.add q7 5) fun x13 => ldInt .i64 w (Addr.add q7 6) fun x14 => ldSlice w (Addr.add q7 7) fun a15 n16 c17 => ldSlice w (Addr.add q7 8) fun a18 n19 c20 =>
      ∀ b21, w.heap.size ≤ b21 →
      brB (x9 == x_6) (
        ∀ w22, Adv [] [b21] w w22 →
        K1 (law15_ClientsApart_v1 a_0 n_0 c_0 p_5 x_6 (IntKind.wrap .i64 (x_7 + 1))) (law15_ClientsApart_m1) w22)
      (
        brB (x8 == 1) (
          ∀ w23, Adv [] [b21] w w23 →
          Calls Try.prog 18 #[(.pointer p_5), (.int .i64 x9), (.int .i64 x10), (.agg #[(.int .i64 0), (.int .i64 0), (.int .i64 1), (.int .i64 0), (.slice none 0 0), (.slice none 0 0)])] w23 fun e w24 => ∃ x25 : Int, e = .returned (.int .i64 x25) ∧ Keep [b21] w23 w24 ∧
          K1 (law15_ClientsApart_v1 a_0 n_0 c_0 p_5 x_6 (IntKind.wrap .i64 (x_7 + 1))) (law15_ClientsApart_m1) w24)
        (
          ∀ w26, Adv [] [b21] w w26 →
          Calls Try.prog 17 #[(.pointer p_5), (.int .i64 x9), (.int .i64 x10)] w26 fun e w27 => ∃ x28 : Int, e = .returned (.int .i64 x28) ∧ Keep [b21] w26 w27 ∧
          K1 (law15_ClientsApart_v1 a_0 n_0 c_0 p_5 x_6 (IntKind.wrap .i64 (x_7 + 1))) (law15_ClientsApart_m1) w27)))
    (
      Calls Try.prog 16 #[(.pointer p_5), (.int .i64 x_6), (.int .i64 5)] w fun e w29 => ∃ x30 : Int, ∃ x31 : Int, ∃ x32 : Int, ∃ x33 : Int, ∃ x34 : Int, ∃ (a35 : Option Addr) (n36 c37 : Nat), ∃ (a38 : Option Addr) (n39 c40 : Nat), ∃ x41 : Int, e = .returned (.tuple #[(.int .i64 x30), (.agg #[(.int .i64 x31), (.int .i64 x32), (.int .i64 x33), (.int .i64 x34), (.slice a35 n36 c37), (.slice a38 n39 c40)]), (.int .i64 x41)]) ∧
      ∀ b42, w29.heap.size ≤ b42 →
      ∀ w43, Adv [] [b42] w29 w43 →
      Calls Try.prog 16 #[(.pointer p_5), (.int .i64 x_6), (.int .i64 6)] w43 fun e w44 => ∃ x45 : Int, ∃ x46 : Int, ∃ x47 : Int, ∃ x48 : Int, ∃ x49 : Int, ∃ (a50 : Option Addr) (n51 c52 : Nat), ∃ (a53 : Option Addr) (n54 c55 : Nat), ∃ x56 : Int, e = .returned (.tuple #[(.int .i64 x45), (.agg #[(.int .i64 x46), (.int .i64 x47), (.int .i64 x48), (.int .i64 x49), (.slice a50 n51 c52), (.slice a53 n54 c55)]), (.int .i64 x56)]) ∧ Keep [b42] w43 w44 ∧
      ∀ b57, w44.heap.size ≤ b57 →
      brB (x30 == 1) (
        brB (x41 == 0) (
          ∀ w58, Adv [] [b57] w44 w58 →
          Calls Try.prog 19 #[(.agg #[(.int .i64 x31), (.int .i64 x32), (.int .i64 x33), (.int .i64 x34), (.slice a35 n36 c37), (.slice a38 n39 c40)]), (.agg #[(.int .i64 0), (.int .i64 7), (.int .i64 0), (.int .i64 0), (.slice none 0 0), (.slice none 0 0)])] w58 fun e w59 => ∃ t60 : Bool, e = .returned (.bool t60) ∧ Keep [b42, b57] w58 w59 ∧
          brB t60 (
            brB (x45 == 0) (
              brB (x56 == 0) (
                Calls Try.prog 14 #[] w59 fun e w61 => ∃ t62 : Bool, e = .returned (.bool t62) ∧ Keep [b42, b57] w59 w61 ∧
                R (.bool t62) w61)
              (
                R (.bool false) w59))
            (
              R (.bool false) w59))
          (
            R (.bool false) w59))
        (
          ∀ w63, Adv [] [b57] w44 w63 →
          R (.bool false) w63))
      (
        ∀ w64, Adv [] [b57] w44 w64 →
        R (.bool false) w64)))
  (
    Calls Try.prog 16 #[(.pointer p_5), (.int .i64 x_6), (.int .i64 5)] w fun e w65 => ∃ x66 : Int, ∃ x67 : Int, ∃ x68 : Int, ∃ x69 : Int, ∃ x70 : Int, ∃ (a71 : Option Addr) (n72 c73 : Nat), ∃ (a74 : Option Addr) (n75 c76 : Nat), ∃ x77 : Int, e = .returned (.tuple #[(.int .i64 x66), (.agg #[(.int .i64 x67), (.int .i64 x68), (.int .i64 x69), (.int .i64 x70), (.slice a71 n72 c73), (.slice a74 n75 c76)]), (.int .i64 x77)]) ∧
    ∀ b78, w65.heap.size ≤ b78 →
    ∀ w79, Adv [] [b78] w65 w79 →
    Calls Try.prog 16 #[(.pointer p_5), (.int .i64 x_6), (.int .i64 6)] w79 fun e w80 => ∃ x81 : Int, ∃ x82 : Int, ∃ x83 : Int, ∃ x84 : Int, ∃ x85 : Int, ∃ (a86 : Option Addr) (n87 c88 : Nat), ∃ (a89 : Option Addr) (n90 c91 : Nat), ∃ x92 : Int, e = .returned (.tuple #[(.int .i64 x81), (.agg #[(.int .i64 x82), (.int .i64 x83), (.int .i64 x84), (.int .i64 x85), (.slice a86 n87 c88), (.slice a89 n90 c91)]), (.int .i64 x92)]) ∧ Keep [b78] w79 w80 ∧
    ∀ b93, w80.heap.size ≤ b93 →
    brB (x66 == 1) (
      brB (x77 == 0) (
        ∀ w94, Adv [] [b93] w80 w94 →
        Calls Try.prog 19 #[(.agg #[(.int .i64 x67), (.int .i64 x68), (.int .i64 x69), (.int .i64 x70), (.slice a71 n72 c73), (.slice a74 n75 c76)]), (.agg #[(.int .i64 0), (.int .i64 7), (.int .i64 0), (.int .i64 0), (.slice none 0 0), (.slice none 0 0)])] w94 fun e w95 => ∃ t96 : Bool, e = .returned (.bool t96) ∧ Keep [b78, b93] w94 w95 ∧
        brB t96 (
          brB (x81 == 0) (
            brB (x92 == 0) (
              Calls Try.prog 14 #[] w95 fun e w97 => ∃ t98 : Bool, e = .returned (.bool t98) ∧ Keep [b78, b93] w95 w97 ∧
              R (.bool t98) w97)
            (
              R (.bool false) w95))
          (
            R (.bool false) w95))
        (
          R (.bool false) w95))
      (
        ∀ w99, Adv [] [b93] w80 w99 →
        R (.bool false) w99))
    (
      ∀ w100, Adv [] [b93] w80 w100 →
      R (.bool false) w100))
theorem law15_ClientsApart_L1_eq (a_0 : Option Addr) (n_0 : Nat) (c_0 : Nat) (p_5 : Option Addr) (x_6 : Int) (x_7 : Int) (K1 : Kh) (js : Nat → Value) (R : Value → World → Prop) (w : World) :
    headA law15_ClientsApart_la1 ((dnF Try.prog law15_ClientsApart_an (code Try.f6) 393 [0, 0, 1, 0, 1, 1, 1, 1, 1]) (kthen3 (atA law15_ClientsApart_la1 K1) (kont3 Try.prog law15_ClientsApart_an (code Try.f6) [1, 1, 1, 1, 1, 0, 1, 0] [] (post3 Try.prog Try.f6 [] R)))) (law15_ClientsApart_v1 a_0 n_0 c_0 p_5 x_6 x_7) js (law15_ClientsApart_m1) w = law15_ClientsApart_L1 a_0 n_0 c_0 p_5 x_6 x_7 K1 R w := by kernel_rfl
def law15_ClientsApart_K1 (a_0 : Option Addr) (n_0 : Nat) (c_0 : Nat) (p_5 : Option Addr) (x_6 : Int) (I : Nat → Int → World → Prop) (m : Nat) (vals : List Value) (mem : List TB) (w : World) : Prop := ∃ m', m' < m ∧ ∃ x_7, vals = (law15_ClientsApart_v1 a_0 n_0 c_0 p_5 x_6 x_7) ∧ mem = (law15_ClientsApart_m1) ∧ I m' x_7 w
theorem law15_ClientsApart_leaf1 {a_0 : Option Addr} {n_0 : Nat} {c_0 : Nat} {p_5 : Option Addr} {x_6 : Int} {I : Nat → Int → World → Prop} {m : Nat} {x_7 : Int} {w : World} (m' : Nat) (h1 : m' < m) (h2 : I m' x_7 w) : law15_ClientsApart_K1 a_0 n_0 c_0 p_5 x_6 I m (law15_ClientsApart_v1 a_0 n_0 c_0 p_5 x_6 x_7) (law15_ClientsApart_m1) w := ⟨m', h1, _, rfl, rfl, h2⟩
theorem law15_ClientsApart_rule1 {a_0 : Option Addr} {n_0 : Nat} {c_0 : Nat} {p_5 : Option Addr} {x_6 : Int} {x_70 : Int} {R : Value → World → Prop} {w0 : World} (I : Nat → Int → World → Prop) (m0 : Nat) (h0 : I m0 x_70 w0)
    (hr : ∀ (m : Nat) (x_7 : Int) (w : World), I m x_7 w → law15_ClientsApart_L1 a_0 n_0 c_0 p_5 x_6 x_7 (law15_ClientsApart_K1 a_0 n_0 c_0 p_5 x_6 I m) R w) :
    loopD3 law15_ClientsApart_la1 (dnF Try.prog law15_ClientsApart_an (code Try.f6) 393 [0, 0, 1, 0, 1, 1, 1, 1, 1]) (kont3 Try.prog law15_ClientsApart_an (code Try.f6) [1, 1, 1, 1, 1, 0, 1, 0] [] (post3 Try.prog Try.f6 [] R)) (law15_ClientsApart_v1 a_0 n_0 c_0 p_5 x_6 x_70) (law15_ClientsApart_m1) w0 := by
  refine ⟨fun m vals mem w => ∃ x_7, vals = (law15_ClientsApart_v1 a_0 n_0 c_0 p_5 x_6 x_7) ∧ mem = (law15_ClientsApart_m1) ∧ I m x_7 w, m0, ⟨_, rfl, rfl, h0⟩, ?_⟩
  rintro m vals mem w ⟨x_7, rfl, rfl, hI⟩
  refine ⟨rfl, rfl, fun js => ?_⟩
  have h := hr m x_7 w hI
  rw [← law15_ClientsApart_L1_eq _ _ _ _ _ _ _ js] at h
  exact h
/-- stagecoach/stagecoachlaw15.ClientsApart -/
def law15_ClientsApart_T (a0_script_a : Option Addr) (a0_script_n : Nat) (a0_script_c : Nat) (a1_client : Int) (R : Value → World → Prop) (w : World) : Prop :=
  Calls Try.prog 15 #[] w fun e w1 => ∃ p2 : Option Addr, e = .returned (.pointer p2) ∧
  brB (Option.isNone p2) (
    R (.bool false) w1)
  (
    Calls Try.prog 17 #[(.pointer p2), (.int .i64 (IntKind.wrap .i64 (1 + (bAnd .i64 a1_client 3)))), (.int .i64 5)] w1 fun e w3 => ∃ x4 : Int, e = .returned (.int .i64 x4) ∧
    Calls Try.prog 18 #[(.pointer p2), (.int .i64 (IntKind.wrap .i64 (1 + (bAnd .i64 a1_client 3)))), (.int .i64 5), (.agg #[(.int .i64 0), (.int .i64 7), (.int .i64 0), (.int .i64 0), (.slice none 0 0), (.slice none 0 0)])] w3 fun e w5 => ∃ x6 : Int, e = .returned (.int .i64 x6) ∧
    loopD3 law15_ClientsApart_la1 (dnF Try.prog law15_ClientsApart_an (code Try.f6) 393 [0, 0, 1, 0, 1, 1, 1, 1, 1]) (kont3 Try.prog law15_ClientsApart_an (code Try.f6) [1, 1, 1, 1, 1, 0, 1, 0] [] (post3 Try.prog Try.f6 [] R)) (law15_ClientsApart_v1 a0_script_a a0_script_n a0_script_c p2 (IntKind.wrap .i64 (1 + (bAnd .i64 a1_client 3))) 0) (law15_ClientsApart_m1) w5)
theorem law15_ClientsApart_eq (a0_script_a : Option Addr) (a0_script_n : Nat) (a0_script_c : Nat) (a1_client : Int) (R : Value → World → Prop) (w : World) :
    dnF Try.prog law15_ClientsApart_an (code Try.f6) 400 [] (post3 Try.prog Try.f6 [] R) ⟨args0 0 [(.slice a0_script_a a0_script_n a0_script_c), (.int .i64 a1_client)], fun _ => undef⟩ ⟨[], w, [], [], true⟩ = law15_ClientsApart_T a0_script_a a0_script_n a0_script_c a1_client R w := by kernel_rfl
theorem law15_ClientsApart_go {a0_script_a : Option Addr} {a0_script_n : Nat} {a0_script_c : Nat} {a1_client : Int} {R : Value → World → Prop} {w : World} (h : law15_ClientsApart_T a0_script_a a0_script_n a0_script_c a1_client R w) :
    Calls Try.prog 6 #[(.slice a0_script_a a0_script_n a0_script_c), (.int .i64 a1_client)] w fun e w' => ∃ v, e = .returned v ∧ R v w' :=
  calls_none Try.wide_mixed (f := 6) (args := [(.slice a0_script_a a0_script_n a0_script_c), (.int .i64 a1_client)]) Try.func6 rfl rfl (by kernel_rfl) rfl (Eq.mpr (law15_ClientsApart_eq a0_script_a a0_script_n a0_script_c a1_client R w) h)
def law15_ClientsTold_la1 : LA := ⟨[0, 0, 1, 0, 1, 1, 1], [0, 3, 4], [], 0, []⟩
def law15_ClientsTold_la2 : LA := ⟨[0, 0, 1, 0, 1, 1, 1, 1, 1], [7, 8], [], 0, []⟩
def law15_ClientsTold_an : List LA := [law15_ClientsTold_la1, law15_ClientsTold_la2]
def law15_ClientsTold_v1 (a_0 : Option Addr) (n_0 : Nat) (c_0 : Nat) (p_3 : Option Addr) (x_4 : Int) : List Value := [(.slice a_0 n_0 c_0), (.pointer p_3), (.int .i64 x_4)]
def law15_ClientsTold_m1 : List TB := []
def law15_ClientsTold_v2 (a_7 : Option Addr) (n_7 : Nat) (c_7 : Nat) (x_8 : Int) : List Value := [(.slice a_7 n_7 c_7), (.int .i64 x_8)]
def law15_ClientsTold_m2 : List TB := []
def law15_ClientsTold_L1 (a_0 : Option Addr) (n_0 : Nat) (c_0 : Nat) (p_3 : Option Addr) (x_4 : Int) (K1 : Kh) (R : Value → World → Prop) (w : World) : Prop :=
  brB (decide (x_4 < (n_0 : Int))) (
    brB (decide (x_4 < 60)) (
      ixA a_0 n_0 x_4 9 fun q3 =>
      ldInt .i64 w q3 fun x4 => ldInt .i64 w (Addr.add q3 1) fun x5 => ldInt .i64 w (Addr.add q3 2) fun x6 => ldInt .i64 w (Addr.add q3 3) fun x7 => ldInt .i64 w (Addr.add q3 4) fun x8 => ldInt .i64 w (Addr.add q3 5) fun x9 => ldInt .i64 w (Addr.add q3 6) fun x10 => ldSlice w (Addr.add q3 7) fun a11 n12 c13 => ldSlice w (Addr.add q3 8) fun a14 n15 c16 =>
      ∀ b17, w.heap.size ≤ b17 →
      brB (x4 == 1) (
        ∀ w18, Adv [] [b17] w w18 →
        Calls Try.prog 18 #[(.pointer p_3), (.int .i64 x5), (.int .i64 x6), (.agg #[(.int .i64 0), (.int .i64 3), (.int .i64 0), (.int .i64 0), (.slice none 0 0), (.slice none 0 0)])] w18 fun e w19 => ∃ x20 : Int, e = .returned (.int .i64 x20) ∧ Keep [b17] w18 w19 ∧
        Calls Try.prog 13 #[(.pointer p_3)] w19 fun e w21 => ∃ (a22 : Option Addr) (n23 c24 : Nat), e = .returned (.slice a22 n23 c24) ∧ Keep [b17] w19 w21 ∧
        Calls Try.prog 16 #[(.pointer p_3), (.int .i64 x5), (.int .i64 x6)] w21 fun e w25 => ∃ x26 : Int, ∃ x27 : Int, ∃ x28 : Int, ∃ x29 : Int, ∃ x30 : Int, ∃ (a31 : Option Addr) (n32 c33 : Nat), ∃ (a34 : Option Addr) (n35 c36 : Nat), ∃ x37 : Int, e = .returned (.tuple #[(.int .i64 x26), (.agg #[(.int .i64 x27), (.int .i64 x28), (.int .i64 x29), (.int .i64 x30), (.slice a31 n32 c33), (.slice a34 n35 c36)]), (.int .i64 x37)]) ∧ Keep [b17] w21 w25 ∧
        Calls Try.prog 13 #[(.pointer p_3)] w25 fun e w38 => ∃ (a39 : Option Addr) (n40 c41 : Nat), e = .returned (.slice a39 n40 c41) ∧ Keep [b17] w25 w38 ∧
        Calls Try.prog 12 #[(.slice a39 n40 c41), (.slice a22 n23 c24)] w38 fun e w42 => ∃ t43 : Bool, e = .returned (.bool t43) ∧ Keep [b17] w38 w42 ∧
        brB (!t43) (
          R (.bool false) w42)
        (
          K1 (law15_ClientsTold_v1 a_0 n_0 c_0 p_3 (IntKind.wrap .i64 (x_4 + 1))) (law15_ClientsTold_m1) w42))
      (
        ∀ w44, Adv [] [b17] w w44 →
        Calls Try.prog 17 #[(.pointer p_3), (.int .i64 x5), (.int .i64 x6)] w44 fun e w45 => ∃ x46 : Int, e = .returned (.int .i64 x46) ∧ Keep [b17] w44 w45 ∧
        Calls Try.prog 13 #[(.pointer p_3)] w45 fun e w47 => ∃ (a48 : Option Addr) (n49 c50 : Nat), e = .returned (.slice a48 n49 c50) ∧ Keep [b17] w45 w47 ∧
        Calls Try.prog 16 #[(.pointer p_3), (.int .i64 x5), (.int .i64 x6)] w47 fun e w51 => ∃ x52 : Int, ∃ x53 : Int, ∃ x54 : Int, ∃ x55 : Int, ∃ x56 : Int, ∃ (a57 : Option Addr) (n58 c59 : Nat), ∃ (a60 : Option Addr) (n61 c62 : Nat), ∃ x63 : Int, e = .returned (.tuple #[(.int .i64 x52), (.agg #[(.int .i64 x53), (.int .i64 x54), (.int .i64 x55), (.int .i64 x56), (.slice a57 n58 c59), (.slice a60 n61 c62)]), (.int .i64 x63)]) ∧ Keep [b17] w47 w51 ∧
        Calls Try.prog 13 #[(.pointer p_3)] w51 fun e w64 => ∃ (a65 : Option Addr) (n66 c67 : Nat), e = .returned (.slice a65 n66 c67) ∧ Keep [b17] w51 w64 ∧
        Calls Try.prog 12 #[(.slice a65 n66 c67), (.slice a48 n49 c50)] w64 fun e w68 => ∃ t69 : Bool, e = .returned (.bool t69) ∧ Keep [b17] w64 w68 ∧
        brB (!t69) (
          R (.bool false) w68)
        (
          K1 (law15_ClientsTold_v1 a_0 n_0 c_0 p_3 (IntKind.wrap .i64 (x_4 + 1))) (law15_ClientsTold_m1) w68)))
    (
      Calls Try.prog 13 #[(.pointer p_3)] w fun e w70 => ∃ (a71 : Option Addr) (n72 c73 : Nat), e = .returned (.slice a71 n72 c73) ∧
      loopD3 law15_ClientsTold_la2 (dnF Try.prog law15_ClientsTold_an (code Try.f7) 393 [0, 0, 1, 0, 1, 1, 1, 1, 1]) (kont3 Try.prog law15_ClientsTold_an (code Try.f7) [1, 1, 1, 1, 1, 0, 1, 0] [] (post3 Try.prog Try.f7 [] R)) (law15_ClientsTold_v2 a71 n72 c73 1) (law15_ClientsTold_m2) w70))
  (
    Calls Try.prog 13 #[(.pointer p_3)] w fun e w91 => ∃ (a92 : Option Addr) (n93 c94 : Nat), e = .returned (.slice a92 n93 c94) ∧
    loopD3 law15_ClientsTold_la2 (dnF Try.prog law15_ClientsTold_an (code Try.f7) 393 [0, 0, 1, 0, 1, 1, 1, 1, 1]) (kont3 Try.prog law15_ClientsTold_an (code Try.f7) [1, 1, 1, 1, 1, 0, 1, 0] [] (post3 Try.prog Try.f7 [] R)) (law15_ClientsTold_v2 a92 n93 c94 1) (law15_ClientsTold_m2) w91)
theorem law15_ClientsTold_L1_eq (a_0 : Option Addr) (n_0 : Nat) (c_0 : Nat) (p_3 : Option Addr) (x_4 : Int) (K1 : Kh) (js : Nat → Value) (R : Value → World → Prop) (w : World) :
    headA law15_ClientsTold_la1 ((dnF Try.prog law15_ClientsTold_an (code Try.f7) 395 [0, 0, 1, 0, 1, 1, 1]) (kthen3 (atA law15_ClientsTold_la1 K1) (kont3 Try.prog law15_ClientsTold_an (code Try.f7) [1, 1, 1, 0, 1, 0] [] (post3 Try.prog Try.f7 [] R)))) (law15_ClientsTold_v1 a_0 n_0 c_0 p_3 x_4) js (law15_ClientsTold_m1) w = law15_ClientsTold_L1 a_0 n_0 c_0 p_3 x_4 K1 R w := by kernel_rfl
def law15_ClientsTold_K1 (a_0 : Option Addr) (n_0 : Nat) (c_0 : Nat) (p_3 : Option Addr) (I : Nat → Int → World → Prop) (m : Nat) (vals : List Value) (mem : List TB) (w : World) : Prop := ∃ m', m' < m ∧ ∃ x_4, vals = (law15_ClientsTold_v1 a_0 n_0 c_0 p_3 x_4) ∧ mem = (law15_ClientsTold_m1) ∧ I m' x_4 w
theorem law15_ClientsTold_leaf1 {a_0 : Option Addr} {n_0 : Nat} {c_0 : Nat} {p_3 : Option Addr} {I : Nat → Int → World → Prop} {m : Nat} {x_4 : Int} {w : World} (m' : Nat) (h1 : m' < m) (h2 : I m' x_4 w) : law15_ClientsTold_K1 a_0 n_0 c_0 p_3 I m (law15_ClientsTold_v1 a_0 n_0 c_0 p_3 x_4) (law15_ClientsTold_m1) w := ⟨m', h1, _, rfl, rfl, h2⟩
theorem law15_ClientsTold_rule1 {a_0 : Option Addr} {n_0 : Nat} {c_0 : Nat} {p_3 : Option Addr} {x_40 : Int} {R : Value → World → Prop} {w0 : World} (I : Nat → Int → World → Prop) (m0 : Nat) (h0 : I m0 x_40 w0)
    (hr : ∀ (m : Nat) (x_4 : Int) (w : World), I m x_4 w → law15_ClientsTold_L1 a_0 n_0 c_0 p_3 x_4 (law15_ClientsTold_K1 a_0 n_0 c_0 p_3 I m) R w) :
    loopD3 law15_ClientsTold_la1 (dnF Try.prog law15_ClientsTold_an (code Try.f7) 395 [0, 0, 1, 0, 1, 1, 1]) (kont3 Try.prog law15_ClientsTold_an (code Try.f7) [1, 1, 1, 0, 1, 0] [] (post3 Try.prog Try.f7 [] R)) (law15_ClientsTold_v1 a_0 n_0 c_0 p_3 x_40) (law15_ClientsTold_m1) w0 := by
  refine ⟨fun m vals mem w => ∃ x_4, vals = (law15_ClientsTold_v1 a_0 n_0 c_0 p_3 x_4) ∧ mem = (law15_ClientsTold_m1) ∧ I m x_4 w, m0, ⟨_, rfl, rfl, h0⟩, ?_⟩
  rintro m vals mem w ⟨x_4, rfl, rfl, hI⟩
  refine ⟨rfl, rfl, fun js => ?_⟩
  have h := hr m x_4 w hI
  rw [← law15_ClientsTold_L1_eq _ _ _ _ _ _ js] at h
  exact h
def law15_ClientsTold_L2 (a_7 : Option Addr) (n_7 : Nat) (c_7 : Nat) (x_8 : Int) (K2 : Kh) (R : Value → World → Prop) (w : World) : Prop :=
  brB (decide (x_8 < (n_7 : Int))) (
    ixA a_7 n_7 x_8 9 fun q74 =>
    ldInt .i64 w q74 fun x75 =>
    ixA a_7 n_7 (IntKind.wrap .i64 (x_8 - 1)) 9 fun q76 =>
    ldInt .i64 w q76 fun x77 =>
    brB (decide (x75 ≤ x77)) (
      ∀ w78, Adv [] [] w w78 →
      R (.bool false) w78)
    (
      ∀ w79, Adv [] [] w w79 →
      K2 (law15_ClientsTold_v2 a_7 n_7 c_7 (IntKind.wrap .i64 (x_8 + 1))) (law15_ClientsTold_m2) w79))
  (
    Calls Try.prog 10 #[(.slice a_7 n_7 c_7)] w fun e w80 => ∃ p81 : Option Addr, ∃ x82 : Int, e = .returned (.tuple #[(.pointer p81), (.int .i64 x82)]) ∧
    brB (!(Option.isNone p81)) (
      brB (x82 == 0) (
        Calls Try.prog 13 #[(.pointer p81)] w80 fun e w83 => ∃ (a84 : Option Addr) (n85 c86 : Nat), e = .returned (.slice a84 n85 c86) ∧
        Calls Try.prog 12 #[(.slice a84 n85 c86), (.slice a_7 n_7 c_7)] w83 fun e w87 => ∃ t88 : Bool, e = .returned (.bool t88) ∧
        brB t88 (
          brB (decide ((n_7 : Int) ≤ 16)) (
            Calls Try.prog 14 #[] w87 fun e w89 => ∃ t90 : Bool, e = .returned (.bool t90) ∧
            R (.bool t90) w89)
          (
            R (.bool false) w87))
        (
          R (.bool false) w87))
      (
        R (.bool false) w80))
    (
      R (.bool false) w80))
theorem law15_ClientsTold_L2_eq (a_7 : Option Addr) (n_7 : Nat) (c_7 : Nat) (x_8 : Int) (K2 : Kh) (js : Nat → Value) (R : Value → World → Prop) (w : World) :
    headA law15_ClientsTold_la2 ((dnF Try.prog law15_ClientsTold_an (code Try.f7) 393 [0, 0, 1, 0, 1, 1, 1, 1, 1]) (kthen3 (atA law15_ClientsTold_la2 K2) (kont3 Try.prog law15_ClientsTold_an (code Try.f7) [1, 1, 1, 1, 1, 0, 1, 0] [] (post3 Try.prog Try.f7 [] R)))) (law15_ClientsTold_v2 a_7 n_7 c_7 x_8) js (law15_ClientsTold_m2) w = law15_ClientsTold_L2 a_7 n_7 c_7 x_8 K2 R w := by kernel_rfl
def law15_ClientsTold_K2 (a_7 : Option Addr) (n_7 : Nat) (c_7 : Nat) (I : Nat → Int → World → Prop) (m : Nat) (vals : List Value) (mem : List TB) (w : World) : Prop := ∃ m', m' < m ∧ ∃ x_8, vals = (law15_ClientsTold_v2 a_7 n_7 c_7 x_8) ∧ mem = (law15_ClientsTold_m2) ∧ I m' x_8 w
theorem law15_ClientsTold_leaf2 {a_7 : Option Addr} {n_7 : Nat} {c_7 : Nat} {I : Nat → Int → World → Prop} {m : Nat} {x_8 : Int} {w : World} (m' : Nat) (h1 : m' < m) (h2 : I m' x_8 w) : law15_ClientsTold_K2 a_7 n_7 c_7 I m (law15_ClientsTold_v2 a_7 n_7 c_7 x_8) (law15_ClientsTold_m2) w := ⟨m', h1, _, rfl, rfl, h2⟩
theorem law15_ClientsTold_rule2 {a_7 : Option Addr} {n_7 : Nat} {c_7 : Nat} {x_80 : Int} {R : Value → World → Prop} {w0 : World} (I : Nat → Int → World → Prop) (m0 : Nat) (h0 : I m0 x_80 w0)
    (hr : ∀ (m : Nat) (x_8 : Int) (w : World), I m x_8 w → law15_ClientsTold_L2 a_7 n_7 c_7 x_8 (law15_ClientsTold_K2 a_7 n_7 c_7 I m) R w) :
    loopD3 law15_ClientsTold_la2 (dnF Try.prog law15_ClientsTold_an (code Try.f7) 393 [0, 0, 1, 0, 1, 1, 1, 1, 1]) (kont3 Try.prog law15_ClientsTold_an (code Try.f7) [1, 1, 1, 1, 1, 0, 1, 0] [] (post3 Try.prog Try.f7 [] R)) (law15_ClientsTold_v2 a_7 n_7 c_7 x_80) (law15_ClientsTold_m2) w0 := by
  refine ⟨fun m vals mem w => ∃ x_8, vals = (law15_ClientsTold_v2 a_7 n_7 c_7 x_8) ∧ mem = (law15_ClientsTold_m2) ∧ I m x_8 w, m0, ⟨_, rfl, rfl, h0⟩, ?_⟩
  rintro m vals mem w ⟨x_8, rfl, rfl, hI⟩
  refine ⟨rfl, rfl, fun js => ?_⟩
  have h := hr m x_8 w hI
  rw [← law15_ClientsTold_L2_eq _ _ _ _ _ js] at h
  exact h
/-- stagecoach/stagecoachlaw15.ClientsTold -/
def law15_ClientsTold_T (a0_script_a : Option Addr) (a0_script_n : Nat) (a0_script_c : Nat) (R : Value → World → Prop) (w : World) : Prop :=
  Calls Try.prog 15 #[] w fun e w1 => ∃ p2 : Option Addr, e = .returned (.pointer p2) ∧
  brB (Option.isNone p2) (
    R (.bool false) w1)
  (
    loopD3 law15_ClientsTold_la1 (dnF Try.prog law15_ClientsTold_an (code Try.f7) 395 [0, 0, 1, 0, 1, 1, 1]) (kont3 Try.prog law15_ClientsTold_an (code Try.f7) [1, 1, 1, 0, 1, 0] [] (post3 Try.prog Try.f7 [] R)) (law15_ClientsTold_v1 a0_script_a a0_script_n a0_script_c p2 0) (law15_ClientsTold_m1) w1)
theorem law15_ClientsTold_eq (a0_script_a : Option Addr) (a0_script_n : Nat) (a0_script_c : Nat) (R : Value → World → Prop) (w : World) :
    dnF Try.prog law15_ClientsTold_an (code Try.f7) 400 [] (post3 Try.prog Try.f7 [] R) ⟨args0 0 [(.slice a0_script_a a0_script_n a0_script_c)], fun _ => undef⟩ ⟨[], w, [], [], true⟩ = law15_ClientsTold_T a0_script_a a0_script_n a0_script_c R w := by kernel_rfl
theorem law15_ClientsTold_go {a0_script_a : Option Addr} {a0_script_n : Nat} {a0_script_c : Nat} {R : Value → World → Prop} {w : World} (h : law15_ClientsTold_T a0_script_a a0_script_n a0_script_c R w) :
    Calls Try.prog 7 #[(.slice a0_script_a a0_script_n a0_script_c)] w fun e w' => ∃ v, e = .returned v ∧ R v w' :=
  calls_none Try.wide_mixed (f := 7) (args := [(.slice a0_script_a a0_script_n a0_script_c)]) Try.func7 rfl rfl (by kernel_rfl) rfl (Eq.mpr (law15_ClientsTold_eq a0_script_a a0_script_n a0_script_c R w) h)

end Go.Proofs.Ytdgiemnadpkcfaa
