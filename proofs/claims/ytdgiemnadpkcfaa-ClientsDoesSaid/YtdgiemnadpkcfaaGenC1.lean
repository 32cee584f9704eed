/- The conditions of Go functions' bodies, printed by gen2.py. -/
import Derived.Test.YtdgiemnadpkcfaaTrkS
namespace Go.Proofs.Ytdgiemnadpkcfaa
open Go Go.RowKit
set_option linter.unusedVariables false
set_option maxRecDepth 100000

def request_number_an : List LA := []
/-- stagecoach/request.number -/
def request_number_T (a0_n : Int) (R : Value → World → Prop) (w : World) : Prop :=
  brB (decide (a0_n ≥ 0)) (
    R (.bool (decide (a0_n ≤ 1099511627776))) w)
  (
    R (.bool false) w)
theorem request_number_eq (a0_n : Int) (R : Value → World → Prop) (w : World) :
    dnF Try.prog request_number_an (code Try.f53) 400 [] (post3 Try.prog Try.f53 [] R) ⟨args0 0 [(.int .i64 a0_n)], fun _ => undef⟩ ⟨[], w, [], [], true⟩ = request_number_T a0_n R w := by kernel_rfl
theorem request_number_go {a0_n : Int} {R : Value → World → Prop} {w : World} (h : request_number_T a0_n R w) :
    Calls Try.prog 53 #[(.int .i64 a0_n)] w fun e w' => ∃ v, e = .returned v ∧ R v w' :=
  calls_none Try.wide_mixed (f := 53) (args := [(.int .i64 a0_n)]) Try.func53 rfl rfl (by kernel_rfl) rfl (Eq.mpr (request_number_eq a0_n R w) h)
def record_Check_an : List LA := []
/-- stagecoach/record.Check -/
def record_Check_T (a0_r_0 : Bool) (a0_r_1 : ByteArray) (a0_r_2 : Bool) (a0_r_3 : ByteArray) (R : Value → World → Prop) (w : World) : Prop :=
  ∀ b1, w.heap.size ≤ b1 →
  brB (!a0_r_0) (
    brB (!(a0_r_1.toList == (⟨#[]⟩ : ByteArray).toList)) (
      brB (!(a0_r_1.toList == (⟨#[]⟩ : ByteArray).toList)) (
        ∀ w2, Adv [] [b1] w w2 →
        R (.int .i64 30) w2)
      (
        brB (decide ((a0_r_1.size : Int) > 64)) (
          brB (decide ((a0_r_1.size : Int) > 64)) (
            ∀ w3, Adv [] [b1] w w3 →
            R (.int .i64 2) w3)
          (
            ∀ w4, Adv [] [b1] w w4 →
            R (.int .i64 0) w4))
        (
          brB (decide ((a0_r_3.size : Int) > 512)) (
            ∀ w5, Adv [] [b1] w w5 →
            R (.int .i64 2) w5)
          (
            ∀ w6, Adv [] [b1] w w6 →
            R (.int .i64 0) w6))))
    (
      brB a0_r_2 (
        brB (!a0_r_0) (
          ∀ w7, Adv [] [b1] w w7 →
          R (.int .i64 30) w7)
        (
          brB (!(a0_r_3.toList == (⟨#[]⟩ : ByteArray).toList)) (
            ∀ w8, Adv [] [b1] w w8 →
            R (.int .i64 30) w8)
          (
            brB (decide ((a0_r_1.size : Int) > 64)) (
              brB (decide ((a0_r_1.size : Int) > 64)) (
                ∀ w9, Adv [] [b1] w w9 →
                R (.int .i64 2) w9)
              (
                ∀ w10, Adv [] [b1] w w10 →
                R (.int .i64 0) w10))
            (
              brB (decide ((a0_r_3.size : Int) > 512)) (
                ∀ w11, Adv [] [b1] w w11 →
                R (.int .i64 2) w11)
              (
                ∀ w12, Adv [] [b1] w w12 →
                R (.int .i64 0) w12)))))
      (
        brB (decide ((a0_r_1.size : Int) > 64)) (
          brB (decide ((a0_r_1.size : Int) > 64)) (
            ∀ w13, Adv [] [b1] w w13 →
            R (.int .i64 2) w13)
          (
            ∀ w14, Adv [] [b1] w w14 →
            R (.int .i64 0) w14))
        (
          brB (decide ((a0_r_3.size : Int) > 512)) (
            ∀ w15, Adv [] [b1] w w15 →
            R (.int .i64 2) w15)
          (
            ∀ w16, Adv [] [b1] w w16 →
            R (.int .i64 0) w16)))))
  (
    brB a0_r_2 (
      brB (!a0_r_0) (
        ∀ w17, Adv [] [b1] w w17 →
        R (.int .i64 30) w17)
      (
        brB (!(a0_r_3.toList == (⟨#[]⟩ : ByteArray).toList)) (
          ∀ w18, Adv [] [b1] w w18 →
          R (.int .i64 30) w18)
        (
          brB (decide ((a0_r_1.size : Int) > 64)) (
            brB (decide ((a0_r_1.size : Int) > 64)) (
              ∀ w19, Adv [] [b1] w w19 →
              R (.int .i64 2) w19)
            (
              ∀ w20, Adv [] [b1] w w20 →
              R (.int .i64 0) w20))
          (
            brB (decide ((a0_r_3.size : Int) > 512)) (
              ∀ w21, Adv [] [b1] w w21 →
              R (.int .i64 2) w21)
            (
              ∀ w22, Adv [] [b1] w w22 →
              R (.int .i64 0) w22)))))
    (
      brB (decide ((a0_r_1.size : Int) > 64)) (
        brB (decide ((a0_r_1.size : Int) > 64)) (
          ∀ w23, Adv [] [b1] w w23 →
          R (.int .i64 2) w23)
        (
          ∀ w24, Adv [] [b1] w w24 →
          R (.int .i64 0) w24))
      (
        brB (decide ((a0_r_3.size : Int) > 512)) (
          ∀ w25, Adv [] [b1] w w25 →
          R (.int .i64 2) w25)
        (
          ∀ w26, Adv [] [b1] w w26 →
          R (.int .i64 0) w26))))
theorem record_Check_eq (a0_r_0 : Bool) (a0_r_1 : ByteArray) (a0_r_2 : Bool) (a0_r_3 : ByteArray) (R : Value → World → Prop) (w : World) :
    dnF Try.prog record_Check_an (code Try.f54) 400 [] (post3 Try.prog Try.f54 [] R) ⟨args0 0 [(.agg #[(.bool a0_r_0), (.string a0_r_1), (.bool a0_r_2), (.string a0_r_3)])], fun _ => undef⟩ ⟨[], w, [], [], true⟩ = record_Check_T a0_r_0 a0_r_1 a0_r_2 a0_r_3 R w := by kernel_rfl
theorem record_Check_go {a0_r_0 : Bool} {a0_r_1 : ByteArray} {a0_r_2 : Bool} {a0_r_3 : ByteArray} {R : Value → World → Prop} {w : World} (h : record_Check_T a0_r_0 a0_r_1 a0_r_2 a0_r_3 R w) :
    Calls Try.prog 54 #[(.agg #[(.bool a0_r_0), (.string a0_r_1), (.bool a0_r_2), (.string a0_r_3)])] w fun e w' => ∃ v, e = .returned v ∧ R v w' :=
  calls_none Try.wide_mixed (f := 54) (args := [(.agg #[(.bool a0_r_0), (.string a0_r_1), (.bool a0_r_2), (.string a0_r_3)])]) Try.func54 rfl rfl (by kernel_rfl) rfl (Eq.mpr (record_Check_eq a0_r_0 a0_r_1 a0_r_2 a0_r_3 R w) h)
def record_kind_an : List LA := []
/-- stagecoach/record.kind -/
def record_kind_T (a0_r_0 : Bool) (a0_r_1 : ByteArray) (a0_r_2 : Bool) (a0_r_3 : ByteArray) (R : Value → World → Prop) (w : World) : Prop :=
  ∀ b1, w.heap.size ≤ b1 →
  brB a0_r_2 (
    ∀ w2, Adv [] [b1] w w2 →
    R (.int .u8 (IntKind.wrap .u8 ((IntKind.wrap .u8 (0 + 2)) + 1))) w2)
  (
    brB a0_r_0 (
      ∀ w3, Adv [] [b1] w w3 →
      R (.int .u8 (IntKind.wrap .u8 (0 + 1))) w3)
    (
      ∀ w4, Adv [] [b1] w w4 →
      R (.int .u8 0) w4))
theorem record_kind_eq (a0_r_0 : Bool) (a0_r_1 : ByteArray) (a0_r_2 : Bool) (a0_r_3 : ByteArray) (R : Value → World → Prop) (w : World) :
    dnF Try.prog record_kind_an (code Try.f65) 400 [] (post3 Try.prog Try.f65 [] R) ⟨args0 0 [(.agg #[(.bool a0_r_0), (.string a0_r_1), (.bool a0_r_2), (.string a0_r_3)])], fun _ => undef⟩ ⟨[], w, [], [], true⟩ = record_kind_T a0_r_0 a0_r_1 a0_r_2 a0_r_3 R w := by kernel_rfl
theorem record_kind_go {a0_r_0 : Bool} {a0_r_1 : ByteArray} {a0_r_2 : Bool} {a0_r_3 : ByteArray} {R : Value → World → Prop} {w : World} (h : record_kind_T a0_r_0 a0_r_1 a0_r_2 a0_r_3 R w) :
    Calls Try.prog 65 #[(.agg #[(.bool a0_r_0), (.string a0_r_1), (.bool a0_r_2), (.string a0_r_3)])] w fun e w' => ∃ v, e = .returned v ∧ R v w' :=
  calls_none Try.wide_mixed (f := 65) (args := [(.agg #[(.bool a0_r_0), (.string a0_r_1), (.bool a0_r_2), (.string a0_r_3)])]) Try.func65 rfl rfl (by kernel_rfl) rfl (Eq.mpr (record_kind_eq a0_r_0 a0_r_1 a0_r_2 a0_r_3 R w) h)
def ref03_Num_an : List LA := []
/-- stagecoach/stagecoachref03.Num -/
def ref03_Num_T (a0_n : Int) (R : Value → World → Prop) (w : World) : Prop :=
  brB (decide (a0_n ≥ 0)) (
    R (.bool (decide (a0_n ≤ 1099511627776))) w)
  (
    R (.bool false) w)
theorem ref03_Num_eq (a0_n : Int) (R : Value → World → Prop) (w : World) :
    dnF Try.prog ref03_Num_an (code Try.f47) 400 [] (post3 Try.prog Try.f47 [] R) ⟨args0 0 [(.int .i64 a0_n)], fun _ => undef⟩ ⟨[], w, [], [], true⟩ = ref03_Num_T a0_n R w := by kernel_rfl
theorem ref03_Num_go {a0_n : Int} {R : Value → World → Prop} {w : World} (h : ref03_Num_T a0_n R w) :
    Calls Try.prog 47 #[(.int .i64 a0_n)] w fun e w' => ∃ v, e = .returned v ∧ R v w' :=
  calls_none Try.wide_mixed (f := 47) (args := [(.int .i64 a0_n)]) Try.func47 rfl rfl (by kernel_rfl) rfl (Eq.mpr (ref03_Num_eq a0_n R w) h)
def ref03_Check_an : List LA := []
/-- stagecoach/stagecoachref03.Check -/
def ref03_Check_T (a0_r_0 : Bool) (a0_r_1 : ByteArray) (a0_r_2 : Bool) (a0_r_3 : ByteArray) (R : Value → World → Prop) (w : World) : Prop :=
  ∀ b1, w.heap.size ≤ b1 →
  brB (!a0_r_0) (
    brB (decide ((a0_r_1.size : Int) > 0)) (
      ∀ w2, Adv [] [b1] w w2 →
      R (.int .i64 30) w2)
    (
      brB a0_r_2 (
        brB (!a0_r_0) (
          ∀ w3, Adv [] [b1] w w3 →
          R (.int .i64 30) w3)
        (
          brB a0_r_2 (
            brB (decide ((a0_r_3.size : Int) > 0)) (
              ∀ w4, Adv [] [b1] w w4 →
              R (.int .i64 30) w4)
            (
              brB (decide ((a0_r_1.size : Int) > 64)) (
                ∀ w5, Adv [] [b1] w w5 →
                R (.int .i64 2) w5)
              (
                brB (decide ((a0_r_3.size : Int) > 512)) (
                  ∀ w6, Adv [] [b1] w w6 →
                  R (.int .i64 2) w6)
                (
                  ∀ w7, Adv [] [b1] w w7 →
                  R (.int .i64 0) w7))))
          (
            brB (decide ((a0_r_1.size : Int) > 64)) (
              ∀ w8, Adv [] [b1] w w8 →
              R (.int .i64 2) w8)
            (
              brB (decide ((a0_r_3.size : Int) > 512)) (
                ∀ w9, Adv [] [b1] w w9 →
                R (.int .i64 2) w9)
              (
                ∀ w10, Adv [] [b1] w w10 →
                R (.int .i64 0) w10)))))
      (
        brB a0_r_2 (
          brB (decide ((a0_r_3.size : Int) > 0)) (
            ∀ w11, Adv [] [b1] w w11 →
            R (.int .i64 30) w11)
          (
            brB (decide ((a0_r_1.size : Int) > 64)) (
              ∀ w12, Adv [] [b1] w w12 →
              R (.int .i64 2) w12)
            (
              brB (decide ((a0_r_3.size : Int) > 512)) (
                ∀ w13, Adv [] [b1] w w13 →
                R (.int .i64 2) w13)
              (
                ∀ w14, Adv [] [b1] w w14 →
                R (.int .i64 0) w14))))
        (
          brB (decide ((a0_r_1.size : Int) > 64)) (
            ∀ w15, Adv [] [b1] w w15 →
            R (.int .i64 2) w15)
          (
            brB (decide ((a0_r_3.size : Int) > 512)) (
              ∀ w16, Adv [] [b1] w w16 →
              R (.int .i64 2) w16)
            (
              ∀ w17, Adv [] [b1] w w17 →
              R (.int .i64 0) w17))))))
  (
    brB a0_r_2 (
      brB (!a0_r_0) (
        ∀ w18, Adv [] [b1] w w18 →
        R (.int .i64 30) w18)
      (
        brB a0_r_2 (
          brB (decide ((a0_r_3.size : Int) > 0)) (
            ∀ w19, Adv [] [b1] w w19 →
            R (.int .i64 30) w19)
          (
            brB (decide ((a0_r_1.size : Int) > 64)) (
              ∀ w20, Adv [] [b1] w w20 →
              R (.int .i64 2) w20)
            (
              brB (decide ((a0_r_3.size : Int) > 512)) (
                ∀ w21, Adv [] [b1] w w21 →
                R (.int .i64 2) w21)
              (
                ∀ w22, Adv [] [b1] w w22 →
                R (.int .i64 0) w22))))
        (
          brB (decide ((a0_r_1.size : Int) > 64)) (
            ∀ w23, Adv [] [b1] w w23 →
            R (.int .i64 2) w23)
          (
            brB (decide ((a0_r_3.size : Int) > 512)) (
              ∀ w24, Adv [] [b1] w w24 →
              R (.int .i64 2) w24)
            (
              ∀ w25, Adv [] [b1] w w25 →
              R (.int .i64 0) w25)))))
    (
      brB a0_r_2 (
        brB (decide ((a0_r_3.size : Int) > 0)) (
          ∀ w26, Adv [] [b1] w w26 →
          R (.int .i64 30) w26)
        (
          brB (decide ((a0_r_1.size : Int) > 64)) (
            ∀ w27, Adv [] [b1] w w27 →
            R (.int .i64 2) w27)
          (
            brB (decide ((a0_r_3.size : Int) > 512)) (
              ∀ w28, Adv [] [b1] w w28 →
              R (.int .i64 2) w28)
            (
              ∀ w29, Adv [] [b1] w w29 →
              R (.int .i64 0) w29))))
      (
        brB (decide ((a0_r_1.size : Int) > 64)) (
          ∀ w30, Adv [] [b1] w w30 →
          R (.int .i64 2) w30)
        (
          brB (decide ((a0_r_3.size : Int) > 512)) (
            ∀ w31, Adv [] [b1] w w31 →
            R (.int .i64 2) w31)
          (
            ∀ w32, Adv [] [b1] w w32 →
            R (.int .i64 0) w32)))))
theorem ref03_Check_eq (a0_r_0 : Bool) (a0_r_1 : ByteArray) (a0_r_2 : Bool) (a0_r_3 : ByteArray) (R : Value → World → Prop) (w : World) :
    dnF Try.prog ref03_Check_an (code Try.f48) 400 [] (post3 Try.prog Try.f48 [] R) ⟨args0 0 [(.agg #[(.bool a0_r_0), (.string a0_r_1), (.bool a0_r_2), (.string a0_r_3)])], fun _ => undef⟩ ⟨[], w, [], [], true⟩ = ref03_Check_T a0_r_0 a0_r_1 a0_r_2 a0_r_3 R w := by kernel_rfl
theorem ref03_Check_go {a0_r_0 : Bool} {a0_r_1 : ByteArray} {a0_r_2 : Bool} {a0_r_3 : ByteArray} {R : Value → World → Prop} {w : World} (h : ref03_Check_T a0_r_0 a0_r_1 a0_r_2 a0_r_3 R w) :
    Calls Try.prog 48 #[(.agg #[(.bool a0_r_0), (.string a0_r_1), (.bool a0_r_2), (.string a0_r_3)])] w fun e w' => ∃ v, e = .returned v ∧ R v w' :=
  calls_none Try.wide_mixed (f := 48) (args := [(.agg #[(.bool a0_r_0), (.string a0_r_1), (.bool a0_r_2), (.string a0_r_3)])]) Try.func48 rfl rfl (by kernel_rfl) rfl (Eq.mpr (ref03_Check_eq a0_r_0 a0_r_1 a0_r_2 a0_r_3 R w) h)
def ref04_Name_la1 : LA := ⟨[0, 0, 1, 0, 1, 1], [0, 3], [], 0, []⟩
def ref04_Name_an : List LA := [ref04_Name_la1]
def ref04_Name_v1 (s_0 : ByteArray) (x_3 : Int) : List Value := [(.string s_0), (.int .i64 x_3)]
def ref04_Name_m1 : List TB := []
def ref04_Name_L1 (s_0 : ByteArray) (x_3 : Int) (K1 : Kh) (R : Value → World → Prop) (w : World) : Prop :=
  brB (decide (x_3 < (s_0.size : Int))) (
    ixS s_0 x_3 fun x1 =>
    brB (decide (x1 ≥ 97)) (
      brB (decide (x1 ≤ 122)) (
        K1 (ref04_Name_v1 s_0 (IntKind.wrap .i64 (x_3 + 1))) (ref04_Name_m1) w)
      (
        brB (decide (x1 ≥ 48)) (
          brB (decide (x1 ≤ 57)) (
            K1 (ref04_Name_v1 s_0 (IntKind.wrap .i64 (x_3 + 1))) (ref04_Name_m1) w)
          (
            brB (!(x1 == 45)) (
              R (.bool false) w)
            (
              K1 (ref04_Name_v1 s_0 (IntKind.wrap .i64 (x_3 + 1))) (ref04_Name_m1) w)))
        (
          brB (!(x1 == 45)) (
            R (.bool false) w)
          (
            K1 (ref04_Name_v1 s_0 (IntKind.wrap .i64 (x_3 + 1))) (ref04_Name_m1) w))))
    (
      brB (decide (x1 ≥ 48)) (
        brB (decide (x1 ≤ 57)) (
          K1 (ref04_Name_v1 s_0 (IntKind.wrap .i64 (x_3 + 1))) (ref04_Name_m1) w)
        (
          brB (!(x1 == 45)) (
            R (.bool false) w)
          (
            K1 (ref04_Name_v1 s_0 (IntKind.wrap .i64 (x_3 + 1))) (ref04_Name_m1) w)))
      (
        brB (!(x1 == 45)) (
          R (.bool false) w)
        (
          K1 (ref04_Name_v1 s_0 (IntKind.wrap .i64 (x_3 + 1))) (ref04_Name_m1) w))))
  (
    R (.bool true) w)
theorem ref04_Name_L1_eq (s_0 : ByteArray) (x_3 : Int) (K1 : Kh) (js : Nat → Value) (R : Value → World → Prop) (w : World) :
    headA ref04_Name_la1 ((dnF Try.prog ref04_Name_an (code Try.f49) 396 [0, 0, 1, 0, 1, 1]) (kthen3 (atA ref04_Name_la1 K1) (kont3 Try.prog ref04_Name_an (code Try.f49) [1, 1, 0, 1, 0] [] (post3 Try.prog Try.f49 [] R)))) (ref04_Name_v1 s_0 x_3) js (ref04_Name_m1) w = ref04_Name_L1 s_0 x_3 K1 R w := by kernel_rfl
def ref04_Name_K1 (s_0 : ByteArray) (I : Nat → Int → World → Prop) (m : Nat) (vals : List Value) (mem : List TB) (w : World) : Prop := ∃ m', m' < m ∧ ∃ x_3, vals = (ref04_Name_v1 s_0 x_3) ∧ mem = (ref04_Name_m1) ∧ I m' x_3 w
theorem ref04_Name_leaf1 {s_0 : ByteArray} {I : Nat → Int → World → Prop} {m : Nat} {x_3 : Int} {w : World} (m' : Nat) (h1 : m' < m) (h2 : I m' x_3 w) : ref04_Name_K1 s_0 I m (ref04_Name_v1 s_0 x_3) (ref04_Name_m1) w := ⟨m', h1, _, rfl, rfl, h2⟩
theorem ref04_Name_rule1 {s_0 : ByteArray} {x_30 : Int} {R : Value → World → Prop} {w0 : World} (I : Nat → Int → World → Prop) (m0 : Nat) (h0 : I m0 x_30 w0)
    (hr : ∀ (m : Nat) (x_3 : Int) (w : World), I m x_3 w → ref04_Name_L1 s_0 x_3 (ref04_Name_K1 s_0 I m) R w) :
    loopD3 ref04_Name_la1 (dnF Try.prog ref04_Name_an (code Try.f49) 396 [0, 0, 1, 0, 1, 1]) (kont3 Try.prog ref04_Name_an (code Try.f49) [1, 1, 0, 1, 0] [] (post3 Try.prog Try.f49 [] R)) (ref04_Name_v1 s_0 x_30) (ref04_Name_m1) w0 := by
  refine ⟨fun m vals mem w => ∃ x_3, vals = (ref04_Name_v1 s_0 x_3) ∧ mem = (ref04_Name_m1) ∧ I m x_3 w, m0, ⟨_, rfl, rfl, h0⟩, ?_⟩
  rintro m vals mem w ⟨x_3, rfl, rfl, hI⟩
  refine ⟨rfl, rfl, fun js => ?_⟩
  have h := hr m x_3 w hI
  rw [← ref04_Name_L1_eq _ _ _ js] at h
  exact h
/-- stagecoach/stagecoachref04.Name -/
def ref04_Name_T (a0_s : ByteArray) (R : Value → World → Prop) (w : World) : Prop :=
  brB (decide ((a0_s.size : Int) < 1)) (
    R (.bool false) w)
  (
    brB (decide ((a0_s.size : Int) > 16)) (
      R (.bool false) w)
    (
      loopD3 ref04_Name_la1 (dnF Try.prog ref04_Name_an (code Try.f49) 396 [0, 0, 1, 0, 1, 1]) (kont3 Try.prog ref04_Name_an (code Try.f49) [1, 1, 0, 1, 0] [] (post3 Try.prog Try.f49 [] R)) (ref04_Name_v1 a0_s 0) (ref04_Name_m1) w))
theorem ref04_Name_eq (a0_s : ByteArray) (R : Value → World → Prop) (w : World) :
    dnF Try.prog ref04_Name_an (code Try.f49) 400 [] (post3 Try.prog Try.f49 [] R) ⟨args0 0 [(.string a0_s)], fun _ => undef⟩ ⟨[], w, [], [], true⟩ = ref04_Name_T a0_s R w := by kernel_rfl
theorem ref04_Name_go {a0_s : ByteArray} {R : Value → World → Prop} {w : World} (h : ref04_Name_T a0_s R w) :
    Calls Try.prog 49 #[(.string a0_s)] w fun e w' => ∃ v, e = .returned v ∧ R v w' :=
  calls_none Try.wide_mixed (f := 49) (args := [(.string a0_s)]) Try.func49 rfl rfl (by kernel_rfl) rfl (Eq.mpr (ref04_Name_eq a0_s R w) h)
def ref04_Found_la1 : LA := ⟨[0, 0, 1, 0, 1, 1], [0, 1, 5], [], 0, []⟩
def ref04_Found_an : List LA := [ref04_Found_la1]
def ref04_Found_v1 (a_0 : Option Addr) (n_0 : Nat) (c_0 : Nat) (a_1 : Option Addr) (n_1 : Nat) (c_1 : Nat) (x_5 : Int) : List Value := [(.slice a_0 n_0 c_0), (.slice a_1 n_1 c_1), (.int .i64 x_5)]
def ref04_Found_m1 : List TB := []
def ref04_Found_L1 (a_0 : Option Addr) (n_0 : Nat) (c_0 : Nat) (a_1 : Option Addr) (n_1 : Nat) (c_1 : Nat) (x_5 : Int) (K1 : Kh) (R : Value → World → Prop) (w : World) : Prop :=
  brB (decide (x_5 < (n_0 : Int))) (
    ixA a_0 n_0 x_5 5 fun q1 =>
    ldInt .i64 w q1 fun x2 => ldBool w (Addr.add q1 1) fun t3 => ldStr w (Addr.add q1 2) fun s4 => ldBool w (Addr.add q1 3) fun t5 => ldStr w (Addr.add q1 4) fun s6 =>
    ixA a_1 n_1 x_5 5 fun q7 =>
    ldInt .i64 w q7 fun x8 => ldBool w (Addr.add q7 1) fun t9 => ldStr w (Addr.add q7 2) fun s10 => ldBool w (Addr.add q7 3) fun t11 => ldStr w (Addr.add q7 4) fun s12 =>
    ∃ t13 : Bool, (∀ w', Mod [] w w' → Sem.run Try.prog (do eqGuard .neq 62 (.tmp 20) (.tmp 24) (.agg #[(.int .i64 x2), (.bool t3), (.string s4), (.bool t5), (.string s6)]) (.agg #[(.int .i64 x8), (.bool t9), (.string s10), (.bool t11), (.string s12)]); Go.binOp .neq 62 (.agg #[(.int .i64 x2), (.bool t3), (.string s4), (.bool t5), (.string s6)]) (.agg #[(.int .i64 x8), (.bool t9), (.string s10), (.bool t11), (.string s12)])) w' = .ok (.bool t13) w') ∧
    brB t13 (
      ∀ w14, Adv [] [] w w14 →
      R (.bool false) w14)
    (
      ∀ w15, Adv [] [] w w15 →
      K1 (ref04_Found_v1 a_0 n_0 c_0 a_1 n_1 c_1 (IntKind.wrap .i64 (x_5 + 1))) (ref04_Found_m1) w15))
  (
    R (.bool true) w)
theorem ref04_Found_L1_eq (a_0 : Option Addr) (n_0 : Nat) (c_0 : Nat) (a_1 : Option Addr) (n_1 : Nat) (c_1 : Nat) (x_5 : Int) (K1 : Kh) (js : Nat → Value) (R : Value → World → Prop) (w : World) :
    headA ref04_Found_la1 ((dnF Try.prog ref04_Found_an (code Try.f33) 396 [0, 0, 1, 0, 1, 1]) (kthen3 (atA ref04_Found_la1 K1) (kont3 Try.prog ref04_Found_an (code Try.f33) [1, 1, 0, 1, 0] [] (post3 Try.prog Try.f33 [] R)))) (ref04_Found_v1 a_0 n_0 c_0 a_1 n_1 c_1 x_5) js (ref04_Found_m1) w = ref04_Found_L1 a_0 n_0 c_0 a_1 n_1 c_1 x_5 K1 R w := by kernel_rfl
def ref04_Found_K1 (a_0 : Option Addr) (n_0 : Nat) (c_0 : Nat) (a_1 : Option Addr) (n_1 : Nat) (c_1 : Nat) (I : Nat → Int → World → Prop) (m : Nat) (vals : List Value) (mem : List TB) (w : World) : Prop := ∃ m', m' < m ∧ ∃ x_5, vals = (ref04_Found_v1 a_0 n_0 c_0 a_1 n_1 c_1 x_5) ∧ mem = (ref04_Found_m1) ∧ I m' x_5 w
theorem ref04_Found_leaf1 {a_0 : Option Addr} {n_0 : Nat} {c_0 : Nat} {a_1 : Option Addr} {n_1 : Nat} {c_1 : Nat} {I : Nat → Int → World → Prop} {m : Nat} {x_5 : Int} {w : World} (m' : Nat) (h1 : m' < m) (h2 : I m' x_5 w) : ref04_Found_K1 a_0 n_0 c_0 a_1 n_1 c_1 I m (ref04_Found_v1 a_0 n_0 c_0 a_1 n_1 c_1 x_5) (ref04_Found_m1) w := ⟨m', h1, _, rfl, rfl, h2⟩
theorem ref04_Found_rule1 {a_0 : Option Addr} {n_0 : Nat} {c_0 : Nat} {a_1 : Option Addr} {n_1 : Nat} {c_1 : Nat} {x_50 : Int} {R : Value → World → Prop} {w0 : World} (I : Nat → Int → World → Prop) (m0 : Nat) (h0 : I m0 x_50 w0)
    (hr : ∀ (m : Nat) (x_5 : Int) (w : World), I m x_5 w → ref04_Found_L1 a_0 n_0 c_0 a_1 n_1 c_1 x_5 (ref04_Found_K1 a_0 n_0 c_0 a_1 n_1 c_1 I m) R w) :
    loopD3 ref04_Found_la1 (dnF Try.prog ref04_Found_an (code Try.f33) 396 [0, 0, 1, 0, 1, 1]) (kont3 Try.prog ref04_Found_an (code Try.f33) [1, 1, 0, 1, 0] [] (post3 Try.prog Try.f33 [] R)) (ref04_Found_v1 a_0 n_0 c_0 a_1 n_1 c_1 x_50) (ref04_Found_m1) w0 := by
  refine ⟨fun m vals mem w => ∃ x_5, vals = (ref04_Found_v1 a_0 n_0 c_0 a_1 n_1 c_1 x_5) ∧ mem = (ref04_Found_m1) ∧ I m x_5 w, m0, ⟨_, rfl, rfl, h0⟩, ?_⟩
  rintro m vals mem w ⟨x_5, rfl, rfl, hI⟩
  refine ⟨rfl, rfl, fun js => ?_⟩
  have h := hr m x_5 w hI
  rw [← ref04_Found_L1_eq _ _ _ _ _ _ _ _ js] at h
  exact h
/-- stagecoach/stagecoachref04.Found -/
def ref04_Found_T (a0_a_a : Option Addr) (a0_a_n : Nat) (a0_a_c : Nat) (a1_b_a : Option Addr) (a1_b_n : Nat) (a1_b_c : Nat) (R : Value → World → Prop) (w : World) : Prop :=
  brB ((a0_a_n : Int) != (a1_b_n : Int)) (
    R (.bool false) w)
  (
    loopD3 ref04_Found_la1 (dnF Try.prog ref04_Found_an (code Try.f33) 396 [0, 0, 1, 0, 1, 1]) (kont3 Try.prog ref04_Found_an (code Try.f33) [1, 1, 0, 1, 0] [] (post3 Try.prog Try.f33 [] R)) (ref04_Found_v1 a0_a_a a0_a_n a0_a_c a1_b_a a1_b_n a1_b_c 0) (ref04_Found_m1) w)
theorem ref04_Found_eq (a0_a_a : Option Addr) (a0_a_n : Nat) (a0_a_c : Nat) (a1_b_a : Option Addr) (a1_b_n : Nat) (a1_b_c : Nat) (R : Value → World → Prop) (w : World) :
    dnF Try.prog ref04_Found_an (code Try.f33) 400 [] (post3 Try.prog Try.f33 [] R) ⟨args0 0 [(.slice a0_a_a a0_a_n a0_a_c), (.slice a1_b_a a1_b_n a1_b_c)], fun _ => undef⟩ ⟨[], w, [], [], true⟩ = ref04_Found_T a0_a_a a0_a_n a0_a_c a1_b_a a1_b_n a1_b_c R w := by kernel_rfl
theorem ref04_Found_go {a0_a_a : Option Addr} {a0_a_n : Nat} {a0_a_c : Nat} {a1_b_a : Option Addr} {a1_b_n : Nat} {a1_b_c : Nat} {R : Value → World → Prop} {w : World} (h : ref04_Found_T a0_a_a a0_a_n a0_a_c a1_b_a a1_b_n a1_b_c R w) :
    Calls Try.prog 33 #[(.slice a0_a_a a0_a_n a0_a_c), (.slice a1_b_a a1_b_n a1_b_c)] w fun e w' => ∃ v, e = .returned v ∧ R v w' :=
  calls_none Try.wide_mixed (f := 33) (args := [(.slice a0_a_a a0_a_n a0_a_c), (.slice a1_b_a a1_b_n a1_b_c)]) Try.func33 rfl rfl (by kernel_rfl) rfl (Eq.mpr (ref04_Found_eq a0_a_a a0_a_n a0_a_c a1_b_a a1_b_n a1_b_c R w) h)
def ref04_Parts_la1 : LA := ⟨[0, 0, 1, 0, 1, 1], [0, 1, 5], [], 0, []⟩
def ref04_Parts_an : List LA := [ref04_Parts_la1]
def ref04_Parts_v1 (a_0 : Option Addr) (n_0 : Nat) (c_0 : Nat) (a_1 : Option Addr) (n_1 : Nat) (c_1 : Nat) (x_5 : Int) : List Value := [(.slice a_0 n_0 c_0), (.slice a_1 n_1 c_1), (.int .i64 x_5)]
def ref04_Parts_m1 : List TB := []
def ref04_Parts_L1 (a_0 : Option Addr) (n_0 : Nat) (c_0 : Nat) (a_1 : Option Addr) (n_1 : Nat) (c_1 : Nat) (x_5 : Int) (K1 : Kh) (R : Value → World → Prop) (w : World) : Prop :=
  brB (decide (x_5 < (n_0 : Int))) (
    ixA a_0 n_0 x_5 2 fun q1 =>
    ldStr w q1 fun s2 => ldInt .i64 w (Addr.add q1 1) fun x3 =>
    ixA a_1 n_1 x_5 2 fun q4 =>
    ldStr w q4 fun s5 => ldInt .i64 w (Addr.add q4 1) fun x6 =>
    ∃ t7 : Bool, (∀ w', Mod [] w w' → Sem.run Try.prog (do eqGuard .neq 58 (.tmp 20) (.tmp 24) (.agg #[(.string s2), (.int .i64 x3)]) (.agg #[(.string s5), (.int .i64 x6)]); Go.binOp .neq 58 (.agg #[(.string s2), (.int .i64 x3)]) (.agg #[(.string s5), (.int .i64 x6)])) w' = .ok (.bool t7) w') ∧
    brB t7 (
      ∀ w8, Adv [] [] w w8 →
      R (.bool false) w8)
    (
      ∀ w9, Adv [] [] w w9 →
      K1 (ref04_Parts_v1 a_0 n_0 c_0 a_1 n_1 c_1 (IntKind.wrap .i64 (x_5 + 1))) (ref04_Parts_m1) w9))
  (
    R (.bool true) w)
theorem ref04_Parts_L1_eq (a_0 : Option Addr) (n_0 : Nat) (c_0 : Nat) (a_1 : Option Addr) (n_1 : Nat) (c_1 : Nat) (x_5 : Int) (K1 : Kh) (js : Nat → Value) (R : Value → World → Prop) (w : World) :
    headA ref04_Parts_la1 ((dnF Try.prog ref04_Parts_an (code Try.f34) 396 [0, 0, 1, 0, 1, 1]) (kthen3 (atA ref04_Parts_la1 K1) (kont3 Try.prog ref04_Parts_an (code Try.f34) [1, 1, 0, 1, 0] [] (post3 Try.prog Try.f34 [] R)))) (ref04_Parts_v1 a_0 n_0 c_0 a_1 n_1 c_1 x_5) js (ref04_Parts_m1) w = ref04_Parts_L1 a_0 n_0 c_0 a_1 n_1 c_1 x_5 K1 R w := by kernel_rfl
def ref04_Parts_K1 (a_0 : Option Addr) (n_0 : Nat) (c_0 : Nat) (a_1 : Option Addr) (n_1 : Nat) (c_1 : Nat) (I : Nat → Int → World → Prop) (m : Nat) (vals : List Value) (mem : List TB) (w : World) : Prop := ∃ m', m' < m ∧ ∃ x_5, vals = (ref04_Parts_v1 a_0 n_0 c_0 a_1 n_1 c_1 x_5) ∧ mem = (ref04_Parts_m1) ∧ I m' x_5 w
theorem ref04_Parts_leaf1 {a_0 : Option Addr} {n_0 : Nat} {c_0 : Nat} {a_1 : Option Addr} {n_1 : Nat} {c_1 : Nat} {I : Nat → Int → World → Prop} {m : Nat} {x_5 : Int} {w : World} (m' : Nat) (h1 : m' < m) (h2 : I m' x_5 w) : ref04_Parts_K1 a_0 n_0 c_0 a_1 n_1 c_1 I m (ref04_Parts_v1 a_0 n_0 c_0 a_1 n_1 c_1 x_5) (ref04_Parts_m1) w := ⟨m', h1, _, rfl, rfl, h2⟩
theorem ref04_Parts_rule1 {a_0 : Option Addr} {n_0 : Nat} {c_0 : Nat} {a_1 : Option Addr} {n_1 : Nat} {c_1 : Nat} {x_50 : Int} {R : Value → World → Prop} {w0 : World} (I : Nat → Int → World → Prop) (m0 : Nat) (h0 : I m0 x_50 w0)
    (hr : ∀ (m : Nat) (x_5 : Int) (w : World), I m x_5 w → ref04_Parts_L1 a_0 n_0 c_0 a_1 n_1 c_1 x_5 (ref04_Parts_K1 a_0 n_0 c_0 a_1 n_1 c_1 I m) R w) :
    loopD3 ref04_Parts_la1 (dnF Try.prog ref04_Parts_an (code Try.f34) 396 [0, 0, 1, 0, 1, 1]) (kont3 Try.prog ref04_Parts_an (code Try.f34) [1, 1, 0, 1, 0] [] (post3 Try.prog Try.f34 [] R)) (ref04_Parts_v1 a_0 n_0 c_0 a_1 n_1 c_1 x_50) (ref04_Parts_m1) w0 := by
  refine ⟨fun m vals mem w => ∃ x_5, vals = (ref04_Parts_v1 a_0 n_0 c_0 a_1 n_1 c_1 x_5) ∧ mem = (ref04_Parts_m1) ∧ I m x_5 w, m0, ⟨_, rfl, rfl, h0⟩, ?_⟩
  rintro m vals mem w ⟨x_5, rfl, rfl, hI⟩
  refine ⟨rfl, rfl, fun js => ?_⟩
  have h := hr m x_5 w hI
  rw [← ref04_Parts_L1_eq _ _ _ _ _ _ _ _ js] at h
  exact h
/-- stagecoach/stagecoachref04.Parts -/
def ref04_Parts_T (a0_a_a : Option Addr) (a0_a_n : Nat) (a0_a_c : Nat) (a1_b_a : Option Addr) (a1_b_n : Nat) (a1_b_c : Nat) (R : Value → World → Prop) (w : World) : Prop :=
  brB ((a0_a_n : Int) != (a1_b_n : Int)) (
    R (.bool false) w)
  (
    loopD3 ref04_Parts_la1 (dnF Try.prog ref04_Parts_an (code Try.f34) 396 [0, 0, 1, 0, 1, 1]) (kont3 Try.prog ref04_Parts_an (code Try.f34) [1, 1, 0, 1, 0] [] (post3 Try.prog Try.f34 [] R)) (ref04_Parts_v1 a0_a_a a0_a_n a0_a_c a1_b_a a1_b_n a1_b_c 0) (ref04_Parts_m1) w)
theorem ref04_Parts_eq (a0_a_a : Option Addr) (a0_a_n : Nat) (a0_a_c : Nat) (a1_b_a : Option Addr) (a1_b_n : Nat) (a1_b_c : Nat) (R : Value → World → Prop) (w : World) :
    dnF Try.prog ref04_Parts_an (code Try.f34) 400 [] (post3 Try.prog Try.f34 [] R) ⟨args0 0 [(.slice a0_a_a a0_a_n a0_a_c), (.slice a1_b_a a1_b_n a1_b_c)], fun _ => undef⟩ ⟨[], w, [], [], true⟩ = ref04_Parts_T a0_a_a a0_a_n a0_a_c a1_b_a a1_b_n a1_b_c R w := by kernel_rfl
theorem ref04_Parts_go {a0_a_a : Option Addr} {a0_a_n : Nat} {a0_a_c : Nat} {a1_b_a : Option Addr} {a1_b_n : Nat} {a1_b_c : Nat} {R : Value → World → Prop} {w : World} (h : ref04_Parts_T a0_a_a a0_a_n a0_a_c a1_b_a a1_b_n a1_b_c R w) :
    Calls Try.prog 34 #[(.slice a0_a_a a0_a_n a0_a_c), (.slice a1_b_a a1_b_n a1_b_c)] w fun e w' => ∃ v, e = .returned v ∧ R v w' :=
  calls_none Try.wide_mixed (f := 34) (args := [(.slice a0_a_a a0_a_n a0_a_c), (.slice a1_b_a a1_b_n a1_b_c)]) Try.func34 rfl rfl (by kernel_rfl) rfl (Eq.mpr (ref04_Parts_eq a0_a_a a0_a_n a0_a_c a1_b_a a1_b_n a1_b_c R w) h)
def ref04_Alike_an : List LA := []
/-- stagecoach/stagecoachref04.Alike -/
def ref04_Alike_T (a0_a_0 : Int) (a0_a_1 : Int) (a0_a_2 : Int) (a0_a_3 : Int) (a0_a_4_a : Option Addr) (a0_a_4_n : Nat) (a0_a_4_c : Nat) (a0_a_5_a : Option Addr) (a0_a_5_n : Nat) (a0_a_5_c : Nat) (a1_b_0 : Int) (a1_b_1 : Int) (a1_b_2 : Int) (a1_b_3 : Int) (a1_b_4_a : Option Addr) (a1_b_4_n : Nat) (a1_b_4_c : Nat) (a1_b_5_a : Option Addr) (a1_b_5_n : Nat) (a1_b_5_c : Nat) (R : Value → World → Prop) (w : World) : Prop :=
  ∀ b1, w.heap.size ≤ b1 →
  ∀ b2, w.heap.size ≤ b2 →
  brB (a0_a_0 == a1_b_0) (
    brB (a0_a_1 == a1_b_1) (
      brB (a0_a_2 == a1_b_2) (
        brB (a0_a_3 == a1_b_3) (
          ∀ w3, Adv [] [b2, b1] w w3 →
          Calls Try.prog 33 #[(.slice a0_a_4_a a0_a_4_n a0_a_4_c), (.slice a1_b_4_a a1_b_4_n a1_b_4_c)] w3 fun e w4 => ∃ t5 : Bool, e = .returned (.bool t5) ∧ Keep [b1, b2] w3 w4 ∧
          brB t5 (
            Calls Try.prog 34 #[(.slice a0_a_5_a a0_a_5_n a0_a_5_c), (.slice a1_b_5_a a1_b_5_n a1_b_5_c)] w4 fun e w6 => ∃ t7 : Bool, e = .returned (.bool t7) ∧ Keep [b1, b2] w4 w6 ∧
            R (.bool t7) w6)
          (
            R (.bool false) w4))
        (
          ∀ w8, Adv [] [b2, b1] w w8 →
          R (.bool false) w8))
      (
        ∀ w9, Adv [] [b2, b1] w w9 →
        R (.bool false) w9))
    (
      ∀ w10, Adv [] [b2, b1] w w10 →
      R (.bool false) w10))
  (
    ∀ w11, Adv [] [b2, b1] w w11 →
    R (.bool false) w11)
theorem ref04_Alike_eq (a0_a_0 : Int) (a0_a_1 : Int) (a0_a_2 : Int) (a0_a_3 : Int) (a0_a_4_a : Option Addr) (a0_a_4_n : Nat) (a0_a_4_c : Nat) (a0_a_5_a : Option Addr) (a0_a_5_n : Nat) (a0_a_5_c : Nat) (a1_b_0 : Int) (a1_b_1 : Int) (a1_b_2 : Int) (a1_b_3 : Int) (a1_b_4_a : Option Addr) (a1_b_4_n : Nat) (a1_b_4_c : Nat) (a1_b_5_a : Option Addr) (a1_b_5_n : Nat) (a1_b_5_c : Nat) (R : Value → World → Prop) (w : World) :
    dnF Try.prog ref04_Alike_an (code Try.f19) 400 [] (post3 Try.prog Try.f19 [] R) ⟨args0 0 [(.agg #[(.int .i64 a0_a_0), (.int .i64 a0_a_1), (.int .i64 a0_a_2), (.int .i64 a0_a_3), (.slice a0_a_4_a a0_a_4_n a0_a_4_c), (.slice a0_a_5_a a0_a_5_n a0_a_5_c)]), (.agg #[(.int .i64 a1_b_0), (.int .i64 a1_b_1), (.int .i64 a1_b_2), (.int .i64 a1_b_3), (.slice a1_b_4_a a1_b_4_n a1_b_4_c), (.slice a1_b_5_a a1_b_5_n a1_b_5_c)])], fun _ => undef⟩ ⟨[], w, [], [], true⟩ = ref04_Alike_T a0_a_0 a0_a_1 a0_a_2 a0_a_3 a0_a_4_a a0_a_4_n a0_a_4_c a0_a_5_a a0_a_5_n a0_a_5_c a1_b_0 a1_b_1 a1_b_2 a1_b_3 a1_b_4_a a1_b_4_n a1_b_4_c a1_b_5_a a1_b_5_n a1_b_5_c R w := by kernel_rfl
theorem ref04_Alike_go {a0_a_0 : Int} {a0_a_1 : Int} {a0_a_2 : Int} {a0_a_3 : Int} {a0_a_4_a : Option Addr} {a0_a_4_n : Nat} {a0_a_4_c : Nat} {a0_a_5_a : Option Addr} {a0_a_5_n : Nat} {a0_a_5_c : Nat} {a1_b_0 : Int} {a1_b_1 : Int} {a1_b_2 : Int} {a1_b_3 : Int} {a1_b_4_a : Option Addr} {a1_b_4_n : Nat} {a1_b_4_c : Nat} {a1_b_5_a : Option Addr} {a1_b_5_n : Nat} {a1_b_5_c : Nat} {R : Value → World → Prop} {w : World} (h : ref04_Alike_T a0_a_0 a0_a_1 a0_a_2 a0_a_3 a0_a_4_a a0_a_4_n a0_a_4_c a0_a_5_a a0_a_5_n a0_a_5_c a1_b_0 a1_b_1 a1_b_2 a1_b_3 a1_b_4_a a1_b_4_n a1_b_4_c a1_b_5_a a1_b_5_n a1_b_5_c R w) :
    Calls Try.prog 19 #[(.agg #[(.int .i64 a0_a_0), (.int .i64 a0_a_1), (.int .i64 a0_a_2), (.int .i64 a0_a_3), (.slice a0_a_4_a a0_a_4_n a0_a_4_c), (.slice a0_a_5_a a0_a_5_n a0_a_5_c)]), (.agg #[(.int .i64 a1_b_0), (.int .i64 a1_b_1), (.int .i64 a1_b_2), (.int .i64 a1_b_3), (.slice a1_b_4_a a1_b_4_n a1_b_4_c), (.slice a1_b_5_a a1_b_5_n a1_b_5_c)])] w fun e w' => ∃ v, e = .returned v ∧ R v w' :=
  calls_none Try.wide_mixed (f := 19) (args := [(.agg #[(.int .i64 a0_a_0), (.int .i64 a0_a_1), (.int .i64 a0_a_2), (.int .i64 a0_a_3), (.slice a0_a_4_a a0_a_4_n a0_a_4_c), (.slice a0_a_5_a a0_a_5_n a0_a_5_c)]), (.agg #[(.int .i64 a1_b_0), (.int .i64 a1_b_1), (.int .i64 a1_b_2), (.int .i64 a1_b_3), (.slice a1_b_4_a a1_b_4_n a1_b_4_c), (.slice a1_b_5_a a1_b_5_n a1_b_5_c)])]) Try.func19 rfl rfl (by kernel_rfl) rfl (Eq.mpr (ref04_Alike_eq a0_a_0 a0_a_1 a0_a_2 a0_a_3 a0_a_4_a a0_a_4_n a0_a_4_c a0_a_5_a a0_a_5_n a0_a_5_c a1_b_0 a1_b_1 a1_b_2 a1_b_3 a1_b_4_a a1_b_4_n a1_b_4_c a1_b_5_a a1_b_5_n a1_b_5_c R w) h)
def slices_Equal_api_Found_api_Found_la1 : LA := ⟨[0, 0, 1, 0, 1, 1], [0, 1, 12, 13], [], 0, []⟩
def slices_Equal_api_Found_api_Found_an : List LA := [slices_Equal_api_Found_api_Found_la1]
def slices_Equal_api_Found_api_Found_v1 (a_0 : Option Addr) (n_0 : Nat) (c_0 : Nat) (a_1 : Option Addr) (n_1 : Nat) (c_1 : Nat) (x_12 : Int) (x_13 : Int) : List Value := [(.slice a_0 n_0 c_0), (.slice a_1 n_1 c_1), (.int .i64 x_12), (.int .i64 x_13)]
def slices_Equal_api_Found_api_Found_m1 : List TB := []
def slices_Equal_api_Found_api_Found_L1 (a_0 : Option Addr) (n_0 : Nat) (c_0 : Nat) (a_1 : Option Addr) (n_1 : Nat) (c_1 : Nat) (x_12 : Int) (x_13 : Int) (K1 : Kh) (R : Value → World → Prop) (w : World) : Prop :=
  brB (decide (x_13 < x_12)) (
    ixA a_0 n_0 x_13 5 fun q1 =>
    ldInt .i64 w q1 fun x2 => ldBool w (Addr.add q1 1) fun t3 => ldStr w (Addr.add q1 2) fun s4 => ldBool w (Addr.add q1 3) fun t5 => ldStr w (Addr.add q1 4) fun s6 =>
    ixA a_1 n_1 x_13 5 fun q7 =>
    ldInt .i64 w q7 fun x8 => ldBool w (Addr.add q7 1) fun t9 => ldStr w (Addr.add q7 2) fun s10 => ldBool w (Addr.add q7 3) fun t11 => ldStr w (Addr.add q7 4) fun s12 =>
    ∃ t13 : Bool, (∀ w', Mod [] w w' → Sem.run Try.prog (do eqGuard .neq 62 (.tmp 19) (.tmp 23) (.agg #[(.int .i64 x2), (.bool t3), (.string s4), (.bool t5), (.string s6)]) (.agg #[(.int .i64 x8), (.bool t9), (.string s10), (.bool t11), (.string s12)]); Go.binOp .neq 62 (.agg #[(.int .i64 x2), (.bool t3), (.string s4), (.bool t5), (.string s6)]) (.agg #[(.int .i64 x8), (.bool t9), (.string s10), (.bool t11), (.string s12)])) w' = .ok (.bool t13) w') ∧
    brB t13 (
      ∀ w14, Adv [] [] w w14 →
      R (.bool false) w14)
    (
      ∀ w15, Adv [] [] w w15 →
      K1 (slices_Equal_api_Found_api_Found_v1 a_0 n_0 c_0 a_1 n_1 c_1 x_12 (IntKind.wrap .i64 (x_13 + 1))) (slices_Equal_api_Found_api_Found_m1) w15))
  (
    R (.bool true) w)
theorem slices_Equal_api_Found_api_Found_L1_eq (a_0 : Option Addr) (n_0 : Nat) (c_0 : Nat) (a_1 : Option Addr) (n_1 : Nat) (c_1 : Nat) (x_12 : Int) (x_13 : Int) (K1 : Kh) (js : Nat → Value) (R : Value → World → Prop) (w : World) :
    headA slices_Equal_api_Found_api_Found_la1 ((dnF Try.prog slices_Equal_api_Found_api_Found_an (code Try.f43) 396 [0, 0, 1, 0, 1, 1]) (kthen3 (atA slices_Equal_api_Found_api_Found_la1 K1) (kont3 Try.prog slices_Equal_api_Found_api_Found_an (code Try.f43) [1, 1, 0, 1, 0] [] (post3 Try.prog Try.f43 [] R)))) (slices_Equal_api_Found_api_Found_v1 a_0 n_0 c_0 a_1 n_1 c_1 x_12 x_13) js (slices_Equal_api_Found_api_Found_m1) w = slices_Equal_api_Found_api_Found_L1 a_0 n_0 c_0 a_1 n_1 c_1 x_12 x_13 K1 R w := by kernel_rfl
def slices_Equal_api_Found_api_Found_K1 (a_0 : Option Addr) (n_0 : Nat) (c_0 : Nat) (a_1 : Option Addr) (n_1 : Nat) (c_1 : Nat) (x_12 : Int) (I : Nat → Int → World → Prop) (m : Nat) (vals : List Value) (mem : List TB) (w : World) : Prop := ∃ m', m' < m ∧ ∃ x_13, vals = (slices_Equal_api_Found_api_Found_v1 a_0 n_0 c_0 a_1 n_1 c_1 x_12 x_13) ∧ mem = (slices_Equal_api_Found_api_Found_m1) ∧ I m' x_13 w
theorem slices_Equal_api_Found_api_Found_leaf1 {a_0 : Option Addr} {n_0 : Nat} {c_0 : Nat} {a_1 : Option Addr} {n_1 : Nat} {c_1 : Nat} {x_12 : Int} {I : Nat → Int → World → Prop} {m : Nat} {x_13 : Int} {w : World} (m' : Nat) (h1 : m' < m) (h2 : I m' x_13 w) : slices_Equal_api_Found_api_Found_K1 a_0 n_0 c_0 a_1 n_1 c_1 x_12 I m (slices_Equal_api_Found_api_Found_v1 a_0 n_0 c_0 a_1 n_1 c_1 x_12 x_13) (slices_Equal_api_Found_api_Found_m1) w := ⟨m', h1, _, rfl, rfl, h2⟩
theorem slices_Equal_api_Found_api_Found_rule1 {a_0 : Option Addr} {n_0 : Nat} {c_0 : Nat} {a_1 : Option Addr} {n_1 : Nat} {c_1 : Nat} {x_12 : Int} {x_130 : Int} {R : Value → World → Prop} {w0 : World} (I : Nat → Int → World → Prop) (m0 : Nat) (h0 : I m0 x_130 w0)
    (hr : ∀ (m : Nat) (x_13 : Int) (w : World), I m x_13 w → slices_Equal_api_Found_api_Found_L1 a_0 n_0 c_0 a_1 n_1 c_1 x_12 x_13 (slices_Equal_api_Found_api_Found_K1 a_0 n_0 c_0 a_1 n_1 c_1 x_12 I m) R w) :
    loopD3 slices_Equal_api_Found_api_Found_la1 (dnF Try.prog slices_Equal_api_Found_api_Found_an (code Try.f43) 396 [0, 0, 1, 0, 1, 1]) (kont3 Try.prog slices_Equal_api_Found_api_Found_an (code Try.f43) [1, 1, 0, 1, 0] [] (post3 Try.prog Try.f43 [] R)) (slices_Equal_api_Found_api_Found_v1 a_0 n_0 c_0 a_1 n_1 c_1 x_12 x_130) (slices_Equal_api_Found_api_Found_m1) w0 := by
  refine ⟨fun m vals mem w => ∃ x_13, vals = (slices_Equal_api_Found_api_Found_v1 a_0 n_0 c_0 a_1 n_1 c_1 x_12 x_13) ∧ mem = (slices_Equal_api_Found_api_Found_m1) ∧ I m x_13 w, m0, ⟨_, rfl, rfl, h0⟩, ?_⟩
  rintro m vals mem w ⟨x_13, rfl, rfl, hI⟩
  refine ⟨rfl, rfl, fun js => ?_⟩
  have h := hr m x_13 w hI
  rw [← slices_Equal_api_Found_api_Found_L1_eq _ _ _ _ _ _ _ _ _ js] at h
  exact h
/-- slices.Equal[[]stagecoach/api.Found,stagecoach/api.Found] -/
def slices_Equal_api_Found_api_Found_T (a0_s1_a : Option Addr) (a0_s1_n : Nat) (a0_s1_c : Nat) (a1_s2_a : Option Addr) (a1_s2_n : Nat) (a1_s2_c : Nat) (R : Value → World → Prop) (w : World) : Prop :=
  brB ((a0_s1_n : Int) != (a1_s2_n : Int)) (
    R (.bool false) w)
  (
    loopD3 slices_Equal_api_Found_api_Found_la1 (dnF Try.prog slices_Equal_api_Found_api_Found_an (code Try.f43) 396 [0, 0, 1, 0, 1, 1]) (kont3 Try.prog slices_Equal_api_Found_api_Found_an (code Try.f43) [1, 1, 0, 1, 0] [] (post3 Try.prog Try.f43 [] R)) (slices_Equal_api_Found_api_Found_v1 a0_s1_a a0_s1_n a0_s1_c a1_s2_a a1_s2_n a1_s2_c (a0_s1_n : Int) 0) (slices_Equal_api_Found_api_Found_m1) w)
theorem slices_Equal_api_Found_api_Found_eq (a0_s1_a : Option Addr) (a0_s1_n : Nat) (a0_s1_c : Nat) (a1_s2_a : Option Addr) (a1_s2_n : Nat) (a1_s2_c : Nat) (R : Value → World → Prop) (w : World) :
    dnF Try.prog slices_Equal_api_Found_api_Found_an (code Try.f43) 400 [] (post3 Try.prog Try.f43 [] R) ⟨args0 0 [(.slice a0_s1_a a0_s1_n a0_s1_c), (.slice a1_s2_a a1_s2_n a1_s2_c)], fun _ => undef⟩ ⟨[], w, [], [], true⟩ = slices_Equal_api_Found_api_Found_T a0_s1_a a0_s1_n a0_s1_c a1_s2_a a1_s2_n a1_s2_c R w := by kernel_rfl
theorem slices_Equal_api_Found_api_Found_go {a0_s1_a : Option Addr} {a0_s1_n : Nat} {a0_s1_c : Nat} {a1_s2_a : Option Addr} {a1_s2_n : Nat} {a1_s2_c : Nat} {R : Value → World → Prop} {w : World} (h : slices_Equal_api_Found_api_Found_T a0_s1_a a0_s1_n a0_s1_c a1_s2_a a1_s2_n a1_s2_c R w) :
    Calls Try.prog 43 #[(.slice a0_s1_a a0_s1_n a0_s1_c), (.slice a1_s2_a a1_s2_n a1_s2_c)] w fun e w' => ∃ v, e = .returned v ∧ R v w' :=
  calls_none Try.wide_mixed (f := 43) (args := [(.slice a0_s1_a a0_s1_n a0_s1_c), (.slice a1_s2_a a1_s2_n a1_s2_c)]) Try.func43 rfl rfl (by kernel_rfl) rfl (Eq.mpr (slices_Equal_api_Found_api_Found_eq a0_s1_a a0_s1_n a0_s1_c a1_s2_a a1_s2_n a1_s2_c R w) h)
def slices_Equal_api_Part_api_Part_la1 : LA := ⟨[0, 0, 1, 0, 1, 1], [0, 1, 12, 13], [], 0, []⟩
def slices_Equal_api_Part_api_Part_an : List LA := [slices_Equal_api_Part_api_Part_la1]
def slices_Equal_api_Part_api_Part_v1 (a_0 : Option Addr) (n_0 : Nat) (c_0 : Nat) (a_1 : Option Addr) (n_1 : Nat) (c_1 : Nat) (x_12 : Int) (x_13 : Int) : List Value := [(.slice a_0 n_0 c_0), (.slice a_1 n_1 c_1), (.int .i64 x_12), (.int .i64 x_13)]
def slices_Equal_api_Part_api_Part_m1 : List TB := []
def slices_Equal_api_Part_api_Part_L1 (a_0 : Option Addr) (n_0 : Nat) (c_0 : Nat) (a_1 : Option Addr) (n_1 : Nat) (c_1 : Nat) (x_12 : Int) (x_13 : Int) (K1 : Kh) (R : Value → World → Prop) (w : World) : Prop :=
  brB (decide (x_13 < x_12)) (
    ixA a_0 n_0 x_13 2 fun q1 =>
    ldStr w q1 fun s2 => ldInt .i64 w (Addr.add q1 1) fun x3 =>
    ixA a_1 n_1 x_13 2 fun q4 =>
    ldStr w q4 fun s5 => ldInt .i64 w (Addr.add q4 1) fun x6 =>
    ∃ t7 : Bool, (∀ w', Mod [] w w' → Sem.run Try.prog (do eqGuard .neq 58 (.tmp 19) (.tmp 23) (.agg #[(.string s2), (.int .i64 x3)]) (.agg #[(.string s5), (.int .i64 x6)]); Go.binOp .neq 58 (.agg #[(.string s2), (.int .i64 x3)]) (.agg #[(.string s5), (.int .i64 x6)])) w' = .ok (.bool t7) w') ∧
    brB t7 (
      ∀ w8, Adv [] [] w w8 →
      R (.bool false) w8)
    (
      ∀ w9, Adv [] [] w w9 →
      K1 (slices_Equal_api_Part_api_Part_v1 a_0 n_0 c_0 a_1 n_1 c_1 x_12 (IntKind.wrap .i64 (x_13 + 1))) (slices_Equal_api_Part_api_Part_m1) w9))
  (
    R (.bool true) w)
theorem slices_Equal_api_Part_api_Part_L1_eq (a_0 : Option Addr) (n_0 : Nat) (c_0 : Nat) (a_1 : Option Addr) (n_1 : Nat) (c_1 : Nat) (x_12 : Int) (x_13 : Int) (K1 : Kh) (js : Nat → Value) (R : Value → World → Prop) (w : World) :
    headA slices_Equal_api_Part_api_Part_la1 ((dnF Try.prog slices_Equal_api_Part_api_Part_an (code Try.f44) 396 [0, 0, 1, 0, 1, 1]) (kthen3 (atA slices_Equal_api_Part_api_Part_la1 K1) (kont3 Try.prog slices_Equal_api_Part_api_Part_an (code Try.f44) [1, 1, 0, 1, 0] [] (post3 Try.prog Try.f44 [] R)))) (slices_Equal_api_Part_api_Part_v1 a_0 n_0 c_0 a_1 n_1 c_1 x_12 x_13) js (slices_Equal_api_Part_api_Part_m1) w = slices_Equal_api_Part_api_Part_L1 a_0 n_0 c_0 a_1 n_1 c_1 x_12 x_13 K1 R w := by kernel_rfl
def slices_Equal_api_Part_api_Part_K1 (a_0 : Option Addr) (n_0 : Nat) (c_0 : Nat) (a_1 : Option Addr) (n_1 : Nat) (c_1 : Nat) (x_12 : Int) (I : Nat → Int → World → Prop) (m : Nat) (vals : List Value) (mem : List TB) (w : World) : Prop := ∃ m', m' < m ∧ ∃ x_13, vals = (slices_Equal_api_Part_api_Part_v1 a_0 n_0 c_0 a_1 n_1 c_1 x_12 x_13) ∧ mem = (slices_Equal_api_Part_api_Part_m1) ∧ I m' x_13 w
theorem slices_Equal_api_Part_api_Part_leaf1 {a_0 : Option Addr} {n_0 : Nat} {c_0 : Nat} {a_1 : Option Addr} {n_1 : Nat} {c_1 : Nat} {x_12 : Int} {I : Nat → Int → World → Prop} {m : Nat} {x_13 : Int} {w : World} (m' : Nat) (h1 : m' < m) (h2 : I m' x_13 w) : slices_Equal_api_Part_api_Part_K1 a_0 n_0 c_0 a_1 n_1 c_1 x_12 I m (slices_Equal_api_Part_api_Part_v1 a_0 n_0 c_0 a_1 n_1 c_1 x_12 x_13) (slices_Equal_api_Part_api_Part_m1) w := ⟨m', h1, _, rfl, rfl, h2⟩
theorem slices_Equal_api_Part_api_Part_rule1 {a_0 : Option Addr} {n_0 : Nat} {c_0 : Nat} {a_1 : Option Addr} {n_1 : Nat} {c_1 : Nat} {x_12 : Int} {x_130 : Int} {R : Value → World → Prop} {w0 : World} (I : Nat → Int → World → Prop) (m0 : Nat) (h0 : I m0 x_130 w0)
    (hr : ∀ (m : Nat) (x_13 : Int) (w : World), I m x_13 w → slices_Equal_api_Part_api_Part_L1 a_0 n_0 c_0 a_1 n_1 c_1 x_12 x_13 (slices_Equal_api_Part_api_Part_K1 a_0 n_0 c_0 a_1 n_1 c_1 x_12 I m) R w) :
    loopD3 slices_Equal_api_Part_api_Part_la1 (dnF Try.prog slices_Equal_api_Part_api_Part_an (code Try.f44) 396 [0, 0, 1, 0, 1, 1]) (kont3 Try.prog slices_Equal_api_Part_api_Part_an (code Try.f44) [1, 1, 0, 1, 0] [] (post3 Try.prog Try.f44 [] R)) (slices_Equal_api_Part_api_Part_v1 a_0 n_0 c_0 a_1 n_1 c_1 x_12 x_130) (slices_Equal_api_Part_api_Part_m1) w0 := by
  refine ⟨fun m vals mem w => ∃ x_13, vals = (slices_Equal_api_Part_api_Part_v1 a_0 n_0 c_0 a_1 n_1 c_1 x_12 x_13) ∧ mem = (slices_Equal_api_Part_api_Part_m1) ∧ I m x_13 w, m0, ⟨_, rfl, rfl, h0⟩, ?_⟩
  rintro m vals mem w ⟨x_13, rfl, rfl, hI⟩
  refine ⟨rfl, rfl, fun js => ?_⟩
  have h := hr m x_13 w hI
  rw [← slices_Equal_api_Part_api_Part_L1_eq _ _ _ _ _ _ _ _ _ js] at h
  exact h
/-- slices.Equal[[]stagecoach/api.Part,stagecoach/api.Part] -/
def slices_Equal_api_Part_api_Part_T (a0_s1_a : Option Addr) (a0_s1_n : Nat) (a0_s1_c : Nat) (a1_s2_a : Option Addr) (a1_s2_n : Nat) (a1_s2_c : Nat) (R : Value → World → Prop) (w : World) : Prop :=
  brB ((a0_s1_n : Int) != (a1_s2_n : Int)) (
    R (.bool false) w)
  (
    loopD3 slices_Equal_api_Part_api_Part_la1 (dnF Try.prog slices_Equal_api_Part_api_Part_an (code Try.f44) 396 [0, 0, 1, 0, 1, 1]) (kont3 Try.prog slices_Equal_api_Part_api_Part_an (code Try.f44) [1, 1, 0, 1, 0] [] (post3 Try.prog Try.f44 [] R)) (slices_Equal_api_Part_api_Part_v1 a0_s1_a a0_s1_n a0_s1_c a1_s2_a a1_s2_n a1_s2_c (a0_s1_n : Int) 0) (slices_Equal_api_Part_api_Part_m1) w)
theorem slices_Equal_api_Part_api_Part_eq (a0_s1_a : Option Addr) (a0_s1_n : Nat) (a0_s1_c : Nat) (a1_s2_a : Option Addr) (a1_s2_n : Nat) (a1_s2_c : Nat) (R : Value → World → Prop) (w : World) :
    dnF Try.prog slices_Equal_api_Part_api_Part_an (code Try.f44) 400 [] (post3 Try.prog Try.f44 [] R) ⟨args0 0 [(.slice a0_s1_a a0_s1_n a0_s1_c), (.slice a1_s2_a a1_s2_n a1_s2_c)], fun _ => undef⟩ ⟨[], w, [], [], true⟩ = slices_Equal_api_Part_api_Part_T a0_s1_a a0_s1_n a0_s1_c a1_s2_a a1_s2_n a1_s2_c R w := by kernel_rfl
theorem slices_Equal_api_Part_api_Part_go {a0_s1_a : Option Addr} {a0_s1_n : Nat} {a0_s1_c : Nat} {a1_s2_a : Option Addr} {a1_s2_n : Nat} {a1_s2_c : Nat} {R : Value → World → Prop} {w : World} (h : slices_Equal_api_Part_api_Part_T a0_s1_a a0_s1_n a0_s1_c a1_s2_a a1_s2_n a1_s2_c R w) :
    Calls Try.prog 44 #[(.slice a0_s1_a a0_s1_n a0_s1_c), (.slice a1_s2_a a1_s2_n a1_s2_c)] w fun e w' => ∃ v, e = .returned v ∧ R v w' :=
  calls_none Try.wide_mixed (f := 44) (args := [(.slice a0_s1_a a0_s1_n a0_s1_c), (.slice a1_s2_a a1_s2_n a1_s2_c)]) Try.func44 rfl rfl (by kernel_rfl) rfl (Eq.mpr (slices_Equal_api_Part_api_Part_eq a0_s1_a a0_s1_n a0_s1_c a1_s2_a a1_s2_n a1_s2_c R w) h)
def request_Alike_an : List LA := []
/-- stagecoach/request.Alike -/
def request_Alike_T (a0_a_0 : Int) (a0_a_1 : Int) (a0_a_2 : Int) (a0_a_3 : Int) (a0_a_4_a : Option Addr) (a0_a_4_n : Nat) (a0_a_4_c : Nat) (a0_a_5_a : Option Addr) (a0_a_5_n : Nat) (a0_a_5_c : Nat) (a1_b_0 : Int) (a1_b_1 : Int) (a1_b_2 : Int) (a1_b_3 : Int) (a1_b_4_a : Option Addr) (a1_b_4_n : Nat) (a1_b_4_c : Nat) (a1_b_5_a : Option Addr) (a1_b_5_n : Nat) (a1_b_5_c : Nat) (R : Value → World → Prop) (w : World) : Prop :=
  ∀ b1, w.heap.size ≤ b1 →
  ∀ b2, w.heap.size ≤ b2 →
  brB (a0_a_0 == a1_b_0) (
    brB (a0_a_1 == a1_b_1) (
      brB (a0_a_2 == a1_b_2) (
        brB (a0_a_3 == a1_b_3) (
          ∀ w3, Adv [] [b2, b1] w w3 →
          Calls Try.prog 43 #[(.slice a0_a_4_a a0_a_4_n a0_a_4_c), (.slice a1_b_4_a a1_b_4_n a1_b_4_c)] w3 fun e w4 => ∃ t5 : Bool, e = .returned (.bool t5) ∧ Keep [b1, b2] w3 w4 ∧
          brB t5 (
            Calls Try.prog 44 #[(.slice a0_a_5_a a0_a_5_n a0_a_5_c), (.slice a1_b_5_a a1_b_5_n a1_b_5_c)] w4 fun e w6 => ∃ t7 : Bool, e = .returned (.bool t7) ∧ Keep [b1, b2] w4 w6 ∧
            R (.bool t7) w6)
          (
            R (.bool false) w4))
        (
          ∀ w8, Adv [] [b2, b1] w w8 →
          R (.bool false) w8))
      (
        ∀ w9, Adv [] [b2, b1] w w9 →
        R (.bool false) w9))
    (
      ∀ w10, Adv [] [b2, b1] w w10 →
      R (.bool false) w10))
  (
    ∀ w11, Adv [] [b2, b1] w w11 →
    R (.bool false) w11)
theorem request_Alike_eq (a0_a_0 : Int) (a0_a_1 : Int) (a0_a_2 : Int) (a0_a_3 : Int) (a0_a_4_a : Option Addr) (a0_a_4_n : Nat) (a0_a_4_c : Nat) (a0_a_5_a : Option Addr) (a0_a_5_n : Nat) (a0_a_5_c : Nat) (a1_b_0 : Int) (a1_b_1 : Int) (a1_b_2 : Int) (a1_b_3 : Int) (a1_b_4_a : Option Addr) (a1_b_4_n : Nat) (a1_b_4_c : Nat) (a1_b_5_a : Option Addr) (a1_b_5_n : Nat) (a1_b_5_c : Nat) (R : Value → World → Prop) (w : World) :
    dnF Try.prog request_Alike_an (code Try.f25) 400 [] (post3 Try.prog Try.f25 [] R) ⟨args0 0 [(.agg #[(.int .i64 a0_a_0), (.int .i64 a0_a_1), (.int .i64 a0_a_2), (.int .i64 a0_a_3), (.slice a0_a_4_a a0_a_4_n a0_a_4_c), (.slice a0_a_5_a a0_a_5_n a0_a_5_c)]), (.agg #[(.int .i64 a1_b_0), (.int .i64 a1_b_1), (.int .i64 a1_b_2), (.int .i64 a1_b_3), (.slice a1_b_4_a a1_b_4_n a1_b_4_c), (.slice a1_b_5_a a1_b_5_n a1_b_5_c)])], fun _ => undef⟩ ⟨[], w, [], [], true⟩ = request_Alike_T a0_a_0 a0_a_1 a0_a_2 a0_a_3 a0_a_4_a a0_a_4_n a0_a_4_c a0_a_5_a a0_a_5_n a0_a_5_c a1_b_0 a1_b_1 a1_b_2 a1_b_3 a1_b_4_a a1_b_4_n a1_b_4_c a1_b_5_a a1_b_5_n a1_b_5_c R w := by kernel_rfl
theorem request_Alike_go {a0_a_0 : Int} {a0_a_1 : Int} {a0_a_2 : Int} {a0_a_3 : Int} {a0_a_4_a : Option Addr} {a0_a_4_n : Nat} {a0_a_4_c : Nat} {a0_a_5_a : Option Addr} {a0_a_5_n : Nat} {a0_a_5_c : Nat} {a1_b_0 : Int} {a1_b_1 : Int} {a1_b_2 : Int} {a1_b_3 : Int} {a1_b_4_a : Option Addr} {a1_b_4_n : Nat} {a1_b_4_c : Nat} {a1_b_5_a : Option Addr} {a1_b_5_n : Nat} {a1_b_5_c : Nat} {R : Value → World → Prop} {w : World} (h : request_Alike_T a0_a_0 a0_a_1 a0_a_2 a0_a_3 a0_a_4_a a0_a_4_n a0_a_4_c a0_a_5_a a0_a_5_n a0_a_5_c a1_b_0 a1_b_1 a1_b_2 a1_b_3 a1_b_4_a a1_b_4_n a1_b_4_c a1_b_5_a a1_b_5_n a1_b_5_c R w) :
    Calls Try.prog 25 #[(.agg #[(.int .i64 a0_a_0), (.int .i64 a0_a_1), (.int .i64 a0_a_2), (.int .i64 a0_a_3), (.slice a0_a_4_a a0_a_4_n a0_a_4_c), (.slice a0_a_5_a a0_a_5_n a0_a_5_c)]), (.agg #[(.int .i64 a1_b_0), (.int .i64 a1_b_1), (.int .i64 a1_b_2), (.int .i64 a1_b_3), (.slice a1_b_4_a a1_b_4_n a1_b_4_c), (.slice a1_b_5_a a1_b_5_n a1_b_5_c)])] w fun e w' => ∃ v, e = .returned v ∧ R v w' :=
  calls_none Try.wide_mixed (f := 25) (args := [(.agg #[(.int .i64 a0_a_0), (.int .i64 a0_a_1), (.int .i64 a0_a_2), (.int .i64 a0_a_3), (.slice a0_a_4_a a0_a_4_n a0_a_4_c), (.slice a0_a_5_a a0_a_5_n a0_a_5_c)]), (.agg #[(.int .i64 a1_b_0), (.int .i64 a1_b_1), (.int .i64 a1_b_2), (.int .i64 a1_b_3), (.slice a1_b_4_a a1_b_4_n a1_b_4_c), (.slice a1_b_5_a a1_b_5_n a1_b_5_c)])]) Try.func25 rfl rfl (by kernel_rfl) rfl (Eq.mpr (request_Alike_eq a0_a_0 a0_a_1 a0_a_2 a0_a_3 a0_a_4_a a0_a_4_n a0_a_4_c a0_a_5_a a0_a_5_n a0_a_5_c a1_b_0 a1_b_1 a1_b_2 a1_b_3 a1_b_4_a a1_b_4_n a1_b_4_c a1_b_5_a a1_b_5_n a1_b_5_c R w) h)
def clients_number_an : List LA := []
/-- stagecoach/clients.number -/
def clients_number_T (a0_n : Int) (R : Value → World → Prop) (w : World) : Prop :=
  brB (decide (a0_n ≥ 1)) (
    R (.bool (decide (a0_n ≤ 1099511627776))) w)
  (
    R (.bool false) w)
theorem clients_number_eq (a0_n : Int) (R : Value → World → Prop) (w : World) :
    dnF Try.prog clients_number_an (code Try.f26) 400 [] (post3 Try.prog Try.f26 [] R) ⟨args0 0 [(.int .i64 a0_n)], fun _ => undef⟩ ⟨[], w, [], [], true⟩ = clients_number_T a0_n R w := by kernel_rfl
theorem clients_number_go {a0_n : Int} {R : Value → World → Prop} {w : World} (h : clients_number_T a0_n R w) :
    Calls Try.prog 26 #[(.int .i64 a0_n)] w fun e w' => ∃ v, e = .returned v ∧ R v w' :=
  calls_none Try.wide_mixed (f := 26) (args := [(.int .i64 a0_n)]) Try.func26 rfl rfl (by kernel_rfl) rfl (Eq.mpr (clients_number_eq a0_n R w) h)
def ref15_number_an : List LA := []
/-- stagecoach/stagecoachref15.number -/
def ref15_number_T (a0_n : Int) (R : Value → World → Prop) (w : World) : Prop :=
  brB (decide (a0_n ≥ 1)) (
    R (.bool (decide (a0_n ≤ 1099511627776))) w)
  (
    R (.bool false) w)
theorem ref15_number_eq (a0_n : Int) (R : Value → World → Prop) (w : World) :
    dnF Try.prog ref15_number_an (code Try.f28) 400 [] (post3 Try.prog Try.f28 [] R) ⟨args0 0 [(.int .i64 a0_n)], fun _ => undef⟩ ⟨[], w, [], [], true⟩ = ref15_number_T a0_n R w := by kernel_rfl
theorem ref15_number_go {a0_n : Int} {R : Value → World → Prop} {w : World} (h : ref15_number_T a0_n R w) :
    Calls Try.prog 28 #[(.int .i64 a0_n)] w fun e w' => ∃ v, e = .returned v ∧ R v w' :=
  calls_none Try.wide_mixed (f := 28) (args := [(.int .i64 a0_n)]) Try.func28 rfl rfl (by kernel_rfl) rfl (Eq.mpr (ref15_number_eq a0_n R w) h)
def slices_Clone_api_Found_api_Found_an : List LA := []
/-- slices.Clone[[]stagecoach/api.Found,stagecoach/api.Found] -/
def slices_Clone_api_Found_api_Found_T (a0_s_a : Option Addr) (a0_s_n : Nat) (a0_s_c : Nat) (R : Value → World → Prop) (w : World) : Prop :=
  brB (Option.isNone a0_s_a) (
    R (.slice none 0 0) w)
  (
    al w (.cells #[] 62) fun b1 w2 =>
    effSl Try.prog (Builtin.append_ #[24, 24] 24 #[(.slice (some ⟨b1, 0, none⟩) 0 0), (.slice a0_s_a a0_s_n a0_s_c)]) w2 fun a4 n5 c6 w3 =>
    R (.slice a4 n5 c6) w3)
theorem slices_Clone_api_Found_api_Found_eq (a0_s_a : Option Addr) (a0_s_n : Nat) (a0_s_c : Nat) (R : Value → World → Prop) (w : World) :
    dnF Try.prog slices_Clone_api_Found_api_Found_an (code Try.f45) 400 [] (post3 Try.prog Try.f45 [] R) ⟨args0 0 [(.slice a0_s_a a0_s_n a0_s_c)], fun _ => undef⟩ ⟨[], w, [], [], true⟩ = slices_Clone_api_Found_api_Found_T a0_s_a a0_s_n a0_s_c R w := by kernel_rfl
theorem slices_Clone_api_Found_api_Found_go {a0_s_a : Option Addr} {a0_s_n : Nat} {a0_s_c : Nat} {R : Value → World → Prop} {w : World} (h : slices_Clone_api_Found_api_Found_T a0_s_a a0_s_n a0_s_c R w) :
    Calls Try.prog 45 #[(.slice a0_s_a a0_s_n a0_s_c)] w fun e w' => ∃ v, e = .returned v ∧ R v w' :=
  calls_none Try.wide_mixed (f := 45) (args := [(.slice a0_s_a a0_s_n a0_s_c)]) Try.func45 rfl rfl (by kernel_rfl) rfl (Eq.mpr (slices_Clone_api_Found_api_Found_eq a0_s_a a0_s_n a0_s_c R w) h)
def slices_Clone_api_Part_api_Part_an : List LA := []
/-- slices.Clone[[]stagecoach/api.Part,stagecoach/api.Part] -/
def slices_Clone_api_Part_api_Part_T (a0_s_a : Option Addr) (a0_s_n : Nat) (a0_s_c : Nat) (R : Value → World → Prop) (w : World) : Prop :=
  brB (Option.isNone a0_s_a) (
    R (.slice none 0 0) w)
  (
    al w (.cells #[] 58) fun b1 w2 =>
    effSl Try.prog (Builtin.append_ #[25, 25] 25 #[(.slice (some ⟨b1, 0, none⟩) 0 0), (.slice a0_s_a a0_s_n a0_s_c)]) w2 fun a4 n5 c6 w3 =>
    R (.slice a4 n5 c6) w3)
theorem slices_Clone_api_Part_api_Part_eq (a0_s_a : Option Addr) (a0_s_n : Nat) (a0_s_c : Nat) (R : Value → World → Prop) (w : World) :
    dnF Try.prog slices_Clone_api_Part_api_Part_an (code Try.f46) 400 [] (post3 Try.prog Try.f46 [] R) ⟨args0 0 [(.slice a0_s_a a0_s_n a0_s_c)], fun _ => undef⟩ ⟨[], w, [], [], true⟩ = slices_Clone_api_Part_api_Part_T a0_s_a a0_s_n a0_s_c R w := by kernel_rfl
theorem slices_Clone_api_Part_api_Part_go {a0_s_a : Option Addr} {a0_s_n : Nat} {a0_s_c : Nat} {R : Value → World → Prop} {w : World} (h : slices_Clone_api_Part_api_Part_T a0_s_a a0_s_n a0_s_c R w) :
    Calls Try.prog 46 #[(.slice a0_s_a a0_s_n a0_s_c)] w fun e w' => ∃ v, e = .returned v ∧ R v w' :=
  calls_none Try.wide_mixed (f := 46) (args := [(.slice a0_s_a a0_s_n a0_s_c)]) Try.func46 rfl rfl (by kernel_rfl) rfl (Eq.mpr (slices_Clone_api_Part_api_Part_eq a0_s_a a0_s_n a0_s_c R w) h)
def clients_own_an : List LA := []
/-- stagecoach/clients.own -/
def clients_own_T (a0_r_0 : Int) (a0_r_1 : Int) (a0_r_2 : Int) (a0_r_3 : Int) (a0_r_4_a : Option Addr) (a0_r_4_n : Nat) (a0_r_4_c : Nat) (a0_r_5_a : Option Addr) (a0_r_5_n : Nat) (a0_r_5_c : Nat) (R : Value → World → Prop) (w : World) : Prop :=
  ∀ b1, w.heap.size ≤ b1 →
  ∀ b2, w.heap.size ≤ b2 →
  ∀ w3, Adv [] [b2, b1] w w3 →
  Calls Try.prog 45 #[(.slice a0_r_4_a a0_r_4_n a0_r_4_c)] w3 fun e w4 => ∃ (a5 : Option Addr) (n6 c7 : Nat), e = .returned (.slice a5 n6 c7) ∧ Keep [b1, b2] w3 w4 ∧ (((.slice a0_r_5_a a0_r_5_n a0_r_5_c) : Value) = (.slice a0_r_5_a a0_r_5_n a0_r_5_c)) ∧
  Calls Try.prog 46 #[(.slice a0_r_5_a a0_r_5_n a0_r_5_c)] w4 fun e w8 => ∃ (a9 : Option Addr) (n10 c11 : Nat), e = .returned (.slice a9 n10 c11) ∧ Keep [b1, b2] w4 w8 ∧
  ∀ w12, Adv [b2, b1] [] w8 w12 →
  R (.agg #[(.int .i64 a0_r_0), (.int .i64 a0_r_1), (.int .i64 a0_r_2), (.int .i64 a0_r_3), (.slice a5 n6 c7), (.slice a9 n10 c11)]) w12
theorem clients_own_eq (a0_r_0 : Int) (a0_r_1 : Int) (a0_r_2 : Int) (a0_r_3 : Int) (a0_r_4_a : Option Addr) (a0_r_4_n : Nat) (a0_r_4_c : Nat) (a0_r_5_a : Option Addr) (a0_r_5_n : Nat) (a0_r_5_c : Nat) (R : Value → World → Prop) (w : World) :
    dnF Try.prog clients_own_an (code Try.f27) 400 [] (post3 Try.prog Try.f27 [] R) ⟨args0 0 [(.agg #[(.int .i64 a0_r_0), (.int .i64 a0_r_1), (.int .i64 a0_r_2), (.int .i64 a0_r_3), (.slice a0_r_4_a a0_r_4_n a0_r_4_c), (.slice a0_r_5_a a0_r_5_n a0_r_5_c)])], fun _ => undef⟩ ⟨[], w, [], [], true⟩ = clients_own_T a0_r_0 a0_r_1 a0_r_2 a0_r_3 a0_r_4_a a0_r_4_n a0_r_4_c a0_r_5_a a0_r_5_n a0_r_5_c R w := by kernel_rfl
theorem clients_own_go {a0_r_0 : Int} {a0_r_1 : Int} {a0_r_2 : Int} {a0_r_3 : Int} {a0_r_4_a : Option Addr} {a0_r_4_n : Nat} {a0_r_4_c : Nat} {a0_r_5_a : Option Addr} {a0_r_5_n : Nat} {a0_r_5_c : Nat} {R : Value → World → Prop} {w : World} (h : clients_own_T a0_r_0 a0_r_1 a0_r_2 a0_r_3 a0_r_4_a a0_r_4_n a0_r_4_c a0_r_5_a a0_r_5_n a0_r_5_c R w) :
    Calls Try.prog 27 #[(.agg #[(.int .i64 a0_r_0), (.int .i64 a0_r_1), (.int .i64 a0_r_2), (.int .i64 a0_r_3), (.slice a0_r_4_a a0_r_4_n a0_r_4_c), (.slice a0_r_5_a a0_r_5_n a0_r_5_c)])] w fun e w' => ∃ v, e = .returned v ∧ R v w' :=
  calls_none Try.wide_mixed (f := 27) (args := [(.agg #[(.int .i64 a0_r_0), (.int .i64 a0_r_1), (.int .i64 a0_r_2), (.int .i64 a0_r_3), (.slice a0_r_4_a a0_r_4_n a0_r_4_c), (.slice a0_r_5_a a0_r_5_n a0_r_5_c)])]) Try.func27 rfl rfl (by kernel_rfl) rfl (Eq.mpr (clients_own_eq a0_r_0 a0_r_1 a0_r_2 a0_r_3 a0_r_4_a a0_r_4_n a0_r_4_c a0_r_5_a a0_r_5_n a0_r_5_c R w) h)
def ref15_reply_an : List LA := []
/-- stagecoach/stagecoachref15.reply -/
def ref15_reply_T (a0_r_0 : Int) (a0_r_1 : Int) (a0_r_2 : Int) (a0_r_3 : Int) (a0_r_4_a : Option Addr) (a0_r_4_n : Nat) (a0_r_4_c : Nat) (a0_r_5_a : Option Addr) (a0_r_5_n : Nat) (a0_r_5_c : Nat) (R : Value → World → Prop) (w : World) : Prop :=
  ∀ b1, w.heap.size ≤ b1 →
  ∀ b2, w.heap.size ≤ b2 →
  ∀ w3, Adv [] [b2, b1] w w3 →
  al w3 (.cells #[] 62) fun b4 w5 =>
  effSl Try.prog (Builtin.append_ #[24, 24] 24 #[(.slice (some ⟨b4, 0, none⟩) 0 0), (.slice a0_r_4_a a0_r_4_n a0_r_4_c)]) w5 fun a7 n8 c9 w6 => Keep [b1, b2] w5 w6 ∧
  ∀ w10, Adv [b1] [] w6 w10 →
  al w10 (.cells #[] 58) fun b11 w12 =>
  effSl Try.prog (Builtin.append_ #[25, 25] 25 #[(.slice (some ⟨b11, 0, none⟩) 0 0), (.slice a0_r_5_a a0_r_5_n a0_r_5_c)]) w12 fun a14 n15 c16 w13 => Keep [b1, b2] w12 w13 ∧
  ∀ w17, Adv [b2, b1] [] w13 w17 →
  R (.agg #[(.int .i64 a0_r_0), (.int .i64 a0_r_1), (.int .i64 a0_r_2), (.int .i64 a0_r_3), (.slice a7 n8 c9), (.slice a14 n15 c16)]) w17
theorem ref15_reply_eq (a0_r_0 : Int) (a0_r_1 : Int) (a0_r_2 : Int) (a0_r_3 : Int) (a0_r_4_a : Option Addr) (a0_r_4_n : Nat) (a0_r_4_c : Nat) (a0_r_5_a : Option Addr) (a0_r_5_n : Nat) (a0_r_5_c : Nat) (R : Value → World → Prop) (w : World) :
    dnF Try.prog ref15_reply_an (code Try.f36) 400 [] (post3 Try.prog Try.f36 [] R) ⟨args0 0 [(.agg #[(.int .i64 a0_r_0), (.int .i64 a0_r_1), (.int .i64 a0_r_2), (.int .i64 a0_r_3), (.slice a0_r_4_a a0_r_4_n a0_r_4_c), (.slice a0_r_5_a a0_r_5_n a0_r_5_c)])], fun _ => undef⟩ ⟨[], w, [], [], true⟩ = ref15_reply_T a0_r_0 a0_r_1 a0_r_2 a0_r_3 a0_r_4_a a0_r_4_n a0_r_4_c a0_r_5_a a0_r_5_n a0_r_5_c R w := by kernel_rfl
theorem ref15_reply_go {a0_r_0 : Int} {a0_r_1 : Int} {a0_r_2 : Int} {a0_r_3 : Int} {a0_r_4_a : Option Addr} {a0_r_4_n : Nat} {a0_r_4_c : Nat} {a0_r_5_a : Option Addr} {a0_r_5_n : Nat} {a0_r_5_c : Nat} {R : Value → World → Prop} {w : World} (h : ref15_reply_T a0_r_0 a0_r_1 a0_r_2 a0_r_3 a0_r_4_a a0_r_4_n a0_r_4_c a0_r_5_a a0_r_5_n a0_r_5_c R w) :
    Calls Try.prog 36 #[(.agg #[(.int .i64 a0_r_0), (.int .i64 a0_r_1), (.int .i64 a0_r_2), (.int .i64 a0_r_3), (.slice a0_r_4_a a0_r_4_n a0_r_4_c), (.slice a0_r_5_a a0_r_5_n a0_r_5_c)])] w fun e w' => ∃ v, e = .returned v ∧ R v w' :=
  calls_none Try.wide_mixed (f := 36) (args := [(.agg #[(.int .i64 a0_r_0), (.int .i64 a0_r_1), (.int .i64 a0_r_2), (.int .i64 a0_r_3), (.slice a0_r_4_a a0_r_4_n a0_r_4_c), (.slice a0_r_5_a a0_r_5_n a0_r_5_c)])]) Try.func36 rfl rfl (by kernel_rfl) rfl (Eq.mpr (ref15_reply_eq a0_r_0 a0_r_1 a0_r_2 a0_r_3 a0_r_4_a a0_r_4_n a0_r_4_c a0_r_5_a a0_r_5_n a0_r_5_c R w) h)
def ref15_row_an : List LA := []
/-- stagecoach/stagecoachref15.row -/
def ref15_row_T (a0_x_0 : Int) (a0_x_1 : Int) (a0_x_2 : Bool) (a0_x_3 : Int) (a0_x_4 : Int) (a0_x_5 : Int) (a0_x_6 : Int) (a0_x_7_a : Option Addr) (a0_x_7_n : Nat) (a0_x_7_c : Nat) (a0_x_8_a : Option Addr) (a0_x_8_n : Nat) (a0_x_8_c : Nat) (R : Value → World → Prop) (w : World) : Prop :=
  ∀ b1, w.heap.size ≤ b1 →
  ∀ b2, w.heap.size ≤ b2 →
  ∀ w3, Adv [] [b2, b1] w w3 →
  Calls Try.prog 36 #[(.agg #[(.int .i64 a0_x_3), (.int .i64 a0_x_4), (.int .i64 a0_x_5), (.int .i64 a0_x_6), (.slice a0_x_7_a a0_x_7_n a0_x_7_c), (.slice a0_x_8_a a0_x_8_n a0_x_8_c)])] w3 fun e w4 => ∃ x5 : Int, ∃ x6 : Int, ∃ x7 : Int, ∃ x8 : Int, ∃ (a9 : Option Addr) (n10 c11 : Nat), ∃ (a12 : Option Addr) (n13 c14 : Nat), e = .returned (.agg #[(.int .i64 x5), (.int .i64 x6), (.int .i64 x7), (.int .i64 x8), (.slice a9 n10 c11), (.slice a12 n13 c14)]) ∧ Keep [b1, b2] w3 w4 ∧ (((.bool a0_x_2) : Value) = (.bool a0_x_2)) ∧ (((.int .i64 a0_x_1) : Value) = (.int .i64 a0_x_1)) ∧ (((.int .i64 a0_x_0) : Value) = (.int .i64 a0_x_0)) ∧
  ∀ w15, Adv [b2] [] w4 w15 →
  R (.agg #[(.int .i64 a0_x_0), (.int .i64 a0_x_1), (.bool a0_x_2), (.int .i64 x5), (.int .i64 x6), (.int .i64 x7), (.int .i64 x8), (.slice a9 n10 c11), (.slice a12 n13 c14)]) w15
theorem ref15_row_eq (a0_x_0 : Int) (a0_x_1 : Int) (a0_x_2 : Bool) (a0_x_3 : Int) (a0_x_4 : Int) (a0_x_5 : Int) (a0_x_6 : Int) (a0_x_7_a : Option Addr) (a0_x_7_n : Nat) (a0_x_7_c : Nat) (a0_x_8_a : Option Addr) (a0_x_8_n : Nat) (a0_x_8_c : Nat) (R : Value → World → Prop) (w : World) :
    dnF Try.prog ref15_row_an (code Try.f30) 400 [] (post3 Try.prog Try.f30 [] R) ⟨args0 0 [(.agg #[(.int .i64 a0_x_0), (.int .i64 a0_x_1), (.bool a0_x_2), (.int .i64 a0_x_3), (.int .i64 a0_x_4), (.int .i64 a0_x_5), (.int .i64 a0_x_6), (.slice a0_x_7_a a0_x_7_n a0_x_7_c), (.slice a0_x_8_a a0_x_8_n a0_x_8_c)])], fun _ => undef⟩ ⟨[], w, [], [], true⟩ = ref15_row_T a0_x_0 a0_x_1 a0_x_2 a0_x_3 a0_x_4 a0_x_5 a0_x_6 a0_x_7_a a0_x_7_n a0_x_7_c a0_x_8_a a0_x_8_n a0_x_8_c R w := by kernel_rfl
theorem ref15_row_go {a0_x_0 : Int} {a0_x_1 : Int} {a0_x_2 : Bool} {a0_x_3 : Int} {a0_x_4 : Int} {a0_x_5 : Int} {a0_x_6 : Int} {a0_x_7_a : Option Addr} {a0_x_7_n : Nat} {a0_x_7_c : Nat} {a0_x_8_a : Option Addr} {a0_x_8_n : Nat} {a0_x_8_c : Nat} {R : Value → World → Prop} {w : World} (h : ref15_row_T a0_x_0 a0_x_1 a0_x_2 a0_x_3 a0_x_4 a0_x_5 a0_x_6 a0_x_7_a a0_x_7_n a0_x_7_c a0_x_8_a a0_x_8_n a0_x_8_c R w) :
    Calls Try.prog 30 #[(.agg #[(.int .i64 a0_x_0), (.int .i64 a0_x_1), (.bool a0_x_2), (.int .i64 a0_x_3), (.int .i64 a0_x_4), (.int .i64 a0_x_5), (.int .i64 a0_x_6), (.slice a0_x_7_a a0_x_7_n a0_x_7_c), (.slice a0_x_8_a a0_x_8_n a0_x_8_c)])] w fun e w' => ∃ v, e = .returned v ∧ R v w' :=
  calls_none Try.wide_mixed (f := 30) (args := [(.agg #[(.int .i64 a0_x_0), (.int .i64 a0_x_1), (.bool a0_x_2), (.int .i64 a0_x_3), (.int .i64 a0_x_4), (.int .i64 a0_x_5), (.int .i64 a0_x_6), (.slice a0_x_7_a a0_x_7_n a0_x_7_c), (.slice a0_x_8_a a0_x_8_n a0_x_8_c)])]) Try.func30 rfl rfl (by kernel_rfl) rfl (Eq.mpr (ref15_row_eq a0_x_0 a0_x_1 a0_x_2 a0_x_3 a0_x_4 a0_x_5 a0_x_6 a0_x_7_a a0_x_7_n a0_x_7_c a0_x_8_a a0_x_8_n a0_x_8_c R w) h)
def request_Name_an : List LA := []
/-- stagecoach/request.Name -/
def request_Name_T (a0_s : ByteArray) (R : Value → World → Prop) (w : World) : Prop :=
  brB (!(a0_s.toList == (⟨#[]⟩ : ByteArray).toList)) (
    brB (decide ((a0_s.size : Int) ≤ 16)) (
      Calls Try.prog 63 #[(.string a0_s), (.func (.func 62) #[] #[])] w fun e w1 => ∃ t2 : Bool, e = .returned (.bool t2) ∧
      R (.bool (!t2)) w1)
    (
      R (.bool false) w))
  (
    R (.bool false) w)
theorem request_Name_eq (a0_s : ByteArray) (R : Value → World → Prop) (w : World) :
    dnF Try.prog request_Name_an (code Try.f55) 400 [] (post3 Try.prog Try.f55 [] R) ⟨args0 0 [(.string a0_s)], fun _ => undef⟩ ⟨[], w, [], [], true⟩ = request_Name_T a0_s R w := by kernel_rfl
theorem request_Name_go {a0_s : ByteArray} {R : Value → World → Prop} {w : World} (h : request_Name_T a0_s R w) :
    Calls Try.prog 55 #[(.string a0_s)] w fun e w' => ∃ v, e = .returned v ∧ R v w' :=
  calls_none Try.wide_mixed (f := 55) (args := [(.string a0_s)]) Try.func55 rfl rfl (by kernel_rfl) rfl (Eq.mpr (request_Name_eq a0_s R w) h)
def request_Name_1_an : List LA := []
/-- stagecoach/request.Name$1 -/
def request_Name_1_T (a0_c : Int) (R : Value → World → Prop) (w : World) : Prop :=
  brB (decide (a0_c < 97)) (
    brB (decide (a0_c < 48)) (
      R (.bool (a0_c != 45)) w)
    (
      brB (decide (a0_c > 57)) (
        R (.bool (a0_c != 45)) w)
      (
        R (.bool false) w)))
  (
    brB (decide (a0_c > 122)) (
      brB (decide (a0_c < 48)) (
        R (.bool (a0_c != 45)) w)
      (
        brB (decide (a0_c > 57)) (
          R (.bool (a0_c != 45)) w)
        (
          R (.bool false) w)))
    (
      R (.bool false) w))
theorem request_Name_1_eq (a0_c : Int) (R : Value → World → Prop) (w : World) :
    dnF Try.prog request_Name_1_an (code Try.f62) 400 [] (post3 Try.prog Try.f62 [] R) ⟨args0 0 [(.int .i32 a0_c)], fun _ => undef⟩ ⟨[], w, [], [], true⟩ = request_Name_1_T a0_c R w := by kernel_rfl
theorem request_Name_1_go {a0_c : Int} {R : Value → World → Prop} {w : World} (h : request_Name_1_T a0_c R w) :
    Calls Try.prog 62 #[(.int .i32 a0_c)] w fun e w' => ∃ v, e = .returned v ∧ R v w' :=
  calls_none Try.wide_mixed (f := 62) (args := [(.int .i32 a0_c)]) Try.func62 rfl rfl (by kernel_rfl) rfl (Eq.mpr (request_Name_1_eq a0_c R w) h)
def request_check_la1 : LA := ⟨[1, 1], [1, 3], [(1, 0, 0)], 1, []⟩
def request_check_la2 : LA := ⟨[0, 0, 1, 0, 1, 1, 1], [1, 3, 4, 28, 29, 30], [(1, 0, 0)], 1, []⟩
def request_check_la3 : LA := ⟨[0, 0, 1, 0, 1, 1, 1, 1], [1, 3, 4, 49, 50, 51], [(1, 0, 0)], 1, []⟩
def request_check_an : List LA := [request_check_la1, request_check_la2, request_check_la3]
def request_check_v1 (t_3 : Bool) (bm0 : Nat) : List Value := [(.pointer (some ⟨bm0, 0, none⟩)), (.bool t_3)]
def request_check_m1 (bm0 : Nat) (x_m0_0 : Int) (x_m0_1 : Int) (x_m0_2 : Int) (x_m0_3 : Int) (a_m0_4 : Option Addr) (n_m0_4 : Nat) (c_m0_4 : Nat) (a_m0_5 : Option Addr) (n_m0_5 : Nat) (c_m0_5 : Nat) : List TB := [⟨bm0, 27, [(.int .i64 x_m0_0), (.int .i64 x_m0_1), (.int .i64 x_m0_2), (.int .i64 x_m0_3), (.slice a_m0_4 n_m0_4 c_m0_4), (.slice a_m0_5 n_m0_5 c_m0_5)], false⟩]
def request_check_v2 (a_28 : Option Addr) (n_28 : Nat) (c_28 : Nat) (x_29 : Int) (bm0 : Nat) (t_3 : Bool) (t_4 : Bool) (x_30 : Int) : List Value := [(.pointer (some ⟨bm0, 0, none⟩)), (.bool t_3), (.bool t_4), (.slice a_28 n_28 c_28), (.int .i64 x_29), (.int .i64 x_30)]
def request_check_m2 (bm0 : Nat) (x_m0_0 : Int) (x_m0_1 : Int) (x_m0_2 : Int) (x_m0_3 : Int) (a_m0_4 : Option Addr) (n_m0_4 : Nat) (c_m0_4 : Nat) (a_m0_5 : Option Addr) (n_m0_5 : Nat) (c_m0_5 : Nat) : List TB := [⟨bm0, 27, [(.int .i64 x_m0_0), (.int .i64 x_m0_1), (.int .i64 x_m0_2), (.int .i64 x_m0_3), (.slice a_m0_4 n_m0_4 c_m0_4), (.slice a_m0_5 n_m0_5 c_m0_5)], false⟩]
def request_check_v3 (a_49 : Option Addr) (n_49 : Nat) (c_49 : Nat) (x_50 : Int) (bm0 : Nat) (t_3 : Bool) (t_4 : Bool) (x_51 : Int) : List Value := [(.pointer (some ⟨bm0, 0, none⟩)), (.bool t_3), (.bool t_4), (.slice a_49 n_49 c_49), (.int .i64 x_50), (.int .i64 x_51)]
def request_check_m3 (bm0 : Nat) (x_m0_0 : Int) (x_m0_1 : Int) (x_m0_2 : Int) (x_m0_3 : Int) (a_m0_4 : Option Addr) (n_m0_4 : Nat) (c_m0_4 : Nat) (a_m0_5 : Option Addr) (n_m0_5 : Nat) (c_m0_5 : Nat) : List TB := [⟨bm0, 27, [(.int .i64 x_m0_0), (.int .i64 x_m0_1), (.int .i64 x_m0_2), (.int .i64 x_m0_3), (.slice a_m0_4 n_m0_4 c_m0_4), (.slice a_m0_5 n_m0_5 c_m0_5)], false⟩]
def request_check_C1 (t_3 : Bool) (bm0 : Nat) (x_m0_0 : Int) (x_m0_1 : Int) (x_m0_2 : Int) (x_m0_3 : Int) (a_m0_4 : Option Addr) (n_m0_4 : Nat) (c_m0_4 : Nat) (a_m0_5 : Option Addr) (n_m0_5 : Nat) (c_m0_5 : Nat) (R : Value → World → Prop) (w : World) : Prop :=
  loopD3 request_check_la2 (dnF Try.prog request_check_an (code Try.f37) 395 [0, 0, 1, 0, 1, 1, 1]) (kont3 Try.prog request_check_an (code Try.f37) [1, 1, 1, 0, 1, 0] [] (post3 Try.prog Try.f37 [] R)) (request_check_v2 a_m0_4 n_m0_4 c_m0_4 (n_m0_4 : Int) bm0 t_3 false 0) (request_check_m2 bm0 x_m0_0 x_m0_1 x_m0_2 x_m0_3 a_m0_4 n_m0_4 c_m0_4 a_m0_5 n_m0_5 c_m0_5) w
theorem request_check_C1_eq (t_3 : Bool) (bm0 : Nat) (x_m0_0 : Int) (x_m0_1 : Int) (x_m0_2 : Int) (x_m0_3 : Int) (a_m0_4 : Option Addr) (n_m0_4 : Nat) (c_m0_4 : Nat) (a_m0_5 : Option Addr) (n_m0_5 : Nat) (c_m0_5 : Nat) (js : Nat → Value) (R : Value → World → Prop) (w : World) :
    headA request_check_la1 ((dnF Try.prog request_check_an (code Try.f37) 398 [1, 1]) (kont3 Try.prog request_check_an (code Try.f37) [1] [] (post3 Try.prog Try.f37 [] R))) (request_check_v1 t_3 bm0) js (request_check_m1 bm0 x_m0_0 x_m0_1 x_m0_2 x_m0_3 a_m0_4 n_m0_4 c_m0_4 a_m0_5 n_m0_5 c_m0_5) w = request_check_C1 t_3 bm0 x_m0_0 x_m0_1 x_m0_2 x_m0_3 a_m0_4 n_m0_4 c_m0_4 a_m0_5 n_m0_5 c_m0_5 R w := by kernel_rfl
theorem request_check_cut1 {t_30 : Bool} {bm00 : Nat} {x_m0_00 : Int} {x_m0_10 : Int} {x_m0_20 : Int} {x_m0_30 : Int} {a_m0_40 : Option Addr} {n_m0_40 : Nat} {c_m0_40 : Nat} {a_m0_50 : Option Addr} {n_m0_50 : Nat} {c_m0_50 : Nat} {R : Value → World → Prop} {w0 : World} (J : Bool → Nat → Int → Int → Int → Int → Option Addr → Nat → Nat → Option Addr → Nat → Nat → World → Prop) (h0 : J t_30 bm00 x_m0_00 x_m0_10 x_m0_20 x_m0_30 a_m0_40 n_m0_40 c_m0_40 a_m0_50 n_m0_50 c_m0_50 w0)
    (hr : ∀ (t_3 : Bool) (bm0 : Nat) (x_m0_0 : Int) (x_m0_1 : Int) (x_m0_2 : Int) (x_m0_3 : Int) (a_m0_4 : Option Addr) (n_m0_4 : Nat) (c_m0_4 : Nat) (a_m0_5 : Option Addr) (n_m0_5 : Nat) (c_m0_5 : Nat) (w : World), J t_3 bm0 x_m0_0 x_m0_1 x_m0_2 x_m0_3 a_m0_4 n_m0_4 c_m0_4 a_m0_5 n_m0_5 c_m0_5 w → request_check_C1 t_3 bm0 x_m0_0 x_m0_1 x_m0_2 x_m0_3 a_m0_4 n_m0_4 c_m0_4 a_m0_5 n_m0_5 c_m0_5 R w) :
    cutD3 request_check_la1 ((dnF Try.prog request_check_an (code Try.f37) 398 [1, 1]) (kont3 Try.prog request_check_an (code Try.f37) [1] [] (post3 Try.prog Try.f37 [] R))) (request_check_v1 t_30 bm00) (request_check_m1 bm00 x_m0_00 x_m0_10 x_m0_20 x_m0_30 a_m0_40 n_m0_40 c_m0_40 a_m0_50 n_m0_50 c_m0_50) w0 := by
  refine ⟨fun vals mem w => ∃ t_3 bm0 x_m0_0 x_m0_1 x_m0_2 x_m0_3 a_m0_4 n_m0_4 c_m0_4 a_m0_5 n_m0_5 c_m0_5, vals = (request_check_v1 t_3 bm0) ∧ mem = (request_check_m1 bm0 x_m0_0 x_m0_1 x_m0_2 x_m0_3 a_m0_4 n_m0_4 c_m0_4 a_m0_5 n_m0_5 c_m0_5) ∧ J t_3 bm0 x_m0_0 x_m0_1 x_m0_2 x_m0_3 a_m0_4 n_m0_4 c_m0_4 a_m0_5 n_m0_5 c_m0_5 w, ⟨_, _, _, _, _, _, _, _, _, _, _, _, rfl, rfl, h0⟩, ?_⟩
  rintro vals mem w ⟨t_3, bm0, x_m0_0, x_m0_1, x_m0_2, x_m0_3, a_m0_4, n_m0_4, c_m0_4, a_m0_5, n_m0_5, c_m0_5, rfl, rfl, hJ⟩
  refine ⟨rfl, rfl, fun js => ?_⟩
  have h := hr t_3 bm0 x_m0_0 x_m0_1 x_m0_2 x_m0_3 a_m0_4 n_m0_4 c_m0_4 a_m0_5 n_m0_5 c_m0_5 w hJ
  rw [← request_check_C1_eq _ _ _ _ _ _ _ _ _ _ _ _ js] at h
  exact h
def request_check_L2 (a_28 : Option Addr) (n_28 : Nat) (c_28 : Nat) (x_29 : Int) (bm0 : Nat) (x_m0_0 : Int) (x_m0_1 : Int) (x_m0_2 : Int) (x_m0_3 : Int) (a_m0_4 : Option Addr) (n_m0_4 : Nat) (c_m0_4 : Nat) (a_m0_5 : Option Addr) (n_m0_5 : Nat) (c_m0_5 : Nat) (t_3 : Bool) (t_4 : Bool) (x_30 : Int) (K2 : Kh) (R : Value → World → Prop) (w : World) : Prop :=
  brB (decide (x_30 < x_29)) (
    ixA a_28 n_28 x_30 5 fun q11 =>
    ldInt .i64 w q11 fun x12 => ldBool w (Addr.add q11 1) fun t13 => ldStr w (Addr.add q11 2) fun s14 => ldBool w (Addr.add q11 3) fun t15 => ldStr w (Addr.add q11 4) fun s16 =>
    ∀ b17, w.heap.size ≤ b17 →
    brB t_3 (
      ∀ w18, Adv [] [b17] w w18 →
      Calls Try.prog 53 #[(.int .i64 x12)] w18 fun e w19 => ∃ t20 : Bool, e = .returned (.bool t20) ∧ Keep [bm0, b17] w18 w19 ∧
      brB t_4 (
        K2 (request_check_v2 a_28 n_28 c_28 x_29 bm0 t20 true (IntKind.wrap .i64 (x_30 + 1))) (request_check_m2 bm0 x_m0_0 x_m0_1 x_m0_2 x_m0_3 a_m0_4 n_m0_4 c_m0_4 a_m0_5 n_m0_5 c_m0_5) w19)
      (
        Calls Try.prog 54 #[(.agg #[(.bool t13), (.string s14), (.bool t15), (.string s16)])] w19 fun e w21 => ∃ x22 : Int, e = .returned (.int .i64 x22) ∧ Keep [bm0, b17] w19 w21 ∧
        K2 (request_check_v2 a_28 n_28 c_28 x_29 bm0 t20 (x22 != 0) (IntKind.wrap .i64 (x_30 + 1))) (request_check_m2 bm0 x_m0_0 x_m0_1 x_m0_2 x_m0_3 a_m0_4 n_m0_4 c_m0_4 a_m0_5 n_m0_5 c_m0_5) w21))
    (
      brB t_4 (
        ∀ w23, Adv [] [b17] w w23 →
        K2 (request_check_v2 a_28 n_28 c_28 x_29 bm0 false true (IntKind.wrap .i64 (x_30 + 1))) (request_check_m2 bm0 x_m0_0 x_m0_1 x_m0_2 x_m0_3 a_m0_4 n_m0_4 c_m0_4 a_m0_5 n_m0_5 c_m0_5) w23)
      (
        ∀ w24, Adv [] [b17] w w24 →
        Calls Try.prog 54 #[(.agg #[(.bool t13), (.string s14), (.bool t15), (.string s16)])] w24 fun e w25 => ∃ x26 : Int, e = .returned (.int .i64 x26) ∧ Keep [bm0, b17] w24 w25 ∧
        K2 (request_check_v2 a_28 n_28 c_28 x_29 bm0 false (x26 != 0) (IntKind.wrap .i64 (x_30 + 1))) (request_check_m2 bm0 x_m0_0 x_m0_1 x_m0_2 x_m0_3 a_m0_4 n_m0_4 c_m0_4 a_m0_5 n_m0_5 c_m0_5) w25)))
  (
    loopD3 request_check_la3 (dnF Try.prog request_check_an (code Try.f37) 394 [0, 0, 1, 0, 1, 1, 1, 1]) (kont3 Try.prog request_check_an (code Try.f37) [1, 1, 1, 1, 0, 1, 0] [] (post3 Try.prog Try.f37 [] R)) (request_check_v3 a_m0_5 n_m0_5 c_m0_5 (n_m0_5 : Int) bm0 t_3 t_4 0) (request_check_m3 bm0 x_m0_0 x_m0_1 x_m0_2 x_m0_3 a_m0_4 n_m0_4 c_m0_4 a_m0_5 n_m0_5 c_m0_5) w)
theorem request_check_L2_eq (a_28 : Option Addr) (n_28 : Nat) (c_28 : Nat) (x_29 : Int) (bm0 : Nat) (x_m0_0 : Int) (x_m0_1 : Int) (x_m0_2 : Int) (x_m0_3 : Int) (a_m0_4 : Option Addr) (n_m0_4 : Nat) (c_m0_4 : Nat) (a_m0_5 : Option Addr) (n_m0_5 : Nat) (c_m0_5 : Nat) (t_3 : Bool) (t_4 : Bool) (x_30 : Int) (K2 : Kh) (js : Nat → Value) (R : Value → World → Prop) (w : World) :
    headA request_check_la2 ((dnF Try.prog request_check_an (code Try.f37) 395 [0, 0, 1, 0, 1, 1, 1]) (kthen3 (atA request_check_la2 K2) (kont3 Try.prog request_check_an (code Try.f37) [1, 1, 1, 0, 1, 0] [] (post3 Try.prog Try.f37 [] R)))) (request_check_v2 a_28 n_28 c_28 x_29 bm0 t_3 t_4 x_30) js (request_check_m2 bm0 x_m0_0 x_m0_1 x_m0_2 x_m0_3 a_m0_4 n_m0_4 c_m0_4 a_m0_5 n_m0_5 c_m0_5) w = request_check_L2 a_28 n_28 c_28 x_29 bm0 x_m0_0 x_m0_1 x_m0_2 x_m0_3 a_m0_4 n_m0_4 c_m0_4 a_m0_5 n_m0_5 c_m0_5 t_3 t_4 x_30 K2 R w := by kernel_rfl
def request_check_K2 (a_28 : Option Addr) (n_28 : Nat) (c_28 : Nat) (x_29 : Int) (bm0 : Nat) (x_m0_0 : Int) (x_m0_1 : Int) (x_m0_2 : Int) (x_m0_3 : Int) (a_m0_4 : Option Addr) (n_m0_4 : Nat) (c_m0_4 : Nat) (a_m0_5 : Option Addr) (n_m0_5 : Nat) (c_m0_5 : Nat) (I : Nat → Bool → Bool → Int → World → Prop) (m : Nat) (vals : List Value) (mem : List TB) (w : World) : Prop := ∃ m', m' < m ∧ ∃ t_3 t_4 x_30, vals = (request_check_v2 a_28 n_28 c_28 x_29 bm0 t_3 t_4 x_30) ∧ mem = (request_check_m2 bm0 x_m0_0 x_m0_1 x_m0_2 x_m0_3 a_m0_4 n_m0_4 c_m0_4 a_m0_5 n_m0_5 c_m0_5) ∧ I m' t_3 t_4 x_30 w
theorem request_check_leaf2 {a_28 : Option Addr} {n_28 : Nat} {c_28 : Nat} {x_29 : Int} {bm0 : Nat} {x_m0_0 : Int} {x_m0_1 : Int} {x_m0_2 : Int} {x_m0_3 : Int} {a_m0_4 : Option Addr} {n_m0_4 : Nat} {c_m0_4 : Nat} {a_m0_5 : Option Addr} {n_m0_5 : Nat} {c_m0_5 : Nat} {I : Nat → Bool → Bool → Int → World → Prop} {m : Nat} {t_3 : Bool} {t_4 : Bool} {x_30 : Int} {w : World} (m' : Nat) (h1 : m' < m) (h2 : I m' t_3 t_4 x_30 w) : request_check_K2 a_28 n_28 c_28 x_29 bm0 x_m0_0 x_m0_1 x_m0_2 x_m0_3 a_m0_4 n_m0_4 c_m0_4 a_m0_5 n_m0_5 c_m0_5 I m (request_check_v2 a_28 n_28 c_28 x_29 bm0 t_3 t_4 x_30) (request_check_m2 bm0 x_m0_0 x_m0_1 x_m0_2 x_m0_3 a_m0_4 n_m0_4 c_m0_4 a_m0_5 n_m0_5 c_m0_5) w := ⟨m', h1, _, _, _, rfl, rfl, h2⟩
theorem request_check_rule2 {a_28 : Option Addr} {n_28 : Nat} {c_28 : Nat} {x_29 : Int} {bm0 : Nat} {x_m0_0 : Int} {x_m0_1 : Int} {x_m0_2 : Int} {x_m0_3 : Int} {a_m0_4 : Option Addr} {n_m0_4 : Nat} {c_m0_4 : Nat} {a_m0_5 : Option Addr} {n_m0_5 : Nat} {c_m0_5 : Nat} {t_30 : Bool} {t_40 : Bool} {x_300 : Int} {R : Value → World → Prop} {w0 : World} (I : Nat → Bool → Bool → Int → World → Prop) (m0 : Nat) (h0 : I m0 t_30 t_40 x_300 w0)
    (hr : ∀ (m : Nat) (t_3 : Bool) (t_4 : Bool) (x_30 : Int) (w : World), I m t_3 t_4 x_30 w → request_check_L2 a_28 n_28 c_28 x_29 bm0 x_m0_0 x_m0_1 x_m0_2 x_m0_3 a_m0_4 n_m0_4 c_m0_4 a_m0_5 n_m0_5 c_m0_5 t_3 t_4 x_30 (request_check_K2 a_28 n_28 c_28 x_29 bm0 x_m0_0 x_m0_1 x_m0_2 x_m0_3 a_m0_4 n_m0_4 c_m0_4 a_m0_5 n_m0_5 c_m0_5 I m) R w) :
    loopD3 request_check_la2 (dnF Try.prog request_check_an (code Try.f37) 395 [0, 0, 1, 0, 1, 1, 1]) (kont3 Try.prog request_check_an (code Try.f37) [1, 1, 1, 0, 1, 0] [] (post3 Try.prog Try.f37 [] R)) (request_check_v2 a_28 n_28 c_28 x_29 bm0 t_30 t_40 x_300) (request_check_m2 bm0 x_m0_0 x_m0_1 x_m0_2 x_m0_3 a_m0_4 n_m0_4 c_m0_4 a_m0_5 n_m0_5 c_m0_5) w0 := by
  refine ⟨fun m vals mem w => ∃ t_3 t_4 x_30, vals = (request_check_v2 a_28 n_28 c_28 x_29 bm0 t_3 t_4 x_30) ∧ mem = (request_check_m2 bm0 x_m0_0 x_m0_1 x_m0_2 x_m0_3 a_m0_4 n_m0_4 c_m0_4 a_m0_5 n_m0_5 c_m0_5) ∧ I m t_3 t_4 x_30 w, m0, ⟨_, _, _, rfl, rfl, h0⟩, ?_⟩
  rintro m vals mem w ⟨t_3, t_4, x_30, rfl, rfl, hI⟩
  refine ⟨rfl, rfl, fun js => ?_⟩
  have h := hr m t_3 t_4 x_30 w hI
  rw [← request_check_L2_eq _ _ _ _ _ _ _ _ _ _ _ _ _ _ _ _ _ _ _ js] at h
  exact h
def request_check_L3 (a_49 : Option Addr) (n_49 : Nat) (c_49 : Nat) (x_50 : Int) (bm0 : Nat) (x_m0_0 : Int) (x_m0_1 : Int) (x_m0_2 : Int) (x_m0_3 : Int) (a_m0_4 : Option Addr) (n_m0_4 : Nat) (c_m0_4 : Nat) (a_m0_5 : Option Addr) (n_m0_5 : Nat) (c_m0_5 : Nat) (t_3 : Bool) (t_4 : Bool) (x_51 : Int) (K3 : Kh) (R : Value → World → Prop) (w : World) : Prop :=
  brB (decide (x_51 < x_50)) (
    ixA a_49 n_49 x_51 2 fun q27 =>
    ldStr w q27 fun s28 => ldInt .i64 w (Addr.add q27 1) fun x29 =>
    ∀ b30, w.heap.size ≤ b30 →
    brB t_3 (
      ∀ w31, Adv [] [b30] w w31 →
      Calls Try.prog 53 #[(.int .i64 x29)] w31 fun e w32 => ∃ t33 : Bool, e = .returned (.bool t33) ∧ Keep [bm0, b30] w31 w32 ∧
      brB t_4 (
        K3 (request_check_v3 a_49 n_49 c_49 x_50 bm0 t33 true (IntKind.wrap .i64 (x_51 + 1))) (request_check_m3 bm0 x_m0_0 x_m0_1 x_m0_2 x_m0_3 a_m0_4 n_m0_4 c_m0_4 a_m0_5 n_m0_5 c_m0_5) w32)
      (
        Calls Try.prog 55 #[(.string s28)] w32 fun e w34 => ∃ t35 : Bool, e = .returned (.bool t35) ∧ Keep [bm0, b30] w32 w34 ∧
        K3 (request_check_v3 a_49 n_49 c_49 x_50 bm0 t33 (!t35) (IntKind.wrap .i64 (x_51 + 1))) (request_check_m3 bm0 x_m0_0 x_m0_1 x_m0_2 x_m0_3 a_m0_4 n_m0_4 c_m0_4 a_m0_5 n_m0_5 c_m0_5) w34))
    (
      brB t_4 (
        ∀ w36, Adv [] [b30] w w36 →
        K3 (request_check_v3 a_49 n_49 c_49 x_50 bm0 false true (IntKind.wrap .i64 (x_51 + 1))) (request_check_m3 bm0 x_m0_0 x_m0_1 x_m0_2 x_m0_3 a_m0_4 n_m0_4 c_m0_4 a_m0_5 n_m0_5 c_m0_5) w36)
      (
        ∀ w37, Adv [] [b30] w w37 →
        Calls Try.prog 55 #[(.string s28)] w37 fun e w38 => ∃ t39 : Bool, e = .returned (.bool t39) ∧ Keep [bm0, b30] w37 w38 ∧
        K3 (request_check_v3 a_49 n_49 c_49 x_50 bm0 false (!t39) (IntKind.wrap .i64 (x_51 + 1))) (request_check_m3 bm0 x_m0_0 x_m0_1 x_m0_2 x_m0_3 a_m0_4 n_m0_4 c_m0_4 a_m0_5 n_m0_5 c_m0_5) w38)))
  (
    brB (!t_3) (
      R (.int .i64 1) w)
    (
      brB (decide ((n_m0_4 : Int) > 64)) (
        R (.int .i64 2) w)
      (
        brB (decide ((n_m0_5 : Int) > 64)) (
          R (.int .i64 2) w)
        (
          brB t_4 (
            R (.int .i64 40) w)
          (
            R (.int .i64 0) w)))))
theorem request_check_L3_eq (a_49 : Option Addr) (n_49 : Nat) (c_49 : Nat) (x_50 : Int) (bm0 : Nat) (x_m0_0 : Int) (x_m0_1 : Int) (x_m0_2 : Int) (x_m0_3 : Int) (a_m0_4 : Option Addr) (n_m0_4 : Nat) (c_m0_4 : Nat) (a_m0_5 : Option Addr) (n_m0_5 : Nat) (c_m0_5 : Nat) (t_3 : Bool) (t_4 : Bool) (x_51 : Int) (K3 : Kh) (js : Nat → Value) (R : Value → World → Prop) (w : World) :
    headA request_check_la3 ((dnF Try.prog request_check_an (code Try.f37) 394 [0, 0, 1, 0, 1, 1, 1, 1]) (kthen3 (atA request_check_la3 K3) (kont3 Try.prog request_check_an (code Try.f37) [1, 1, 1, 1, 0, 1, 0] [] (post3 Try.prog Try.f37 [] R)))) (request_check_v3 a_49 n_49 c_49 x_50 bm0 t_3 t_4 x_51) js (request_check_m3 bm0 x_m0_0 x_m0_1 x_m0_2 x_m0_3 a_m0_4 n_m0_4 c_m0_4 a_m0_5 n_m0_5 c_m0_5) w = request_check_L3 a_49 n_49 c_49 x_50 bm0 x_m0_0 x_m0_1 x_m0_2 x_m0_3 a_m0_4 n_m0_4 c_m0_4 a_m0_5 n_m0_5 c_m0_5 t_3 t_4 x_51 K3 R w := by kernel_rfl
def request_check_K3 (a_49 : Option Addr) (n_49 : Nat) (c_49 : Nat) (x_50 : Int) (bm0 : Nat) (x_m0_0 : Int) (x_m0_1 : Int) (x_m0_2 : Int) (x_m0_3 : Int) (a_m0_4 : Option Addr) (n_m0_4 : Nat) (c_m0_4 : Nat) (a_m0_5 : Option Addr) (n_m0_5 : Nat) (c_m0_5 : Nat) (I : Nat → Bool → Bool → Int → World → Prop) (m : Nat) (vals : List Value) (mem : List TB) (w : World) : Prop := ∃ m', m' < m ∧ ∃ t_3 t_4 x_51, vals = (request_check_v3 a_49 n_49 c_49 x_50 bm0 t_3 t_4 x_51) ∧ mem = (request_check_m3 bm0 x_m0_0 x_m0_1 x_m0_2 x_m0_3 a_m0_4 n_m0_4 c_m0_4 a_m0_5 n_m0_5 c_m0_5) ∧ I m' t_3 t_4 x_51 w
theorem request_check_leaf3 {a_49 : Option Addr} {n_49 : Nat} {c_49 : Nat} {x_50 : Int} {bm0 : Nat} {x_m0_0 : Int} {x_m0_1 : Int} {x_m0_2 : Int} {x_m0_3 : Int} {a_m0_4 : Option Addr} {n_m0_4 : Nat} {c_m0_4 : Nat} {a_m0_5 : Option Addr} {n_m0_5 : Nat} {c_m0_5 : Nat} {I : Nat → Bool → Bool → Int → World → Prop} {m : Nat} {t_3 : Bool} {t_4 : Bool} {x_51 : Int} {w : World} (m' : Nat) (h1 : m' < m) (h2 : I m' t_3 t_4 x_51 w) : request_check_K3 a_49 n_49 c_49 x_50 bm0 x_m0_0 x_m0_1 x_m0_2 x_m0_3 a_m0_4 n_m0_4 c_m0_4 a_m0_5 n_m0_5 c_m0_5 I m (request_check_v3 a_49 n_49 c_49 x_50 bm0 t_3 t_4 x_51) (request_check_m3 bm0 x_m0_0 x_m0_1 x_m0_2 x_m0_3 a_m0_4 n_m0_4 c_m0_4 a_m0_5 n_m0_5 c_m0_5) w := ⟨m', h1, _, _, _, rfl, rfl, h2⟩
theorem request_check_rule3 {a_49 : Option Addr} {n_49 : Nat} {c_49 : Nat} {x_50 : Int} {bm0 : Nat} {x_m0_0 : Int} {x_m0_1 : Int} {x_m0_2 : Int} {x_m0_3 : Int} {a_m0_4 : Option Addr} {n_m0_4 : Nat} {c_m0_4 : Nat} {a_m0_5 : Option Addr} {n_m0_5 : Nat} {c_m0_5 : Nat} {t_30 : Bool} {t_40 : Bool} {x_510 : Int} {R : Value → World → Prop} {w0 : World} (I : Nat → Bool → Bool → Int → World → Prop) (m0 : Nat) (h0 : I m0 t_30 t_40 x_510 w0)
    (hr : ∀ (m : Nat) (t_3 : Bool) (t_4 : Bool) (x_51 : Int) (w : World), I m t_3 t_4 x_51 w → request_check_L3 a_49 n_49 c_49 x_50 bm0 x_m0_0 x_m0_1 x_m0_2 x_m0_3 a_m0_4 n_m0_4 c_m0_4 a_m0_5 n_m0_5 c_m0_5 t_3 t_4 x_51 (request_check_K3 a_49 n_49 c_49 x_50 bm0 x_m0_0 x_m0_1 x_m0_2 x_m0_3 a_m0_4 n_m0_4 c_m0_4 a_m0_5 n_m0_5 c_m0_5 I m) R w) :
    loopD3 request_check_la3 (dnF Try.prog request_check_an (code Try.f37) 394 [0, 0, 1, 0, 1, 1, 1, 1]) (kont3 Try.prog request_check_an (code Try.f37) [1, 1, 1, 1, 0, 1, 0] [] (post3 Try.prog Try.f37 [] R)) (request_check_v3 a_49 n_49 c_49 x_50 bm0 t_30 t_40 x_510) (request_check_m3 bm0 x_m0_0 x_m0_1 x_m0_2 x_m0_3 a_m0_4 n_m0_4 c_m0_4 a_m0_5 n_m0_5 c_m0_5) w0 := by
  refine ⟨fun m vals mem w => ∃ t_3 t_4 x_51, vals = (request_check_v3 a_49 n_49 c_49 x_50 bm0 t_3 t_4 x_51) ∧ mem = (request_check_m3 bm0 x_m0_0 x_m0_1 x_m0_2 x_m0_3 a_m0_4 n_m0_4 c_m0_4 a_m0_5 n_m0_5 c_m0_5) ∧ I m t_3 t_4 x_51 w, m0, ⟨_, _, _, rfl, rfl, h0⟩, ?_⟩
  rintro m vals mem w ⟨t_3, t_4, x_51, rfl, rfl, hI⟩
  refine ⟨rfl, rfl, fun js => ?_⟩
  have h := hr m t_3 t_4 x_51 w hI
  rw [← request_check_L3_eq _ _ _ _ _ _ _ _ _ _ _ _ _ _ _ _ _ _ _ js] at h
  exact h
/-- stagecoach/request.check -/
def request_check_T (a0_r_0 : Int) (a0_r_1 : Int) (a0_r_2 : Int) (a0_r_3 : Int) (a0_r_4_a : Option Addr) (a0_r_4_n : Nat) (a0_r_4_c : Nat) (a0_r_5_a : Option Addr) (a0_r_5_n : Nat) (a0_r_5_c : Nat) (R : Value → World → Prop) (w : World) : Prop :=
  ∀ b1, w.heap.size ≤ b1 →
  ∀ w2, Adv [] [b1] w w2 →
  Calls Try.prog 53 #[(.int .i64 a0_r_0)] w2 fun e w3 => ∃ t4 : Bool, e = .returned (.bool t4) ∧ Keep [b1] w2 w3 ∧
  brB t4 (
    Calls Try.prog 53 #[(.int .i64 a0_r_1)] w3 fun e w5 => ∃ t6 : Bool, e = .returned (.bool t6) ∧ Keep [b1] w3 w5 ∧
    brB t6 (
      Calls Try.prog 53 #[(.int .i64 a0_r_2)] w5 fun e w7 => ∃ t8 : Bool, e = .returned (.bool t8) ∧ Keep [b1] w5 w7 ∧
      brB t8 (
        Calls Try.prog 53 #[(.int .i64 a0_r_3)] w7 fun e w9 => ∃ t10 : Bool, e = .returned (.bool t10) ∧ Keep [b1] w7 w9 ∧
        cutD3 request_check_la1 ((dnF Try.prog request_check_an (code Try.f37) 398 [1, 1]) (kont3 Try.prog request_check_an (code Try.f37) [1] [] (post3 Try.prog Try.f37 [] R))) (request_check_v1 t10 b1) (request_check_m1 b1 a0_r_0 a0_r_1 a0_r_2 a0_r_3 a0_r_4_a a0_r_4_n a0_r_4_c a0_r_5_a a0_r_5_n a0_r_5_c) w9)
      (
        cutD3 request_check_la1 ((dnF Try.prog request_check_an (code Try.f37) 398 [1, 1]) (kont3 Try.prog request_check_an (code Try.f37) [1] [] (post3 Try.prog Try.f37 [] R))) (request_check_v1 false b1) (request_check_m1 b1 a0_r_0 a0_r_1 a0_r_2 a0_r_3 a0_r_4_a a0_r_4_n a0_r_4_c a0_r_5_a a0_r_5_n a0_r_5_c) w7))
    (
      cutD3 request_check_la1 ((dnF Try.prog request_check_an (code Try.f37) 398 [1, 1]) (kont3 Try.prog request_check_an (code Try.f37) [1] [] (post3 Try.prog Try.f37 [] R))) (request_check_v1 false b1) (request_check_m1 b1 a0_r_0 a0_r_1 a0_r_2 a0_r_3 a0_r_4_a a0_r_4_n a0_r_4_c a0_r_5_a a0_r_5_n a0_r_5_c) w5))
  (
    cutD3 request_check_la1 ((dnF Try.prog request_check_an (code Try.f37) 398 [1, 1]) (kont3 Try.prog request_check_an (code Try.f37) [1] [] (post3 Try.prog Try.f37 [] R))) (request_check_v1 false b1) (request_check_m1 b1 a0_r_0 a0_r_1 a0_r_2 a0_r_3 a0_r_4_a a0_r_4_n a0_r_4_c a0_r_5_a a0_r_5_n a0_r_5_c) w3)
theorem request_check_eq (a0_r_0 : Int) (a0_r_1 : Int) (a0_r_2 : Int) (a0_r_3 : Int) (a0_r_4_a : Option Addr) (a0_r_4_n : Nat) (a0_r_4_c : Nat) (a0_r_5_a : Option Addr) (a0_r_5_n : Nat) (a0_r_5_c : Nat) (R : Value → World → Prop) (w : World) :
    dnF Try.prog request_check_an (code Try.f37) 400 [] (post3 Try.prog Try.f37 [] R) ⟨args0 0 [(.agg #[(.int .i64 a0_r_0), (.int .i64 a0_r_1), (.int .i64 a0_r_2), (.int .i64 a0_r_3), (.slice a0_r_4_a a0_r_4_n a0_r_4_c), (.slice a0_r_5_a a0_r_5_n a0_r_5_c)])], fun _ => undef⟩ ⟨[], w, [], [], true⟩ = request_check_T a0_r_0 a0_r_1 a0_r_2 a0_r_3 a0_r_4_a a0_r_4_n a0_r_4_c a0_r_5_a a0_r_5_n a0_r_5_c R w := by kernel_rfl
theorem request_check_go {a0_r_0 : Int} {a0_r_1 : Int} {a0_r_2 : Int} {a0_r_3 : Int} {a0_r_4_a : Option Addr} {a0_r_4_n : Nat} {a0_r_4_c : Nat} {a0_r_5_a : Option Addr} {a0_r_5_n : Nat} {a0_r_5_c : Nat} {R : Value → World → Prop} {w : World} (h : request_check_T a0_r_0 a0_r_1 a0_r_2 a0_r_3 a0_r_4_a a0_r_4_n a0_r_4_c a0_r_5_a a0_r_5_n a0_r_5_c R w) :
    Calls Try.prog 37 #[(.agg #[(.int .i64 a0_r_0), (.int .i64 a0_r_1), (.int .i64 a0_r_2), (.int .i64 a0_r_3), (.slice a0_r_4_a a0_r_4_n a0_r_4_c), (.slice a0_r_5_a a0_r_5_n a0_r_5_c)])] w fun e w' => ∃ v, e = .returned v ∧ R v w' :=
  calls_none Try.wide_mixed (f := 37) (args := [(.agg #[(.int .i64 a0_r_0), (.int .i64 a0_r_1), (.int .i64 a0_r_2), (.int .i64 a0_r_3), (.slice a0_r_4_a a0_r_4_n a0_r_4_c), (.slice a0_r_5_a a0_r_5_n a0_r_5_c)])]) Try.func37 rfl rfl (by kernel_rfl) rfl (Eq.mpr (request_check_eq a0_r_0 a0_r_1 a0_r_2 a0_r_3 a0_r_4_a a0_r_4_n a0_r_4_c a0_r_5_a a0_r_5_n a0_r_5_c R w) h)
def ref04_Right_la1 : LA := ⟨[1, 1], [1, 3], [(1, 0, 0)], 1, []⟩
def ref04_Right_la2 : LA := ⟨[0, 0, 1, 0, 1, 1], [1, 3, 4], [(1, 0, 0)], 1, []⟩
def ref04_Right_la3 : LA := ⟨[0, 0, 1, 0, 1, 1, 1], [1, 3, 5], [(1, 0, 0)], 1, []⟩
def ref04_Right_la4 : LA := ⟨[0, 0, 1, 0, 1, 1, 1, 1, 1, 1], [1, 6], [(1, 0, 0)], 1, []⟩
def ref04_Right_la5 : LA := ⟨[0, 0, 1, 0, 1, 1, 1, 1, 1, 1, 1], [1, 7], [(1, 0, 0)], 1, []⟩
def ref04_Right_an : List LA := [ref04_Right_la1, ref04_Right_la2, ref04_Right_la3, ref04_Right_la4, ref04_Right_la5]
def ref04_Right_v1 (t_3 : Bool) (bm0 : Nat) : List Value := [(.pointer (some ⟨bm0, 0, none⟩)), (.bool t_3)]
def ref04_Right_m1 (bm0 : Nat) (x_m0_0 : Int) (x_m0_1 : Int) (x_m0_2 : Int) (x_m0_3 : Int) (a_m0_4 : Option Addr) (n_m0_4 : Nat) (c_m0_4 : Nat) (a_m0_5 : Option Addr) (n_m0_5 : Nat) (c_m0_5 : Nat) : List TB := [⟨bm0, 27, [(.int .i64 x_m0_0), (.int .i64 x_m0_1), (.int .i64 x_m0_2), (.int .i64 x_m0_3), (.slice a_m0_4 n_m0_4 c_m0_4), (.slice a_m0_5 n_m0_5 c_m0_5)], false⟩]
def ref04_Right_v2 (bm0 : Nat) (t_3 : Bool) (x_4 : Int) : List Value := [(.pointer (some ⟨bm0, 0, none⟩)), (.bool t_3), (.int .i64 x_4)]
def ref04_Right_m2 (bm0 : Nat) (x_m0_0 : Int) (x_m0_1 : Int) (x_m0_2 : Int) (x_m0_3 : Int) (a_m0_4 : Option Addr) (n_m0_4 : Nat) (c_m0_4 : Nat) (a_m0_5 : Option Addr) (n_m0_5 : Nat) (c_m0_5 : Nat) : List TB := [⟨bm0, 27, [(.int .i64 x_m0_0), (.int .i64 x_m0_1), (.int .i64 x_m0_2), (.int .i64 x_m0_3), (.slice a_m0_4 n_m0_4 c_m0_4), (.slice a_m0_5 n_m0_5 c_m0_5)], false⟩]
def ref04_Right_v3 (bm0 : Nat) (t_3 : Bool) (x_5 : Int) : List Value := [(.pointer (some ⟨bm0, 0, none⟩)), (.bool t_3), (.int .i64 x_5)]
def ref04_Right_m3 (bm0 : Nat) (x_m0_0 : Int) (x_m0_1 : Int) (x_m0_2 : Int) (x_m0_3 : Int) (a_m0_4 : Option Addr) (n_m0_4 : Nat) (c_m0_4 : Nat) (a_m0_5 : Option Addr) (n_m0_5 : Nat) (c_m0_5 : Nat) : List TB := [⟨bm0, 27, [(.int .i64 x_m0_0), (.int .i64 x_m0_1), (.int .i64 x_m0_2), (.int .i64 x_m0_3), (.slice a_m0_4 n_m0_4 c_m0_4), (.slice a_m0_5 n_m0_5 c_m0_5)], false⟩]
def ref04_Right_v4 (bm0 : Nat) (x_6 : Int) : List Value := [(.pointer (some ⟨bm0, 0, none⟩)), (.int .i64 x_6)]
def ref04_Right_m4 (bm0 : Nat) (x_m0_0 : Int) (x_m0_1 : Int) (x_m0_2 : Int) (x_m0_3 : Int) (a_m0_4 : Option Addr) (n_m0_4 : Nat) (c_m0_4 : Nat) (a_m0_5 : Option Addr) (n_m0_5 : Nat) (c_m0_5 : Nat) : List TB := [⟨bm0, 27, [(.int .i64 x_m0_0), (.int .i64 x_m0_1), (.int .i64 x_m0_2), (.int .i64 x_m0_3), (.slice a_m0_4 n_m0_4 c_m0_4), (.slice a_m0_5 n_m0_5 c_m0_5)], false⟩]
def ref04_Right_v5 (bm0 : Nat) (x_7 : Int) : List Value := [(.pointer (some ⟨bm0, 0, none⟩)), (.int .i64 x_7)]
def ref04_Right_m5 (bm0 : Nat) (x_m0_0 : Int) (x_m0_1 : Int) (x_m0_2 : Int) (x_m0_3 : Int) (a_m0_4 : Option Addr) (n_m0_4 : Nat) (c_m0_4 : Nat) (a_m0_5 : Option Addr) (n_m0_5 : Nat) (c_m0_5 : Nat) : List TB := [⟨bm0, 27, [(.int .i64 x_m0_0), (.int .i64 x_m0_1), (.int .i64 x_m0_2), (.int .i64 x_m0_3), (.slice a_m0_4 n_m0_4 c_m0_4), (.slice a_m0_5 n_m0_5 c_m0_5)], false⟩]
def ref04_Right_C1 (t_3 : Bool) (bm0 : Nat) (x_m0_0 : Int) (x_m0_1 : Int) (x_m0_2 : Int) (x_m0_3 : Int) (a_m0_4 : Option Addr) (n_m0_4 : Nat) (c_m0_4 : Nat) (a_m0_5 : Option Addr) (n_m0_5 : Nat) (c_m0_5 : Nat) (R : Value → World → Prop) (w : World) : Prop :=
  loopD3 ref04_Right_la2 (dnF Try.prog ref04_Right_an (code Try.f29) 396 [0, 0, 1, 0, 1, 1]) (kont3 Try.prog ref04_Right_an (code Try.f29) [1, 1, 0, 1, 0] [] (post3 Try.prog Try.f29 [] R)) (ref04_Right_v2 bm0 t_3 0) (ref04_Right_m2 bm0 x_m0_0 x_m0_1 x_m0_2 x_m0_3 a_m0_4 n_m0_4 c_m0_4 a_m0_5 n_m0_5 c_m0_5) w
theorem ref04_Right_C1_eq (t_3 : Bool) (bm0 : Nat) (x_m0_0 : Int) (x_m0_1 : Int) (x_m0_2 : Int) (x_m0_3 : Int) (a_m0_4 : Option Addr) (n_m0_4 : Nat) (c_m0_4 : Nat) (a_m0_5 : Option Addr) (n_m0_5 : Nat) (c_m0_5 : Nat) (js : Nat → Value) (R : Value → World → Prop) (w : World) :
    headA ref04_Right_la1 ((dnF Try.prog ref04_Right_an (code Try.f29) 398 [1, 1]) (kont3 Try.prog ref04_Right_an (code Try.f29) [1] [] (post3 Try.prog Try.f29 [] R))) (ref04_Right_v1 t_3 bm0) js (ref04_Right_m1 bm0 x_m0_0 x_m0_1 x_m0_2 x_m0_3 a_m0_4 n_m0_4 c_m0_4 a_m0_5 n_m0_5 c_m0_5) w = ref04_Right_C1 t_3 bm0 x_m0_0 x_m0_1 x_m0_2 x_m0_3 a_m0_4 n_m0_4 c_m0_4 a_m0_5 n_m0_5 c_m0_5 R w := by kernel_rfl
theorem ref04_Right_cut1 {t_30 : Bool} {bm00 : Nat} {x_m0_00 : Int} {x_m0_10 : Int} {x_m0_20 : Int} {x_m0_30 : Int} {a_m0_40 : Option Addr} {n_m0_40 : Nat} {c_m0_40 : Nat} {a_m0_50 : Option Addr} {n_m0_50 : Nat} {c_m0_50 : Nat} {R : Value → World → Prop} {w0 : World} (J : Bool → Nat → Int → Int → Int → Int → Option Addr → Nat → Nat → Option Addr → Nat → Nat → World → Prop) (h0 : J t_30 bm00 x_m0_00 x_m0_10 x_m0_20 x_m0_30 a_m0_40 n_m0_40 c_m0_40 a_m0_50 n_m0_50 c_m0_50 w0)
    (hr : ∀ (t_3 : Bool) (bm0 : Nat) (x_m0_0 : Int) (x_m0_1 : Int) (x_m0_2 : Int) (x_m0_3 : Int) (a_m0_4 : Option Addr) (n_m0_4 : Nat) (c_m0_4 : Nat) (a_m0_5 : Option Addr) (n_m0_5 : Nat) (c_m0_5 : Nat) (w : World), J t_3 bm0 x_m0_0 x_m0_1 x_m0_2 x_m0_3 a_m0_4 n_m0_4 c_m0_4 a_m0_5 n_m0_5 c_m0_5 w → ref04_Right_C1 t_3 bm0 x_m0_0 x_m0_1 x_m0_2 x_m0_3 a_m0_4 n_m0_4 c_m0_4 a_m0_5 n_m0_5 c_m0_5 R w) :
    cutD3 ref04_Right_la1 ((dnF Try.prog ref04_Right_an (code Try.f29) 398 [1, 1]) (kont3 Try.prog ref04_Right_an (code Try.f29) [1] [] (post3 Try.prog Try.f29 [] R))) (ref04_Right_v1 t_30 bm00) (ref04_Right_m1 bm00 x_m0_00 x_m0_10 x_m0_20 x_m0_30 a_m0_40 n_m0_40 c_m0_40 a_m0_50 n_m0_50 c_m0_50) w0 := by
  refine ⟨fun vals mem w => ∃ t_3 bm0 x_m0_0 x_m0_1 x_m0_2 x_m0_3 a_m0_4 n_m0_4 c_m0_4 a_m0_5 n_m0_5 c_m0_5, vals = (ref04_Right_v1 t_3 bm0) ∧ mem = (ref04_Right_m1 bm0 x_m0_0 x_m0_1 x_m0_2 x_m0_3 a_m0_4 n_m0_4 c_m0_4 a_m0_5 n_m0_5 c_m0_5) ∧ J t_3 bm0 x_m0_0 x_m0_1 x_m0_2 x_m0_3 a_m0_4 n_m0_4 c_m0_4 a_m0_5 n_m0_5 c_m0_5 w, ⟨_, _, _, _, _, _, _, _, _, _, _, _, rfl, rfl, h0⟩, ?_⟩
  rintro vals mem w ⟨t_3, bm0, x_m0_0, x_m0_1, x_m0_2, x_m0_3, a_m0_4, n_m0_4, c_m0_4, a_m0_5, n_m0_5, c_m0_5, rfl, rfl, hJ⟩
  refine ⟨rfl, rfl, fun js => ?_⟩
  have h := hr t_3 bm0 x_m0_0 x_m0_1 x_m0_2 x_m0_3 a_m0_4 n_m0_4 c_m0_4 a_m0_5 n_m0_5 c_m0_5 w hJ
  rw [← ref04_Right_C1_eq _ _ _ _ _ _ _ _ _ _ _ _ js] at h
  exact h
def ref04_Right_L2 (bm0 : Nat) (x_m0_0 : Int) (x_m0_1 : Int) (x_m0_2 : Int) (x_m0_3 : Int) (a_m0_4 : Option Addr) (n_m0_4 : Nat) (c_m0_4 : Nat) (a_m0_5 : Option Addr) (n_m0_5 : Nat) (c_m0_5 : Nat) (t_3 : Bool) (x_4 : Int) (K2 : Kh) (R : Value → World → Prop) (w : World) : Prop :=
  brB (decide (x_4 < (n_m0_4 : Int))) (
    brB t_3 (
      ixA a_m0_4 n_m0_4 x_4 5 fun q11 =>
      ldInt .i64 w q11 fun x12 =>
      Calls Try.prog 47 #[(.int .i64 x12)] w fun e w13 => ∃ t14 : Bool, e = .returned (.bool t14) ∧ Keep [bm0] w w13 ∧
      K2 (ref04_Right_v2 bm0 t14 (IntKind.wrap .i64 (x_4 + 1))) (ref04_Right_m2 bm0 x_m0_0 x_m0_1 x_m0_2 x_m0_3 a_m0_4 n_m0_4 c_m0_4 a_m0_5 n_m0_5 c_m0_5) w13)
    (
      K2 (ref04_Right_v2 bm0 false (IntKind.wrap .i64 (x_4 + 1))) (ref04_Right_m2 bm0 x_m0_0 x_m0_1 x_m0_2 x_m0_3 a_m0_4 n_m0_4 c_m0_4 a_m0_5 n_m0_5 c_m0_5) w))
  (
    loopD3 ref04_Right_la3 (dnF Try.prog ref04_Right_an (code Try.f29) 395 [0, 0, 1, 0, 1, 1, 1]) (kont3 Try.prog ref04_Right_an (code Try.f29) [1, 1, 1, 0, 1, 0] [] (post3 Try.prog Try.f29 [] R)) (ref04_Right_v3 bm0 t_3 0) (ref04_Right_m3 bm0 x_m0_0 x_m0_1 x_m0_2 x_m0_3 a_m0_4 n_m0_4 c_m0_4 a_m0_5 n_m0_5 c_m0_5) w)
theorem ref04_Right_L2_eq (bm0 : Nat) (x_m0_0 : Int) (x_m0_1 : Int) (x_m0_2 : Int) (x_m0_3 : Int) (a_m0_4 : Option Addr) (n_m0_4 : Nat) (c_m0_4 : Nat) (a_m0_5 : Option Addr) (n_m0_5 : Nat) (c_m0_5 : Nat) (t_3 : Bool) (x_4 : Int) (K2 : Kh) (js : Nat → Value) (R : Value → World → Prop) (w : World) :
    headA ref04_Right_la2 ((dnF Try.prog ref04_Right_an (code Try.f29) 396 [0, 0, 1, 0, 1, 1]) (kthen3 (atA ref04_Right_la2 K2) (kont3 Try.prog ref04_Right_an (code Try.f29) [1, 1, 0, 1, 0] [] (post3 Try.prog Try.f29 [] R)))) (ref04_Right_v2 bm0 t_3 x_4) js (ref04_Right_m2 bm0 x_m0_0 x_m0_1 x_m0_2 x_m0_3 a_m0_4 n_m0_4 c_m0_4 a_m0_5 n_m0_5 c_m0_5) w = ref04_Right_L2 bm0 x_m0_0 x_m0_1 x_m0_2 x_m0_3 a_m0_4 n_m0_4 c_m0_4 a_m0_5 n_m0_5 c_m0_5 t_3 x_4 K2 R w := by kernel_rfl
def ref04_Right_K2 (bm0 : Nat) (x_m0_0 : Int) (x_m0_1 : Int) (x_m0_2 : Int) (x_m0_3 : Int) (a_m0_4 : Option Addr) (n_m0_4 : Nat) (c_m0_4 : Nat) (a_m0_5 : Option Addr) (n_m0_5 : Nat) (c_m0_5 : Nat) (I : Nat → Bool → Int → World → Prop) (m : Nat) (vals : List Value) (mem : List TB) (w : World) : Prop := ∃ m', m' < m ∧ ∃ t_3 x_4, vals = (ref04_Right_v2 bm0 t_3 x_4) ∧ mem = (ref04_Right_m2 bm0 x_m0_0 x_m0_1 x_m0_2 x_m0_3 a_m0_4 n_m0_4 c_m0_4 a_m0_5 n_m0_5 c_m0_5) ∧ I m' t_3 x_4 w
theorem ref04_Right_leaf2 {bm0 : Nat} {x_m0_0 : Int} {x_m0_1 : Int} {x_m0_2 : Int} {x_m0_3 : Int} {a_m0_4 : Option Addr} {n_m0_4 : Nat} {c_m0_4 : Nat} {a_m0_5 : Option Addr} {n_m0_5 : Nat} {c_m0_5 : Nat} {I : Nat → Bool → Int → World → Prop} {m : Nat} {t_3 : Bool} {x_4 : Int} {w : World} (m' : Nat) (h1 : m' < m) (h2 : I m' t_3 x_4 w) : ref04_Right_K2 bm0 x_m0_0 x_m0_1 x_m0_2 x_m0_3 a_m0_4 n_m0_4 c_m0_4 a_m0_5 n_m0_5 c_m0_5 I m (ref04_Right_v2 bm0 t_3 x_4) (ref04_Right_m2 bm0 x_m0_0 x_m0_1 x_m0_2 x_m0_3 a_m0_4 n_m0_4 c_m0_4 a_m0_5 n_m0_5 c_m0_5) w := ⟨m', h1, _, _, rfl, rfl, h2⟩
theorem ref04_Right_rule2 {bm0 : Nat} {x_m0_0 : Int} {x_m0_1 : Int} {x_m0_2 : Int} {x_m0_3 : Int} {a_m0_4 : Option Addr} {n_m0_4 : Nat} {c_m0_4 : Nat} {a_m0_5 : Option Addr} {n_m0_5 : Nat} {c_m0_5 : Nat} {t_30 : Bool} {x_40 : Int} {R : Value → World → Prop} {w0 : World} (I : Nat → Bool → Int → World → Prop) (m0 : Nat) (h0 : I m0 t_30 x_40 w0)
    (hr : ∀ (m : Nat) (t_3 : Bool) (x_4 : Int) (w : World), I m t_3 x_4 w → ref04_Right_L2 bm0 x_m0_0 x_m0_1 x_m0_2 x_m0_3 a_m0_4 n_m0_4 c_m0_4 a_m0_5 n_m0_5 c_m0_5 t_3 x_4 (ref04_Right_K2 bm0 x_m0_0 x_m0_1 x_m0_2 x_m0_3 a_m0_4 n_m0_4 c_m0_4 a_m0_5 n_m0_5 c_m0_5 I m) R w) :
    loopD3 ref04_Right_la2 (dnF Try.prog ref04_Right_an (code Try.f29) 396 [0, 0, 1, 0, 1, 1]) (kont3 Try.prog ref04_Right_an (code Try.f29) [1, 1, 0, 1, 0] [] (post3 Try.prog Try.f29 [] R)) (ref04_Right_v2 bm0 t_30 x_40) (ref04_Right_m2 bm0 x_m0_0 x_m0_1 x_m0_2 x_m0_3 a_m0_4 n_m0_4 c_m0_4 a_m0_5 n_m0_5 c_m0_5) w0 := by
  refine ⟨fun m vals mem w => ∃ t_3 x_4, vals = (ref04_Right_v2 bm0 t_3 x_4) ∧ mem = (ref04_Right_m2 bm0 x_m0_0 x_m0_1 x_m0_2 x_m0_3 a_m0_4 n_m0_4 c_m0_4 a_m0_5 n_m0_5 c_m0_5) ∧ I m t_3 x_4 w, m0, ⟨_, _, rfl, rfl, h0⟩, ?_⟩
  rintro m vals mem w ⟨t_3, x_4, rfl, rfl, hI⟩
  refine ⟨rfl, rfl, fun js => ?_⟩
  have h := hr m t_3 x_4 w hI
  rw [← ref04_Right_L2_eq _ _ _ _ _ _ _ _ _ _ _ _ _ _ js] at h
  exact h
def ref04_Right_L3 (bm0 : Nat) (x_m0_0 : Int) (x_m0_1 : Int) (x_m0_2 : Int) (x_m0_3 : Int) (a_m0_4 : Option Addr) (n_m0_4 : Nat) (c_m0_4 : Nat) (a_m0_5 : Option Addr) (n_m0_5 : Nat) (c_m0_5 : Nat) (t_3 : Bool) (x_5 : Int) (K3 : Kh) (R : Value → World → Prop) (w : World) : Prop :=
  brB (decide (x_5 < (n_m0_5 : Int))) (
    brB t_3 (
      ixA a_m0_5 n_m0_5 x_5 2 fun q15 =>
      ldInt .i64 w (Addr.add q15 1) fun x16 =>
      Calls Try.prog 47 #[(.int .i64 x16)] w fun e w17 => ∃ t18 : Bool, e = .returned (.bool t18) ∧ Keep [bm0] w w17 ∧
      K3 (ref04_Right_v3 bm0 t18 (IntKind.wrap .i64 (x_5 + 1))) (ref04_Right_m3 bm0 x_m0_0 x_m0_1 x_m0_2 x_m0_3 a_m0_4 n_m0_4 c_m0_4 a_m0_5 n_m0_5 c_m0_5) w17)
    (
      K3 (ref04_Right_v3 bm0 false (IntKind.wrap .i64 (x_5 + 1))) (ref04_Right_m3 bm0 x_m0_0 x_m0_1 x_m0_2 x_m0_3 a_m0_4 n_m0_4 c_m0_4 a_m0_5 n_m0_5 c_m0_5) w))
  (
    brB (!t_3) (
      R (.int .i64 1) w)
    (
      brB (decide ((n_m0_4 : Int) > 64)) (
        R (.int .i64 2) w)
      (
        brB (decide ((n_m0_5 : Int) > 64)) (
          R (.int .i64 2) w)
        (
          loopD3 ref04_Right_la4 (dnF Try.prog ref04_Right_an (code Try.f29) 392 [0, 0, 1, 0, 1, 1, 1, 1, 1, 1]) (kont3 Try.prog ref04_Right_an (code Try.f29) [1, 1, 1, 1, 1, 1, 0, 1, 0] [] (post3 Try.prog Try.f29 [] R)) (ref04_Right_v4 bm0 0) (ref04_Right_m4 bm0 x_m0_0 x_m0_1 x_m0_2 x_m0_3 a_m0_4 n_m0_4 c_m0_4 a_m0_5 n_m0_5 c_m0_5) w))))
theorem ref04_Right_L3_eq (bm0 : Nat) (x_m0_0 : Int) (x_m0_1 : Int) (x_m0_2 : Int) (x_m0_3 : Int) (a_m0_4 : Option Addr) (n_m0_4 : Nat) (c_m0_4 : Nat) (a_m0_5 : Option Addr) (n_m0_5 : Nat) (c_m0_5 : Nat) (t_3 : Bool) (x_5 : Int) (K3 : Kh) (js : Nat → Value) (R : Value → World → Prop) (w : World) :
    headA ref04_Right_la3 ((dnF Try.prog ref04_Right_an (code Try.f29) 395 [0, 0, 1, 0, 1, 1, 1]) (kthen3 (atA ref04_Right_la3 K3) (kont3 Try.prog ref04_Right_an (code Try.f29) [1, 1, 1, 0, 1, 0] [] (post3 Try.prog Try.f29 [] R)))) (ref04_Right_v3 bm0 t_3 x_5) js (ref04_Right_m3 bm0 x_m0_0 x_m0_1 x_m0_2 x_m0_3 a_m0_4 n_m0_4 c_m0_4 a_m0_5 n_m0_5 c_m0_5) w = ref04_Right_L3 bm0 x_m0_0 x_m0_1 x_m0_2 x_m0_3 a_m0_4 n_m0_4 c_m0_4 a_m0_5 n_m0_5 c_m0_5 t_3 x_5 K3 R w := by kernel_rfl
def ref04_Right_K3 (bm0 : Nat) (x_m0_0 : Int) (x_m0_1 : Int) (x_m0_2 : Int) (x_m0_3 : Int) (a_m0_4 : Option Addr) (n_m0_4 : Nat) (c_m0_4 : Nat) (a_m0_5 : Option Addr) (n_m0_5 : Nat) (c_m0_5 : Nat) (I : Nat → Bool → Int → World → Prop) (m : Nat) (vals : List Value) (mem : List TB) (w : World) : Prop := ∃ m', m' < m ∧ ∃ t_3 x_5, vals = (ref04_Right_v3 bm0 t_3 x_5) ∧ mem = (ref04_Right_m3 bm0 x_m0_0 x_m0_1 x_m0_2 x_m0_3 a_m0_4 n_m0_4 c_m0_4 a_m0_5 n_m0_5 c_m0_5) ∧ I m' t_3 x_5 w
theorem ref04_Right_leaf3 {bm0 : Nat} {x_m0_0 : Int} {x_m0_1 : Int} {x_m0_2 : Int} {x_m0_3 : Int} {a_m0_4 : Option Addr} {n_m0_4 : Nat} {c_m0_4 : Nat} {a_m0_5 : Option Addr} {n_m0_5 : Nat} {c_m0_5 : Nat} {I : Nat → Bool → Int → World → Prop} {m : Nat} {t_3 : Bool} {x_5 : Int} {w : World} (m' : Nat) (h1 : m' < m) (h2 : I m' t_3 x_5 w) : ref04_Right_K3 bm0 x_m0_0 x_m0_1 x_m0_2 x_m0_3 a_m0_4 n_m0_4 c_m0_4 a_m0_5 n_m0_5 c_m0_5 I m (ref04_Right_v3 bm0 t_3 x_5) (ref04_Right_m3 bm0 x_m0_0 x_m0_1 x_m0_2 x_m0_3 a_m0_4 n_m0_4 c_m0_4 a_m0_5 n_m0_5 c_m0_5) w := ⟨m', h1, _, _, rfl, rfl, h2⟩
theorem ref04_Right_rule3 {bm0 : Nat} {x_m0_0 : Int} {x_m0_1 : Int} {x_m0_2 : Int} {x_m0_3 : Int} {a_m0_4 : Option Addr} {n_m0_4 : Nat} {c_m0_4 : Nat} {a_m0_5 : Option Addr} {n_m0_5 : Nat} {c_m0_5 : Nat} {t_30 : Bool} {x_50 : Int} {R : Value → World → Prop} {w0 : World} (I : Nat → Bool → Int → World → Prop) (m0 : Nat) (h0 : I m0 t_30 x_50 w0)
    (hr : ∀ (m : Nat) (t_3 : Bool) (x_5 : Int) (w : World), I m t_3 x_5 w → ref04_Right_L3 bm0 x_m0_0 x_m0_1 x_m0_2 x_m0_3 a_m0_4 n_m0_4 c_m0_4 a_m0_5 n_m0_5 c_m0_5 t_3 x_5 (ref04_Right_K3 bm0 x_m0_0 x_m0_1 x_m0_2 x_m0_3 a_m0_4 n_m0_4 c_m0_4 a_m0_5 n_m0_5 c_m0_5 I m) R w) :
    loopD3 ref04_Right_la3 (dnF Try.prog ref04_Right_an (code Try.f29) 395 [0, 0, 1, 0, 1, 1, 1]) (kont3 Try.prog ref04_Right_an (code Try.f29) [1, 1, 1, 0, 1, 0] [] (post3 Try.prog Try.f29 [] R)) (ref04_Right_v3 bm0 t_30 x_50) (ref04_Right_m3 bm0 x_m0_0 x_m0_1 x_m0_2 x_m0_3 a_m0_4 n_m0_4 c_m0_4 a_m0_5 n_m0_5 c_m0_5) w0 := by
  refine ⟨fun m vals mem w => ∃ t_3 x_5, vals = (ref04_Right_v3 bm0 t_3 x_5) ∧ mem = (ref04_Right_m3 bm0 x_m0_0 x_m0_1 x_m0_2 x_m0_3 a_m0_4 n_m0_4 c_m0_4 a_m0_5 n_m0_5 c_m0_5) ∧ I m t_3 x_5 w, m0, ⟨_, _, rfl, rfl, h0⟩, ?_⟩
  rintro m vals mem w ⟨t_3, x_5, rfl, rfl, hI⟩
  refine ⟨rfl, rfl, fun js => ?_⟩
  have h := hr m t_3 x_5 w hI
  rw [← ref04_Right_L3_eq _ _ _ _ _ _ _ _ _ _ _ _ _ _ js] at h
  exact h
def ref04_Right_L4 (bm0 : Nat) (x_m0_0 : Int) (x_m0_1 : Int) (x_m0_2 : Int) (x_m0_3 : Int) (a_m0_4 : Option Addr) (n_m0_4 : Nat) (c_m0_4 : Nat) (a_m0_5 : Option Addr) (n_m0_5 : Nat) (c_m0_5 : Nat) (x_6 : Int) (K4 : Kh) (R : Value → World → Prop) (w : World) : Prop :=
  brB (decide (x_6 < (n_m0_4 : Int))) (
    ixA a_m0_4 n_m0_4 x_6 5 fun q19 =>
    ldBool w (Addr.add q19 1) fun t20 => ldStr w (Addr.add (Addr.add q19 1) 1) fun s21 => ldBool w (Addr.add (Addr.add q19 1) 2) fun t22 => ldStr w (Addr.add (Addr.add q19 1) 3) fun s23 =>
    Calls Try.prog 48 #[(.agg #[(.bool t20), (.string s21), (.bool t22), (.string s23)])] w fun e w24 => ∃ x25 : Int, e = .returned (.int .i64 x25) ∧ Keep [bm0] w w24 ∧
    brB (x25 != 0) (
      R (.int .i64 40) w24)
    (
      K4 (ref04_Right_v4 bm0 (IntKind.wrap .i64 (x_6 + 1))) (ref04_Right_m4 bm0 x_m0_0 x_m0_1 x_m0_2 x_m0_3 a_m0_4 n_m0_4 c_m0_4 a_m0_5 n_m0_5 c_m0_5) w24))
  (
    loopD3 ref04_Right_la5 (dnF Try.prog ref04_Right_an (code Try.f29) 391 [0, 0, 1, 0, 1, 1, 1, 1, 1, 1, 1]) (kont3 Try.prog ref04_Right_an (code Try.f29) [1, 1, 1, 1, 1, 1, 1, 0, 1, 0] [] (post3 Try.prog Try.f29 [] R)) (ref04_Right_v5 bm0 0) (ref04_Right_m5 bm0 x_m0_0 x_m0_1 x_m0_2 x_m0_3 a_m0_4 n_m0_4 c_m0_4 a_m0_5 n_m0_5 c_m0_5) w)
theorem ref04_Right_L4_eq (bm0 : Nat) (x_m0_0 : Int) (x_m0_1 : Int) (x_m0_2 : Int) (x_m0_3 : Int) (a_m0_4 : Option Addr) (n_m0_4 : Nat) (c_m0_4 : Nat) (a_m0_5 : Option Addr) (n_m0_5 : Nat) (c_m0_5 : Nat) (x_6 : Int) (K4 : Kh) (js : Nat → Value) (R : Value → World → Prop) (w : World) :
    headA ref04_Right_la4 ((dnF Try.prog ref04_Right_an (code Try.f29) 392 [0, 0, 1, 0, 1, 1, 1, 1, 1, 1]) (kthen3 (atA ref04_Right_la4 K4) (kont3 Try.prog ref04_Right_an (code Try.f29) [1, 1, 1, 1, 1, 1, 0, 1, 0] [] (post3 Try.prog Try.f29 [] R)))) (ref04_Right_v4 bm0 x_6) js (ref04_Right_m4 bm0 x_m0_0 x_m0_1 x_m0_2 x_m0_3 a_m0_4 n_m0_4 c_m0_4 a_m0_5 n_m0_5 c_m0_5) w = ref04_Right_L4 bm0 x_m0_0 x_m0_1 x_m0_2 x_m0_3 a_m0_4 n_m0_4 c_m0_4 a_m0_5 n_m0_5 c_m0_5 x_6 K4 R w := by kernel_rfl
def ref04_Right_K4 (bm0 : Nat) (x_m0_0 : Int) (x_m0_1 : Int) (x_m0_2 : Int) (x_m0_3 : Int) (a_m0_4 : Option Addr) (n_m0_4 : Nat) (c_m0_4 : Nat) (a_m0_5 : Option Addr) (n_m0_5 : Nat) (c_m0_5 : Nat) (I : Nat → Int → World → Prop) (m : Nat) (vals : List Value) (mem : List TB) (w : World) : Prop := ∃ m', m' < m ∧ ∃ x_6, vals = (ref04_Right_v4 bm0 x_6) ∧ mem = (ref04_Right_m4 bm0 x_m0_0 x_m0_1 x_m0_2 x_m0_3 a_m0_4 n_m0_4 c_m0_4 a_m0_5 n_m0_5 c_m0_5) ∧ I m' x_6 w
theorem ref04_Right_leaf4 {bm0 : Nat} {x_m0_0 : Int} {x_m0_1 : Int} {x_m0_2 : Int} {x_m0_3 : Int} {a_m0_4 : Option Addr} {n_m0_4 : Nat} {c_m0_4 : Nat} {a_m0_5 : Option Addr} {n_m0_5 : Nat} {c_m0_5 : Nat} {I : Nat → Int → World → Prop} {m : Nat} {x_6 : Int} {w : World} (m' : Nat) (h1 : m' < m) (h2 : I m' x_6 w) : ref04_Right_K4 bm0 x_m0_0 x_m0_1 x_m0_2 x_m0_3 a_m0_4 n_m0_4 c_m0_4 a_m0_5 n_m0_5 c_m0_5 I m (ref04_Right_v4 bm0 x_6) (ref04_Right_m4 bm0 x_m0_0 x_m0_1 x_m0_2 x_m0_3 a_m0_4 n_m0_4 c_m0_4 a_m0_5 n_m0_5 c_m0_5) w := ⟨m', h1, _, rfl, rfl, h2⟩
theorem ref04_Right_rule4 {bm0 : Nat} {x_m0_0 : Int} {x_m0_1 : Int} {x_m0_2 : Int} {x_m0_3 : Int} {a_m0_4 : Option Addr} {n_m0_4 : Nat} {c_m0_4 : Nat} {a_m0_5 : Option Addr} {n_m0_5 : Nat} {c_m0_5 : Nat} {x_60 : Int} {R : Value → World → Prop} {w0 : World} (I : Nat → Int → World → Prop) (m0 : Nat) (h0 : I m0 x_60 w0)
    (hr : ∀ (m : Nat) (x_6 : Int) (w : World), I m x_6 w → ref04_Right_L4 bm0 x_m0_0 x_m0_1 x_m0_2 x_m0_3 a_m0_4 n_m0_4 c_m0_4 a_m0_5 n_m0_5 c_m0_5 x_6 (ref04_Right_K4 bm0 x_m0_0 x_m0_1 x_m0_2 x_m0_3 a_m0_4 n_m0_4 c_m0_4 a_m0_5 n_m0_5 c_m0_5 I m) R w) :
    loopD3 ref04_Right_la4 (dnF Try.prog ref04_Right_an (code Try.f29) 392 [0, 0, 1, 0, 1, 1, 1, 1, 1, 1]) (kont3 Try.prog ref04_Right_an (code Try.f29) [1, 1, 1, 1, 1, 1, 0, 1, 0] [] (post3 Try.prog Try.f29 [] R)) (ref04_Right_v4 bm0 x_60) (ref04_Right_m4 bm0 x_m0_0 x_m0_1 x_m0_2 x_m0_3 a_m0_4 n_m0_4 c_m0_4 a_m0_5 n_m0_5 c_m0_5) w0 := by
  refine ⟨fun m vals mem w => ∃ x_6, vals = (ref04_Right_v4 bm0 x_6) ∧ mem = (ref04_Right_m4 bm0 x_m0_0 x_m0_1 x_m0_2 x_m0_3 a_m0_4 n_m0_4 c_m0_4 a_m0_5 n_m0_5 c_m0_5) ∧ I m x_6 w, m0, ⟨_, rfl, rfl, h0⟩, ?_⟩
  rintro m vals mem w ⟨x_6, rfl, rfl, hI⟩
  refine ⟨rfl, rfl, fun js => ?_⟩
  have h := hr m x_6 w hI
  rw [← ref04_Right_L4_eq _ _ _ _ _ _ _ _ _ _ _ _ _ js] at h
  exact h
def ref04_Right_L5 (bm0 : Nat) (x_m0_0 : Int) (x_m0_1 : Int) (x_m0_2 : Int) (x_m0_3 : Int) (a_m0_4 : Option Addr) (n_m0_4 : Nat) (c_m0_4 : Nat) (a_m0_5 : Option Addr) (n_m0_5 : Nat) (c_m0_5 : Nat) (x_7 : Int) (K5 : Kh) (R : Value → World → Prop) (w : World) : Prop :=
  brB (decide (x_7 < (n_m0_5 : Int))) (
    ixA a_m0_5 n_m0_5 x_7 2 fun q26 =>
    ldStr w q26 fun s27 =>
    Calls Try.prog 49 #[(.string s27)] w fun e w28 => ∃ t29 : Bool, e = .returned (.bool t29) ∧ Keep [bm0] w w28 ∧
    brB (!t29) (
      R (.int .i64 40) w28)
    (
      K5 (ref04_Right_v5 bm0 (IntKind.wrap .i64 (x_7 + 1))) (ref04_Right_m5 bm0 x_m0_0 x_m0_1 x_m0_2 x_m0_3 a_m0_4 n_m0_4 c_m0_4 a_m0_5 n_m0_5 c_m0_5) w28))
  (
    R (.int .i64 0) w)
theorem ref04_Right_L5_eq (bm0 : Nat) (x_m0_0 : Int) (x_m0_1 : Int) (x_m0_2 : Int) (x_m0_3 : Int) (a_m0_4 : Option Addr) (n_m0_4 : Nat) (c_m0_4 : Nat) (a_m0_5 : Option Addr) (n_m0_5 : Nat) (c_m0_5 : Nat) (x_7 : Int) (K5 : Kh) (js : Nat → Value) (R : Value → World → Prop) (w : World) :
    headA ref04_Right_la5 ((dnF Try.prog ref04_Right_an (code Try.f29) 391 [0, 0, 1, 0, 1, 1, 1, 1, 1, 1, 1]) (kthen3 (atA ref04_Right_la5 K5) (kont3 Try.prog ref04_Right_an (code Try.f29) [1, 1, 1, 1, 1, 1, 1, 0, 1, 0] [] (post3 Try.prog Try.f29 [] R)))) (ref04_Right_v5 bm0 x_7) js (ref04_Right_m5 bm0 x_m0_0 x_m0_1 x_m0_2 x_m0_3 a_m0_4 n_m0_4 c_m0_4 a_m0_5 n_m0_5 c_m0_5) w = ref04_Right_L5 bm0 x_m0_0 x_m0_1 x_m0_2 x_m0_3 a_m0_4 n_m0_4 c_m0_4 a_m0_5 n_m0_5 c_m0_5 x_7 K5 R w := by kernel_rfl
def ref04_Right_K5 (bm0 : Nat) (x_m0_0 : Int) (x_m0_1 : Int) (x_m0_2 : Int) (x_m0_3 : Int) (a_m0_4 : Option Addr) (n_m0_4 : Nat) (c_m0_4 : Nat) (a_m0_5 : Option Addr) (n_m0_5 : Nat) (c_m0_5 : Nat) (I : Nat → Int → World → Prop) (m : Nat) (vals : List Value) (mem : List TB) (w : World) : Prop := ∃ m', m' < m ∧ ∃ x_7, vals = (ref04_Right_v5 bm0 x_7) ∧ mem = (ref04_Right_m5 bm0 x_m0_0 x_m0_1 x_m0_2 x_m0_3 a_m0_4 n_m0_4 c_m0_4 a_m0_5 n_m0_5 c_m0_5) ∧ I m' x_7 w
theorem ref04_Right_leaf5 {bm0 : Nat} {x_m0_0 : Int} {x_m0_1 : Int} {x_m0_2 : Int} {x_m0_3 : Int} {a_m0_4 : Option Addr} {n_m0_4 : Nat} {c_m0_4 : Nat} {a_m0_5 : Option Addr} {n_m0_5 : Nat} {c_m0_5 : Nat} {I : Nat → Int → World → Prop} {m : Nat} {x_7 : Int} {w : World} (m' : Nat) (h1 : m' < m) (h2 : I m' x_7 w) : ref04_Right_K5 bm0 x_m0_0 x_m0_1 x_m0_2 x_m0_3 a_m0_4 n_m0_4 c_m0_4 a_m0_5 n_m0_5 c_m0_5 I m (ref04_Right_v5 bm0 x_7) (ref04_Right_m5 bm0 x_m0_0 x_m0_1 x_m0_2 x_m0_3 a_m0_4 n_m0_4 c_m0_4 a_m0_5 n_m0_5 c_m0_5) w := ⟨m', h1, _, rfl, rfl, h2⟩
theorem ref04_Right_rule5 {bm0 : Nat} {x_m0_0 : Int} {x_m0_1 : Int} {x_m0_2 : Int} {x_m0_3 : Int} {a_m0_4 : Option Addr} {n_m0_4 : Nat} {c_m0_4 : Nat} {a_m0_5 : Option Addr} {n_m0_5 : Nat} {c_m0_5 : Nat} {x_70 : Int} {R : Value → World → Prop} {w0 : World} (I : Nat → Int → World → Prop) (m0 : Nat) (h0 : I m0 x_70 w0)
    (hr : ∀ (m : Nat) (x_7 : Int) (w : World), I m x_7 w → ref04_Right_L5 bm0 x_m0_0 x_m0_1 x_m0_2 x_m0_3 a_m0_4 n_m0_4 c_m0_4 a_m0_5 n_m0_5 c_m0_5 x_7 (ref04_Right_K5 bm0 x_m0_0 x_m0_1 x_m0_2 x_m0_3 a_m0_4 n_m0_4 c_m0_4 a_m0_5 n_m0_5 c_m0_5 I m) R w) :
    loopD3 ref04_Right_la5 (dnF Try.prog ref04_Right_an (code Try.f29) 391 [0, 0, 1, 0, 1, 1, 1, 1, 1, 1, 1]) (kont3 Try.prog ref04_Right_an (code Try.f29) [1, 1, 1, 1, 1, 1, 1, 0, 1, 0] [] (post3 Try.prog Try.f29 [] R)) (ref04_Right_v5 bm0 x_70) (ref04_Right_m5 bm0 x_m0_0 x_m0_1 x_m0_2 x_m0_3 a_m0_4 n_m0_4 c_m0_4 a_m0_5 n_m0_5 c_m0_5) w0 := by
  refine ⟨fun m vals mem w => ∃ x_7, vals = (ref04_Right_v5 bm0 x_7) ∧ mem = (ref04_Right_m5 bm0 x_m0_0 x_m0_1 x_m0_2 x_m0_3 a_m0_4 n_m0_4 c_m0_4 a_m0_5 n_m0_5 c_m0_5) ∧ I m x_7 w, m0, ⟨_, rfl, rfl, h0⟩, ?_⟩
  rintro m vals mem w ⟨x_7, rfl, rfl, hI⟩
  refine ⟨rfl, rfl, fun js => ?_⟩
  have h := hr m x_7 w hI
  rw [← ref04_Right_L5_eq _ _ _ _ _ _ _ _ _ _ _ _ _ js] at h
  exact h
/-- stagecoach/stagecoachref04.Right -/
def ref04_Right_T (a0_x_0 : Int) (a0_x_1 : Int) (a0_x_2 : Int) (a0_x_3 : Int) (a0_x_4_a : Option Addr) (a0_x_4_n : Nat) (a0_x_4_c : Nat) (a0_x_5_a : Option Addr) (a0_x_5_n : Nat) (a0_x_5_c : Nat) (R : Value → World → Prop) (w : World) : Prop :=
  ∀ b1, w.heap.size ≤ b1 →
  ∀ w2, Adv [] [b1] w w2 →
  Calls Try.prog 47 #[(.int .i64 a0_x_0)] w2 fun e w3 => ∃ t4 : Bool, e = .returned (.bool t4) ∧ Keep [b1] w2 w3 ∧
  brB t4 (
    Calls Try.prog 47 #[(.int .i64 a0_x_1)] w3 fun e w5 => ∃ t6 : Bool, e = .returned (.bool t6) ∧ Keep [b1] w3 w5 ∧
    brB t6 (
      Calls Try.prog 47 #[(.int .i64 a0_x_2)] w5 fun e w7 => ∃ t8 : Bool, e = .returned (.bool t8) ∧ Keep [b1] w5 w7 ∧
      brB t8 (
        Calls Try.prog 47 #[(.int .i64 a0_x_3)] w7 fun e w9 => ∃ t10 : Bool, e = .returned (.bool t10) ∧ Keep [b1] w7 w9 ∧
        cutD3 ref04_Right_la1 ((dnF Try.prog ref04_Right_an (code Try.f29) 398 [1, 1]) (kont3 Try.prog ref04_Right_an (code Try.f29) [1] [] (post3 Try.prog Try.f29 [] R))) (ref04_Right_v1 t10 b1) (ref04_Right_m1 b1 a0_x_0 a0_x_1 a0_x_2 a0_x_3 a0_x_4_a a0_x_4_n a0_x_4_c a0_x_5_a a0_x_5_n a0_x_5_c) w9)
      (
        cutD3 ref04_Right_la1 ((dnF Try.prog ref04_Right_an (code Try.f29) 398 [1, 1]) (kont3 Try.prog ref04_Right_an (code Try.f29) [1] [] (post3 Try.prog Try.f29 [] R))) (ref04_Right_v1 false b1) (ref04_Right_m1 b1 a0_x_0 a0_x_1 a0_x_2 a0_x_3 a0_x_4_a a0_x_4_n a0_x_4_c a0_x_5_a a0_x_5_n a0_x_5_c) w7))
    (
      cutD3 ref04_Right_la1 ((dnF Try.prog ref04_Right_an (code Try.f29) 398 [1, 1]) (kont3 Try.prog ref04_Right_an (code Try.f29) [1] [] (post3 Try.prog Try.f29 [] R))) (ref04_Right_v1 false b1) (ref04_Right_m1 b1 a0_x_0 a0_x_1 a0_x_2 a0_x_3 a0_x_4_a a0_x_4_n a0_x_4_c a0_x_5_a a0_x_5_n a0_x_5_c) w5))
  (
    cutD3 ref04_Right_la1 ((dnF Try.prog ref04_Right_an (code Try.f29) 398 [1, 1]) (kont3 Try.prog ref04_Right_an (code Try.f29) [1] [] (post3 Try.prog Try.f29 [] R))) (ref04_Right_v1 false b1) (ref04_Right_m1 b1 a0_x_0 a0_x_1 a0_x_2 a0_x_3 a0_x_4_a a0_x_4_n a0_x_4_c a0_x_5_a a0_x_5_n a0_x_5_c) w3)
theorem ref04_Right_eq (a0_x_0 : Int) (a0_x_1 : Int) (a0_x_2 : Int) (a0_x_3 : Int) (a0_x_4_a : Option Addr) (a0_x_4_n : Nat) (a0_x_4_c : Nat) (a0_x_5_a : Option Addr) (a0_x_5_n : Nat) (a0_x_5_c : Nat) (R : Value → World → Prop) (w : World) :
    dnF Try.prog ref04_Right_an (code Try.f29) 400 [] (post3 Try.prog Try.f29 [] R) ⟨args0 0 [(.agg #[(.int .i64 a0_x_0), (.int .i64 a0_x_1), (.int .i64 a0_x_2), (.int .i64 a0_x_3), (.slice a0_x_4_a a0_x_4_n a0_x_4_c), (.slice a0_x_5_a a0_x_5_n a0_x_5_c)])], fun _ => undef⟩ ⟨[], w, [], [], true⟩ = ref04_Right_T a0_x_0 a0_x_1 a0_x_2 a0_x_3 a0_x_4_a a0_x_4_n a0_x_4_c a0_x_5_a a0_x_5_n a0_x_5_c R w := by kernel_rfl
theorem ref04_Right_go {a0_x_0 : Int} {a0_x_1 : Int} {a0_x_2 : Int} {a0_x_3 : Int} {a0_x_4_a : Option Addr} {a0_x_4_n : Nat} {a0_x_4_c : Nat} {a0_x_5_a : Option Addr} {a0_x_5_n : Nat} {a0_x_5_c : Nat} {R : Value → World → Prop} {w : World} (h : ref04_Right_T a0_x_0 a0_x_1 a0_x_2 a0_x_3 a0_x_4_a a0_x_4_n a0_x_4_c a0_x_5_a a0_x_5_n a0_x_5_c R w) :
    Calls Try.prog 29 #[(.agg #[(.int .i64 a0_x_0), (.int .i64 a0_x_1), (.int .i64 a0_x_2), (.int .i64 a0_x_3), (.slice a0_x_4_a a0_x_4_n a0_x_4_c), (.slice a0_x_5_a a0_x_5_n a0_x_5_c)])] w fun e w' => ∃ v, e = .returned v ∧ R v w' :=
  calls_none Try.wide_mixed (f := 29) (args := [(.agg #[(.int .i64 a0_x_0), (.int .i64 a0_x_1), (.int .i64 a0_x_2), (.int .i64 a0_x_3), (.slice a0_x_4_a a0_x_4_n a0_x_4_c), (.slice a0_x_5_a a0_x_5_n a0_x_5_c)])]) Try.func29 rfl rfl (by kernel_rfl) rfl (Eq.mpr (ref04_Right_eq a0_x_0 a0_x_1 a0_x_2 a0_x_3 a0_x_4_a a0_x_4_n a0_x_4_c a0_x_5_a a0_x_5_n a0_x_5_c R w) h)

end Go.Proofs.Ytdgiemnadpkcfaa
