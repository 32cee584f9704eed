/- The conditions of Go functions' bodies, printed by gen2.py. -/
import Derived.Test.YtohgihgddknmmaaTrkS
namespace Go.Proofs.Ytohgihgddknmmaa
open Go Go.RowKit
set_option linter.unusedVariables false
set_option maxRecDepth 100000

def request_number_an : List LA := []
/-- stagecoach/request.number -/
def request_number_T (a0_n : Int) (R : Value → World → Prop) (w : World) : Prop :=
  brB (decide (a0_n ≥ 0)) (
    R (.bool (decide (a0_n ≤ 1099511627776))) w)
  (
    R (.bool false) w)
theorem request_number_eq (a0_n : Int) (R : Value → World → Prop) (w : World) :
    dnF Try.prog request_number_an (code Try.f80) 400 [] (post3 Try.prog Try.f80 [] R) ⟨args0 0 [(.int .i64 a0_n)], fun _ => undef⟩ ⟨[], w, [], [], true⟩ = request_number_T a0_n R w := by kernel_rfl
theorem request_number_go {a0_n : Int} {R : Value → World → Prop} {w : World} (h : request_number_T a0_n R w) :
    Calls Try.prog 80 #[(.int .i64 a0_n)] w fun e w' => ∃ v, e = .returned v ∧ R v w' :=
  calls_none Try.wide_mixed (f := 80) (args := [(.int .i64 a0_n)]) Try.func80 rfl rfl (by kernel_rfl) rfl (Eq.mpr (request_number_eq a0_n R w) h)
def record_Check_an : List LA := []
/-- stagecoach/record.Check -/
def record_Check_T (a0_r_0 : Bool) (a0_r_1 : ByteArray) (a0_r_2 : Bool) (a0_r_3 : ByteArray) (R : Value → World → Prop) (w : World) : Prop :=
  ∀ b1, w.heap.size ≤ b1 →
  brB (!a0_r_0) (
    brB (!(a0_r_1.toList == (⟨#[]⟩ : ByteArray).toList)) (
      brB (!(a0_r_1.toList == (⟨#[]⟩ : ByteArray).toList)) (
        ∀ w2, Adv [] [b1] w w2 →
        R (.int .i64 30) w2)
      (
        brB (decide ((a0_r_1.size : Int) > 64)) (
          brB (decide ((a0_r_1.size : Int) > 64)) (
            ∀ w3, Adv [] [b1] w w3 →
            R (.int .i64 2) w3)
          (
            ∀ w4, Adv [] [b1] w w4 →
            R (.int .i64 0) w4))
        (
          brB (decide ((a0_r_3.size : Int) > 512)) (
            ∀ w5, Adv [] [b1] w w5 →
            R (.int .i64 2) w5)
          (
            ∀ w6, Adv [] [b1] w w6 →
            R (.int .i64 0) w6))))
    (
      brB a0_r_2 (
        brB (!a0_r_0) (
          ∀ w7, Adv [] [b1] w w7 →
          R (.int .i64 30) w7)
        (
          brB (!(a0_r_3.toList == (⟨#[]⟩ : ByteArray).toList)) (
            ∀ w8, Adv [] [b1] w w8 →
            R (.int .i64 30) w8)
          (
            brB (decide ((a0_r_1.size : Int) > 64)) (
              brB (decide ((a0_r_1.size : Int) > 64)) (
                ∀ w9, Adv [] [b1] w w9 →
                R (.int .i64 2) w9)
              (
                ∀ w10, Adv [] [b1] w w10 →
                R (.int .i64 0) w10))
            (
              brB (decide ((a0_r_3.size : Int) > 512)) (
                ∀ w11, Adv [] [b1] w w11 →
                R (.int .i64 2) w11)
              (
                ∀ w12, Adv [] [b1] w w12 →
                R (.int .i64 0) w12)))))
      (
        brB (decide ((a0_r_1.size : Int) > 64)) (
          brB (decide ((a0_r_1.size : Int) > 64)) (
            ∀ w13, Adv [] [b1] w w13 →
            R (.int .i64 2) w13)
          (
            ∀ w14, Adv [] [b1] w w14 →
            R (.int .i64 0) w14))
        (
          brB (decide ((a0_r_3.size : Int) > 512)) (
            ∀ w15, Adv [] [b1] w w15 →
            R (.int .i64 2) w15)
          (
            ∀ w16, Adv [] [b1] w w16 →
            R (.int .i64 0) w16)))))
  (
    brB a0_r_2 (
      brB (!a0_r_0) (
        ∀ w17, Adv [] [b1] w w17 →
        R (.int .i64 30) w17)
      (
        brB (!(a0_r_3.toList == (⟨#[]⟩ : ByteArray).toList)) (
          ∀ w18, Adv [] [b1] w w18 →
          R (.int .i64 30) w18)
        (
          brB (decide ((a0_r_1.size : Int) > 64)) (
            brB (decide ((a0_r_1.size : Int) > 64)) (
              ∀ w19, Adv [] [b1] w w19 →
              R (.int .i64 2) w19)
            (
              ∀ w20, Adv [] [b1] w w20 →
              R (.int .i64 0) w20))
          (
            brB (decide ((a0_r_3.size : Int) > 512)) (
              ∀ w21, Adv [] [b1] w w21 →
              R (.int .i64 2) w21)
            (
              ∀ w22, Adv [] [b1] w w22 →
              R (.int .i64 0) w22)))))
    (
      brB (decide ((a0_r_1.size : Int) > 64)) (
        brB (decide ((a0_r_1.size : Int) > 64)) (
          ∀ w23, Adv [] [b1] w w23 →
          R (.int .i64 2) w23)
        (
          ∀ w24, Adv [] [b1] w w24 →
          R (.int .i64 0) w24))
      (
        brB (decide ((a0_r_3.size : Int) > 512)) (
          ∀ w25, Adv [] [b1] w w25 →
          R (.int .i64 2) w25)
        (
          ∀ w26, Adv [] [b1] w w26 →
          R (.int .i64 0) w26))))
theorem record_Check_eq (a0_r_0 : Bool) (a0_r_1 : ByteArray) (a0_r_2 : Bool) (a0_r_3 : ByteArray) (R : Value → World → Prop) (w : World) :
    dnF Try.prog record_Check_an (code Try.f81) 400 [] (post3 Try.prog Try.f81 [] R) ⟨args0 0 [(.agg #[(.bool a0_r_0), (.string a0_r_1), (.bool a0_r_2), (.string a0_r_3)])], fun _ => undef⟩ ⟨[], w, [], [], true⟩ = record_Check_T a0_r_0 a0_r_1 a0_r_2 a0_r_3 R w := by kernel_rfl
theorem record_Check_go {a0_r_0 : Bool} {a0_r_1 : ByteArray} {a0_r_2 : Bool} {a0_r_3 : ByteArray} {R : Value → World → Prop} {w : World} (h : record_Check_T a0_r_0 a0_r_1 a0_r_2 a0_r_3 R w) :
    Calls Try.prog 81 #[(.agg #[(.bool a0_r_0), (.string a0_r_1), (.bool a0_r_2), (.string a0_r_3)])] w fun e w' => ∃ v, e = .returned v ∧ R v w' :=
  calls_none Try.wide_mixed (f := 81) (args := [(.agg #[(.bool a0_r_0), (.string a0_r_1), (.bool a0_r_2), (.string a0_r_3)])]) Try.func81 rfl rfl (by kernel_rfl) rfl (Eq.mpr (record_Check_eq a0_r_0 a0_r_1 a0_r_2 a0_r_3 R w) h)
def record_kind_an : List LA := []
/-- stagecoach/record.kind -/
def record_kind_T (a0_r_0 : Bool) (a0_r_1 : ByteArray) (a0_r_2 : Bool) (a0_r_3 : ByteArray) (R : Value → World → Prop) (w : World) : Prop :=
  ∀ b1, w.heap.size ≤ b1 →
  brB a0_r_2 (
    ∀ w2, Adv [] [b1] w w2 →
    R (.int .u8 (IntKind.wrap .u8 ((IntKind.wrap .u8 (0 + 2)) + 1))) w2)
  (
    brB a0_r_0 (
      ∀ w3, Adv [] [b1] w w3 →
      R (.int .u8 (IntKind.wrap .u8 (0 + 1))) w3)
    (
      ∀ w4, Adv [] [b1] w w4 →
      R (.int .u8 0) w4))
theorem record_kind_eq (a0_r_0 : Bool) (a0_r_1 : ByteArray) (a0_r_2 : Bool) (a0_r_3 : ByteArray) (R : Value → World → Prop) (w : World) :
    dnF Try.prog record_kind_an (code Try.f90) 400 [] (post3 Try.prog Try.f90 [] R) ⟨args0 0 [(.agg #[(.bool a0_r_0), (.string a0_r_1), (.bool a0_r_2), (.string a0_r_3)])], fun _ => undef⟩ ⟨[], w, [], [], true⟩ = record_kind_T a0_r_0 a0_r_1 a0_r_2 a0_r_3 R w := by kernel_rfl
theorem record_kind_go {a0_r_0 : Bool} {a0_r_1 : ByteArray} {a0_r_2 : Bool} {a0_r_3 : ByteArray} {R : Value → World → Prop} {w : World} (h : record_kind_T a0_r_0 a0_r_1 a0_r_2 a0_r_3 R w) :
    Calls Try.prog 90 #[(.agg #[(.bool a0_r_0), (.string a0_r_1), (.bool a0_r_2), (.string a0_r_3)])] w fun e w' => ∃ v, e = .returned v ∧ R v w' :=
  calls_none Try.wide_mixed (f := 90) (args := [(.agg #[(.bool a0_r_0), (.string a0_r_1), (.bool a0_r_2), (.string a0_r_3)])]) Try.func90 rfl rfl (by kernel_rfl) rfl (Eq.mpr (record_kind_eq a0_r_0 a0_r_1 a0_r_2 a0_r_3 R w) h)
def ref03_Num_an : List LA := []
/-- stagecoach/stagecoachref03.Num -/
def ref03_Num_T (a0_n : Int) (R : Value → World → Prop) (w : World) : Prop :=
  brB (decide (a0_n ≥ 0)) (
    R (.bool (decide (a0_n ≤ 1099511627776))) w)
  (
    R (.bool false) w)
theorem ref03_Num_eq (a0_n : Int) (R : Value → World → Prop) (w : World) :
    dnF Try.prog ref03_Num_an (code Try.f26) 400 [] (post3 Try.prog Try.f26 [] R) ⟨args0 0 [(.int .i64 a0_n)], fun _ => undef⟩ ⟨[], w, [], [], true⟩ = ref03_Num_T a0_n R w := by kernel_rfl
theorem ref03_Num_go {a0_n : Int} {R : Value → World → Prop} {w : World} (h : ref03_Num_T a0_n R w) :
    Calls Try.prog 26 #[(.int .i64 a0_n)] w fun e w' => ∃ v, e = .returned v ∧ R v w' :=
  calls_none Try.wide_mixed (f := 26) (args := [(.int .i64 a0_n)]) Try.func26 rfl rfl (by kernel_rfl) rfl (Eq.mpr (ref03_Num_eq a0_n R w) h)
def ref03_Check_an : List LA := []
/-- stagecoach/stagecoachref03.Check -/
def ref03_Check_T (a0_r_0 : Bool) (a0_r_1 : ByteArray) (a0_r_2 : Bool) (a0_r_3 : ByteArray) (R : Value → World → Prop) (w : World) : Prop :=
  ∀ b1, w.heap.size ≤ b1 →
  brB (!a0_r_0) (
    brB (decide ((a0_r_1.size : Int) > 0)) (
      ∀ w2, Adv [] [b1] w w2 →
      R (.int .i64 30) w2)
    (
      brB a0_r_2 (
        brB (!a0_r_0) (
          ∀ w3, Adv [] [b1] w w3 →
          R (.int .i64 30) w3)
        (
          brB a0_r_2 (
            brB (decide ((a0_r_3.size : Int) > 0)) (
              ∀ w4, Adv [] [b1] w w4 →
              R (.int .i64 30) w4)
            (
              brB (decide ((a0_r_1.size : Int) > 64)) (
                ∀ w5, Adv [] [b1] w w5 →
                R (.int .i64 2) w5)
              (
                brB (decide ((a0_r_3.size : Int) > 512)) (
                  ∀ w6, Adv [] [b1] w w6 →
                  R (.int .i64 2) w6)
                (
                  ∀ w7, Adv [] [b1] w w7 →
                  R (.int .i64 0) w7))))
          (
            brB (decide ((a0_r_1.size : Int) > 64)) (
              ∀ w8, Adv [] [b1] w w8 →
              R (.int .i64 2) w8)
            (
              brB (decide ((a0_r_3.size : Int) > 512)) (
                ∀ w9, Adv [] [b1] w w9 →
                R (.int .i64 2) w9)
              (
                ∀ w10, Adv [] [b1] w w10 →
                R (.int .i64 0) w10)))))
      (
        brB a0_r_2 (
          brB (decide ((a0_r_3.size : Int) > 0)) (
            ∀ w11, Adv [] [b1] w w11 →
            R (.int .i64 30) w11)
          (
            brB (decide ((a0_r_1.size : Int) > 64)) (
              ∀ w12, Adv [] [b1] w w12 →
              R (.int .i64 2) w12)
            (
              brB (decide ((a0_r_3.size : Int) > 512)) (
                ∀ w13, Adv [] [b1] w w13 →
                R (.int .i64 2) w13)
              (
                ∀ w14, Adv [] [b1] w w14 →
                R (.int .i64 0) w14))))
        (
          brB (decide ((a0_r_1.size : Int) > 64)) (
            ∀ w15, Adv [] [b1] w w15 →
            R (.int .i64 2) w15)
          (
            brB (decide ((a0_r_3.size : Int) > 512)) (
              ∀ w16, Adv [] [b1] w w16 →
              R (.int .i64 2) w16)
            (
              ∀ w17, Adv [] [b1] w w17 →
              R (.int .i64 0) w17))))))
  (
    brB a0_r_2 (
      brB (!a0_r_0) (
        ∀ w18, Adv [] [b1] w w18 →
        R (.int .i64 30) w18)
      (
        brB a0_r_2 (
          brB (decide ((a0_r_3.size : Int) > 0)) (
            ∀ w19, Adv [] [b1] w w19 →
            R (.int .i64 30) w19)
          (
            brB (decide ((a0_r_1.size : Int) > 64)) (
              ∀ w20, Adv [] [b1] w w20 →
              R (.int .i64 2) w20)
            (
              brB (decide ((a0_r_3.size : Int) > 512)) (
                ∀ w21, Adv [] [b1] w w21 →
                R (.int .i64 2) w21)
              (
                ∀ w22, Adv [] [b1] w w22 →
                R (.int .i64 0) w22))))
        (
          brB (decide ((a0_r_1.size : Int) > 64)) (
            ∀ w23, Adv [] [b1] w w23 →
            R (.int .i64 2) w23)
          (
            brB (decide ((a0_r_3.size : Int) > 512)) (
              ∀ w24, Adv [] [b1] w w24 →
              R (.int .i64 2) w24)
            (
              ∀ w25, Adv [] [b1] w w25 →
              R (.int .i64 0) w25)))))
    (
      brB a0_r_2 (
        brB (decide ((a0_r_3.size : Int) > 0)) (
          ∀ w26, Adv [] [b1] w w26 →
          R (.int .i64 30) w26)
        (
          brB (decide ((a0_r_1.size : Int) > 64)) (
            ∀ w27, Adv [] [b1] w w27 →
            R (.int .i64 2) w27)
          (
            brB (decide ((a0_r_3.size : Int) > 512)) (
              ∀ w28, Adv [] [b1] w w28 →
              R (.int .i64 2) w28)
            (
              ∀ w29, Adv [] [b1] w w29 →
              R (.int .i64 0) w29))))
      (
        brB (decide ((a0_r_1.size : Int) > 64)) (
          ∀ w30, Adv [] [b1] w w30 →
          R (.int .i64 2) w30)
        (
          brB (decide ((a0_r_3.size : Int) > 512)) (
            ∀ w31, Adv [] [b1] w w31 →
            R (.int .i64 2) w31)
          (
            ∀ w32, Adv [] [b1] w w32 →
            R (.int .i64 0) w32)))))
theorem ref03_Check_eq (a0_r_0 : Bool) (a0_r_1 : ByteArray) (a0_r_2 : Bool) (a0_r_3 : ByteArray) (R : Value → World → Prop) (w : World) :
    dnF Try.prog ref03_Check_an (code Try.f44) 400 [] (post3 Try.prog Try.f44 [] R) ⟨args0 0 [(.agg #[(.bool a0_r_0), (.string a0_r_1), (.bool a0_r_2), (.string a0_r_3)])], fun _ => undef⟩ ⟨[], w, [], [], true⟩ = ref03_Check_T a0_r_0 a0_r_1 a0_r_2 a0_r_3 R w := by kernel_rfl
theorem ref03_Check_go {a0_r_0 : Bool} {a0_r_1 : ByteArray} {a0_r_2 : Bool} {a0_r_3 : ByteArray} {R : Value → World → Prop} {w : World} (h : ref03_Check_T a0_r_0 a0_r_1 a0_r_2 a0_r_3 R w) :
    Calls Try.prog 44 #[(.agg #[(.bool a0_r_0), (.string a0_r_1), (.bool a0_r_2), (.string a0_r_3)])] w fun e w' => ∃ v, e = .returned v ∧ R v w' :=
  calls_none Try.wide_mixed (f := 44) (args := [(.agg #[(.bool a0_r_0), (.string a0_r_1), (.bool a0_r_2), (.string a0_r_3)])]) Try.func44 rfl rfl (by kernel_rfl) rfl (Eq.mpr (ref03_Check_eq a0_r_0 a0_r_1 a0_r_2 a0_r_3 R w) h)
def ref04_Name_la1 : LA := ⟨[0, 0, 1, 0, 1, 1], [0, 3], [], 0, []⟩
def ref04_Name_an : List LA := [ref04_Name_la1]
def ref04_Name_v1 (s_0 : ByteArray) (x_3 : Int) : List Value := [(.string s_0), (.int .i64 x_3)]
def ref04_Name_m1 : List TB := []
def ref04_Name_L1 (s_0 : ByteArray) (x_3 : Int) (K1 : Kh) (R : Value → World → Prop) (w : World) : Prop :=
  brB (decide (x_3 < (s_0.size : Int))) (
    ixS s_0 x_3 fun x1 =>
    brB (decide (x1 ≥ 97)) (
      brB (decide (x1 ≤ 122)) (
        K1 (ref04_Name_v1 s_0 (IntKind.wrap .i64 (x_3 + 1))) (ref04_Name_m1) w)
      (
        brB (decide (x1 ≥ 48)) (
          brB (decide (x1 ≤ 57)) (
            K1 (ref04_Name_v1 s_0 (IntKind.wrap .i64 (x_3 + 1))) (ref04_Name_m1) w)
          (
            brB (!(x1 == 45)) (
              R (.bool false) w)
            (
              K1 (ref04_Name_v1 s_0 (IntKind.wrap .i64 (x_3 + 1))) (ref04_Name_m1) w)))
        (
          brB (!(x1 == 45)) (
            R (.bool false) w)
          (
            K1 (ref04_Name_v1 s_0 (IntKind.wrap .i64 (x_3 + 1))) (ref04_Name_m1) w))))
    (
      brB (decide (x1 ≥ 48)) (
        brB (decide (x1 ≤ 57)) (
          K1 (ref04_Name_v1 s_0 (IntKind.wrap .i64 (x_3 + 1))) (ref04_Name_m1) w)
        (
          brB (!(x1 == 45)) (
            R (.bool false) w)
          (
            K1 (ref04_Name_v1 s_0 (IntKind.wrap .i64 (x_3 + 1))) (ref04_Name_m1) w)))
      (
        brB (!(x1 == 45)) (
          R (.bool false) w)
        (
          K1 (ref04_Name_v1 s_0 (IntKind.wrap .i64 (x_3 + 1))) (ref04_Name_m1) w))))
  (
    R (.bool true) w)
theorem ref04_Name_L1_eq (s_0 : ByteArray) (x_3 : Int) (K1 : Kh) (js : Nat → Value) (R : Value → World → Prop) (w : World) :
    headA ref04_Name_la1 ((dnF Try.prog ref04_Name_an (code Try.f24) 396 [0, 0, 1, 0, 1, 1]) (kthen3 (atA ref04_Name_la1 K1) (kont3 Try.prog ref04_Name_an (code Try.f24) [1, 1, 0, 1, 0] [] (post3 Try.prog Try.f24 [] R)))) (ref04_Name_v1 s_0 x_3) js (ref04_Name_m1) w = ref04_Name_L1 s_0 x_3 K1 R w := by kernel_rfl
def ref04_Name_K1 (s_0 : ByteArray) (I : Nat → Int → World → Prop) (m : Nat) (vals : List Value) (mem : List TB) (w : World) : Prop := ∃ m', m' < m ∧ ∃ x_3, vals = (ref04_Name_v1 s_0 x_3) ∧ mem = (ref04_Name_m1) ∧ I m' x_3 w
theorem ref04_Name_leaf1 {s_0 : ByteArray} {I : Nat → Int → World → Prop} {m : Nat} {x_3 : Int} {w : World} (m' : Nat) (h1 : m' < m) (h2 : I m' x_3 w) : ref04_Name_K1 s_0 I m (ref04_Name_v1 s_0 x_3) (ref04_Name_m1) w := ⟨m', h1, _, rfl, rfl, h2⟩
theorem ref04_Name_rule1 {s_0 : ByteArray} {x_30 : Int} {R : Value → World → Prop} {w0 : World} (I : Nat → Int → World → Prop) (m0 : Nat) (h0 : I m0 x_30 w0)
    (hr : ∀ (m : Nat) (x_3 : Int) (w : World), I m x_3 w → ref04_Name_L1 s_0 x_3 (ref04_Name_K1 s_0 I m) R w) :
    loopD3 ref04_Name_la1 (dnF Try.prog ref04_Name_an (code Try.f24) 396 [0, 0, 1, 0, 1, 1]) (kont3 Try.prog ref04_Name_an (code Try.f24) [1, 1, 0, 1, 0] [] (post3 Try.prog Try.f24 [] R)) (ref04_Name_v1 s_0 x_30) (ref04_Name_m1) w0 := by
  refine ⟨fun m vals mem w => ∃ x_3, vals = (ref04_Name_v1 s_0 x_3) ∧ mem = (ref04_Name_m1) ∧ I m x_3 w, m0, ⟨_, rfl, rfl, h0⟩, ?_⟩
  rintro m vals mem w ⟨x_3, rfl, rfl, hI⟩
  refine ⟨rfl, rfl, fun js => ?_⟩
  have h := hr m x_3 w hI
  rw [← ref04_Name_L1_eq _ _ _ js] at h
  exact h
/-- stagecoach/stagecoachref04.Name -/
def ref04_Name_T (a0_s : ByteArray) (R : Value → World → Prop) (w : World) : Prop :=
  brB (decide ((a0_s.size : Int) < 1)) (
    R (.bool false) w)
  (
    brB (decide ((a0_s.size : Int) > 16)) (
      R (.bool false) w)
    (
      loopD3 ref04_Name_la1 (dnF Try.prog ref04_Name_an (code Try.f24) 396 [0, 0, 1, 0, 1, 1]) (kont3 Try.prog ref04_Name_an (code Try.f24) [1, 1, 0, 1, 0] [] (post3 Try.prog Try.f24 [] R)) (ref04_Name_v1 a0_s 0) (ref04_Name_m1) w))
theorem ref04_Name_eq (a0_s : ByteArray) (R : Value → World → Prop) (w : World) :
    dnF Try.prog ref04_Name_an (code Try.f24) 400 [] (post3 Try.prog Try.f24 [] R) ⟨args0 0 [(.string a0_s)], fun _ => undef⟩ ⟨[], w, [], [], true⟩ = ref04_Name_T a0_s R w := by kernel_rfl
theorem ref04_Name_go {a0_s : ByteArray} {R : Value → World → Prop} {w : World} (h : ref04_Name_T a0_s R w) :
    Calls Try.prog 24 #[(.string a0_s)] w fun e w' => ∃ v, e = .returned v ∧ R v w' :=
  calls_none Try.wide_mixed (f := 24) (args := [(.string a0_s)]) Try.func24 rfl rfl (by kernel_rfl) rfl (Eq.mpr (ref04_Name_eq a0_s R w) h)
def ref04_Found_la1 : LA := ⟨[0, 0, 1, 0, 1, 1], [0, 1, 5], [], 0, []⟩
def ref04_Found_an : List LA := [ref04_Found_la1]
def ref04_Found_v1 (a_0 : Option Addr) (n_0 : Nat) (c_0 : Nat) (a_1 : Option Addr) (n_1 : Nat) (c_1 : Nat) (x_5 : Int) : List Value := [(.slice a_0 n_0 c_0), (.slice a_1 n_1 c_1), (.int .i64 x_5)]
def ref04_Found_m1 : List TB := []
def ref04_Found_L1 (a_0 : Option Addr) (n_0 : Nat) (c_0 : Nat) (a_1 : Option Addr) (n_1 : Nat) (c_1 : Nat) (x_5 : Int) (K1 : Kh) (R : Value → World → Prop) (w : World) : Prop :=
  brB (decide (x_5 < (n_0 : Int))) (
    ixA a_0 n_0 x_5 5 fun q1 =>
    ldInt .i64 w q1 fun x2 => ldBool w (Addr.add q1 1) fun t3 => ldStr w (Addr.add q1 2) fun s4 => ldBool w (Addr.add q1 3) fun t5 => ldStr w (Addr.add q1 4) fun s6 =>
    ixA a_1 n_1 x_5 5 fun q7 =>
    ldInt .i64 w q7 fun x8 => ldBool w (Addr.add q7 1) fun t9 => ldStr w (Addr.add q7 2) fun s10 => ldBool w (Addr.add q7 3) fun t11 => ldStr w (Addr.add q7 4) fun s12 =>
    ∃ t13 : Bool, (∀ w', Mod [] w w' → Sem.run Try.prog (do eqGuard .neq 111 (.tmp 20) (.tmp 24) (.agg #[(.int .i64 x2), (.bool t3), (.string s4), (.bool t5), (.string s6)]) (.agg #[(.int .i64 x8), (.bool t9), (.string s10), (.bool t11), (.string s12)]); Go.binOp .neq 111 (.agg #[(.int .i64 x2), (.bool t3), (.string s4), (.bool t5), (.string s6)]) (.agg #[(.int .i64 x8), (.bool t9), (.string s10), (.bool t11), (.string s12)])) w' = .ok (.bool t13) w') ∧
    brB t13 (
      ∀ w14, Adv [] [] w w14 →
      R (.bool false) w14)
    (
      ∀ w15, Adv [] [] w w15 →
      K1 (ref04_Found_v1 a_0 n_0 c_0 a_1 n_1 c_1 (IntKind.wrap .i64 (x_5 + 1))) (ref04_Found_m1) w15))
  (
    R (.bool true) w)
theorem ref04_Found_L1_eq (a_0 : Option Addr) (n_0 : Nat) (c_0 : Nat) (a_1 : Option Addr) (n_1 : Nat) (c_1 : Nat) (x_5 : Int) (K1 : Kh) (js : Nat → Value) (R : Value → World → Prop) (w : World) :
    headA ref04_Found_la1 ((dnF Try.prog ref04_Found_an (code Try.f56) 396 [0, 0, 1, 0, 1, 1]) (kthen3 (atA ref04_Found_la1 K1) (kont3 Try.prog ref04_Found_an (code Try.f56) [1, 1, 0, 1, 0] [] (post3 Try.prog Try.f56 [] R)))) (ref04_Found_v1 a_0 n_0 c_0 a_1 n_1 c_1 x_5) js (ref04_Found_m1) w = ref04_Found_L1 a_0 n_0 c_0 a_1 n_1 c_1 x_5 K1 R w := by kernel_rfl
def ref04_Found_K1 (a_0 : Option Addr) (n_0 : Nat) (c_0 : Nat) (a_1 : Option Addr) (n_1 : Nat) (c_1 : Nat) (I : Nat → Int → World → Prop) (m : Nat) (vals : List Value) (mem : List TB) (w : World) : Prop := ∃ m', m' < m ∧ ∃ x_5, vals = (ref04_Found_v1 a_0 n_0 c_0 a_1 n_1 c_1 x_5) ∧ mem = (ref04_Found_m1) ∧ I m' x_5 w
theorem ref04_Found_leaf1 {a_0 : Option Addr} {n_0 : Nat} {c_0 : Nat} {a_1 : Option Addr} {n_1 : Nat} {c_1 : Nat} {I : Nat → Int → World → Prop} {m : Nat} {x_5 : Int} {w : World} (m' : Nat) (h1 : m' < m) (h2 : I m' x_5 w) : ref04_Found_K1 a_0 n_0 c_0 a_1 n_1 c_1 I m (ref04_Found_v1 a_0 n_0 c_0 a_1 n_1 c_1 x_5) (ref04_Found_m1) w := ⟨m', h1, _, rfl, rfl, h2⟩
theorem ref04_Found_rule1 {a_0 : Option Addr} {n_0 : Nat} {c_0 : Nat} {a_1 : Option Addr} {n_1 : Nat} {c_1 : Nat} {x_50 : Int} {R : Value → World → Prop} {w0 : World} (I : Nat → Int → World → Prop) (m0 : Nat) (h0 : I m0 x_50 w0)
    (hr : ∀ (m : Nat) (x_5 : Int) (w : World), I m x_5 w → ref04_Found_L1 a_0 n_0 c_0 a_1 n_1 c_1 x_5 (ref04_Found_K1 a_0 n_0 c_0 a_1 n_1 c_1 I m) R w) :
    loopD3 ref04_Found_la1 (dnF Try.prog ref04_Found_an (code Try.f56) 396 [0, 0, 1, 0, 1, 1]) (kont3 Try.prog ref04_Found_an (code Try.f56) [1, 1, 0, 1, 0] [] (post3 Try.prog Try.f56 [] R)) (ref04_Found_v1 a_0 n_0 c_0 a_1 n_1 c_1 x_50) (ref04_Found_m1) w0 := by
  refine ⟨fun m vals mem w => ∃ x_5, vals = (ref04_Found_v1 a_0 n_0 c_0 a_1 n_1 c_1 x_5) ∧ mem = (ref04_Found_m1) ∧ I m x_5 w, m0, ⟨_, rfl, rfl, h0⟩, ?_⟩
  rintro m vals mem w ⟨x_5, rfl, rfl, hI⟩
  refine ⟨rfl, rfl, fun js => ?_⟩
  have h := hr m x_5 w hI
  rw [← ref04_Found_L1_eq _ _ _ _ _ _ _ _ js] at h
  exact h
/-- stagecoach/stagecoachref04.Found -/
def ref04_Found_T (a0_a_a : Option Addr) (a0_a_n : Nat) (a0_a_c : Nat) (a1_b_a : Option Addr) (a1_b_n : Nat) (a1_b_c : Nat) (R : Value → World → Prop) (w : World) : Prop :=
  brB ((a0_a_n : Int) != (a1_b_n : Int)) (
    R (.bool false) w)
  (
    loopD3 ref04_Found_la1 (dnF Try.prog ref04_Found_an (code Try.f56) 396 [0, 0, 1, 0, 1, 1]) (kont3 Try.prog ref04_Found_an (code Try.f56) [1, 1, 0, 1, 0] [] (post3 Try.prog Try.f56 [] R)) (ref04_Found_v1 a0_a_a a0_a_n a0_a_c a1_b_a a1_b_n a1_b_c 0) (ref04_Found_m1) w)
theorem ref04_Found_eq (a0_a_a : Option Addr) (a0_a_n : Nat) (a0_a_c : Nat) (a1_b_a : Option Addr) (a1_b_n : Nat) (a1_b_c : Nat) (R : Value → World → Prop) (w : World) :
    dnF Try.prog ref04_Found_an (code Try.f56) 400 [] (post3 Try.prog Try.f56 [] R) ⟨args0 0 [(.slice a0_a_a a0_a_n a0_a_c), (.slice a1_b_a a1_b_n a1_b_c)], fun _ => undef⟩ ⟨[], w, [], [], true⟩ = ref04_Found_T a0_a_a a0_a_n a0_a_c a1_b_a a1_b_n a1_b_c R w := by kernel_rfl
theorem ref04_Found_go {a0_a_a : Option Addr} {a0_a_n : Nat} {a0_a_c : Nat} {a1_b_a : Option Addr} {a1_b_n : Nat} {a1_b_c : Nat} {R : Value → World → Prop} {w : World} (h : ref04_Found_T a0_a_a a0_a_n a0_a_c a1_b_a a1_b_n a1_b_c R w) :
    Calls Try.prog 56 #[(.slice a0_a_a a0_a_n a0_a_c), (.slice a1_b_a a1_b_n a1_b_c)] w fun e w' => ∃ v, e = .returned v ∧ R v w' :=
  calls_none Try.wide_mixed (f := 56) (args := [(.slice a0_a_a a0_a_n a0_a_c), (.slice a1_b_a a1_b_n a1_b_c)]) Try.func56 rfl rfl (by kernel_rfl) rfl (Eq.mpr (ref04_Found_eq a0_a_a a0_a_n a0_a_c a1_b_a a1_b_n a1_b_c R w) h)
def ref04_Parts_la1 : LA := ⟨[0, 0, 1, 0, 1, 1], [0, 1, 5], [], 0, []⟩
def ref04_Parts_an : List LA := [ref04_Parts_la1]
def ref04_Parts_v1 (a_0 : Option Addr) (n_0 : Nat) (c_0 : Nat) (a_1 : Option Addr) (n_1 : Nat) (c_1 : Nat) (x_5 : Int) : List Value := [(.slice a_0 n_0 c_0), (.slice a_1 n_1 c_1), (.int .i64 x_5)]
def ref04_Parts_m1 : List TB := []
def ref04_Parts_L1 (a_0 : Option Addr) (n_0 : Nat) (c_0 : Nat) (a_1 : Option Addr) (n_1 : Nat) (c_1 : Nat) (x_5 : Int) (K1 : Kh) (R : Value → World → Prop) (w : World) : Prop :=
  brB (decide (x_5 < (n_0 : Int))) (
    ixA a_0 n_0 x_5 2 fun q1 =>
    ldStr w q1 fun s2 => ldInt .i64 w (Addr.add q1 1) fun x3 =>
    ixA a_1 n_1 x_5 2 fun q4 =>
    ldStr w q4 fun s5 => ldInt .i64 w (Addr.add q4 1) fun x6 =>
    ∃ t7 : Bool, (∀ w', Mod [] w w' → Sem.run Try.prog (do eqGuard .neq 29 (.tmp 20) (.tmp 24) (.agg #[(.string s2), (.int .i64 x3)]) (.agg #[(.string s5), (.int .i64 x6)]); Go.binOp .neq 29 (.agg #[(.string s2), (.int .i64 x3)]) (.agg #[(.string s5), (.int .i64 x6)])) w' = .ok (.bool t7) w') ∧
    brB t7 (
      ∀ w8, Adv [] [] w w8 →
      R (.bool false) w8)
    (
      ∀ w9, Adv [] [] w w9 →
      K1 (ref04_Parts_v1 a_0 n_0 c_0 a_1 n_1 c_1 (IntKind.wrap .i64 (x_5 + 1))) (ref04_Parts_m1) w9))
  (
    R (.bool true) w)
theorem ref04_Parts_L1_eq (a_0 : Option Addr) (n_0 : Nat) (c_0 : Nat) (a_1 : Option Addr) (n_1 : Nat) (c_1 : Nat) (x_5 : Int) (K1 : Kh) (js : Nat → Value) (R : Value → World → Prop) (w : World) :
    headA ref04_Parts_la1 ((dnF Try.prog ref04_Parts_an (code Try.f57) 396 [0, 0, 1, 0, 1, 1]) (kthen3 (atA ref04_Parts_la1 K1) (kont3 Try.prog ref04_Parts_an (code Try.f57) [1, 1, 0, 1, 0] [] (post3 Try.prog Try.f57 [] R)))) (ref04_Parts_v1 a_0 n_0 c_0 a_1 n_1 c_1 x_5) js (ref04_Parts_m1) w = ref04_Parts_L1 a_0 n_0 c_0 a_1 n_1 c_1 x_5 K1 R w := by kernel_rfl
def ref04_Parts_K1 (a_0 : Option Addr) (n_0 : Nat) (c_0 : Nat) (a_1 : Option Addr) (n_1 : Nat) (c_1 : Nat) (I : Nat → Int → World → Prop) (m : Nat) (vals : List Value) (mem : List TB) (w : World) : Prop := ∃ m', m' < m ∧ ∃ x_5, vals = (ref04_Parts_v1 a_0 n_0 c_0 a_1 n_1 c_1 x_5) ∧ mem = (ref04_Parts_m1) ∧ I m' x_5 w
theorem ref04_Parts_leaf1 {a_0 : Option Addr} {n_0 : Nat} {c_0 : Nat} {a_1 : Option Addr} {n_1 : Nat} {c_1 : Nat} {I : Nat → Int → World → Prop} {m : Nat} {x_5 : Int} {w : World} (m' : Nat) (h1 : m' < m) (h2 : I m' x_5 w) : ref04_Parts_K1 a_0 n_0 c_0 a_1 n_1 c_1 I m (ref04_Parts_v1 a_0 n_0 c_0 a_1 n_1 c_1 x_5) (ref04_Parts_m1) w := ⟨m', h1, _, rfl, rfl, h2⟩
theorem ref04_Parts_rule1 {a_0 : Option Addr} {n_0 : Nat} {c_0 : Nat} {a_1 : Option Addr} {n_1 : Nat} {c_1 : Nat} {x_50 : Int} {R : Value → World → Prop} {w0 : World} (I : Nat → Int → World → Prop) (m0 : Nat) (h0 : I m0 x_50 w0)
    (hr : ∀ (m : Nat) (x_5 : Int) (w : World), I m x_5 w → ref04_Parts_L1 a_0 n_0 c_0 a_1 n_1 c_1 x_5 (ref04_Parts_K1 a_0 n_0 c_0 a_1 n_1 c_1 I m) R w) :
    loopD3 ref04_Parts_la1 (dnF Try.prog ref04_Parts_an (code Try.f57) 396 [0, 0, 1, 0, 1, 1]) (kont3 Try.prog ref04_Parts_an (code Try.f57) [1, 1, 0, 1, 0] [] (post3 Try.prog Try.f57 [] R)) (ref04_Parts_v1 a_0 n_0 c_0 a_1 n_1 c_1 x_50) (ref04_Parts_m1) w0 := by
  refine ⟨fun m vals mem w => ∃ x_5, vals = (ref04_Parts_v1 a_0 n_0 c_0 a_1 n_1 c_1 x_5) ∧ mem = (ref04_Parts_m1) ∧ I m x_5 w, m0, ⟨_, rfl, rfl, h0⟩, ?_⟩
  rintro m vals mem w ⟨x_5, rfl, rfl, hI⟩
  refine ⟨rfl, rfl, fun js => ?_⟩
  have h := hr m x_5 w hI
  rw [← ref04_Parts_L1_eq _ _ _ _ _ _ _ _ js] at h
  exact h
/-- stagecoach/stagecoachref04.Parts -/
def ref04_Parts_T (a0_a_a : Option Addr) (a0_a_n : Nat) (a0_a_c : Nat) (a1_b_a : Option Addr) (a1_b_n : Nat) (a1_b_c : Nat) (R : Value → World → Prop) (w : World) : Prop :=
  brB ((a0_a_n : Int) != (a1_b_n : Int)) (
    R (.bool false) w)
  (
    loopD3 ref04_Parts_la1 (dnF Try.prog ref04_Parts_an (code Try.f57) 396 [0, 0, 1, 0, 1, 1]) (kont3 Try.prog ref04_Parts_an (code Try.f57) [1, 1, 0, 1, 0] [] (post3 Try.prog Try.f57 [] R)) (ref04_Parts_v1 a0_a_a a0_a_n a0_a_c a1_b_a a1_b_n a1_b_c 0) (ref04_Parts_m1) w)
theorem ref04_Parts_eq (a0_a_a : Option Addr) (a0_a_n : Nat) (a0_a_c : Nat) (a1_b_a : Option Addr) (a1_b_n : Nat) (a1_b_c : Nat) (R : Value → World → Prop) (w : World) :
    dnF Try.prog ref04_Parts_an (code Try.f57) 400 [] (post3 Try.prog Try.f57 [] R) ⟨args0 0 [(.slice a0_a_a a0_a_n a0_a_c), (.slice a1_b_a a1_b_n a1_b_c)], fun _ => undef⟩ ⟨[], w, [], [], true⟩ = ref04_Parts_T a0_a_a a0_a_n a0_a_c a1_b_a a1_b_n a1_b_c R w := by kernel_rfl
theorem ref04_Parts_go {a0_a_a : Option Addr} {a0_a_n : Nat} {a0_a_c : Nat} {a1_b_a : Option Addr} {a1_b_n : Nat} {a1_b_c : Nat} {R : Value → World → Prop} {w : World} (h : ref04_Parts_T a0_a_a a0_a_n a0_a_c a1_b_a a1_b_n a1_b_c R w) :
    Calls Try.prog 57 #[(.slice a0_a_a a0_a_n a0_a_c), (.slice a1_b_a a1_b_n a1_b_c)] w fun e w' => ∃ v, e = .returned v ∧ R v w' :=
  calls_none Try.wide_mixed (f := 57) (args := [(.slice a0_a_a a0_a_n a0_a_c), (.slice a1_b_a a1_b_n a1_b_c)]) Try.func57 rfl rfl (by kernel_rfl) rfl (Eq.mpr (ref04_Parts_eq a0_a_a a0_a_n a0_a_c a1_b_a a1_b_n a1_b_c R w) h)
def ref04_Alike_an : List LA := []
/-- stagecoach/stagecoachref04.Alike -/
def ref04_Alike_T (a0_a_0 : Int) (a0_a_1 : Int) (a0_a_2 : Int) (a0_a_3 : Int) (a0_a_4_a : Option Addr) (a0_a_4_n : Nat) (a0_a_4_c : Nat) (a0_a_5_a : Option Addr) (a0_a_5_n : Nat) (a0_a_5_c : Nat) (a1_b_0 : Int) (a1_b_1 : Int) (a1_b_2 : Int) (a1_b_3 : Int) (a1_b_4_a : Option Addr) (a1_b_4_n : Nat) (a1_b_4_c : Nat) (a1_b_5_a : Option Addr) (a1_b_5_n : Nat) (a1_b_5_c : Nat) (R : Value → World → Prop) (w : World) : Prop :=
  ∀ b1, w.heap.size ≤ b1 →
  ∀ b2, w.heap.size ≤ b2 →
  brB (a0_a_0 == a1_b_0) (
    brB (a0_a_1 == a1_b_1) (
      brB (a0_a_2 == a1_b_2) (
        brB (a0_a_3 == a1_b_3) (
          ∀ w3, Adv [] [b2, b1] w w3 →
          Calls Try.prog 56 #[(.slice a0_a_4_a a0_a_4_n a0_a_4_c), (.slice a1_b_4_a a1_b_4_n a1_b_4_c)] w3 fun e w4 => ∃ t5 : Bool, e = .returned (.bool t5) ∧ Keep [b1, b2] w3 w4 ∧
          brB t5 (
            Calls Try.prog 57 #[(.slice a0_a_5_a a0_a_5_n a0_a_5_c), (.slice a1_b_5_a a1_b_5_n a1_b_5_c)] w4 fun e w6 => ∃ t7 : Bool, e = .returned (.bool t7) ∧ Keep [b1, b2] w4 w6 ∧
            R (.bool t7) w6)
          (
            R (.bool false) w4))
        (
          ∀ w8, Adv [] [b2, b1] w w8 →
          R (.bool false) w8))
      (
        ∀ w9, Adv [] [b2, b1] w w9 →
        R (.bool false) w9))
    (
      ∀ w10, Adv [] [b2, b1] w w10 →
      R (.bool false) w10))
  (
    ∀ w11, Adv [] [b2, b1] w w11 →
    R (.bool false) w11)
theorem ref04_Alike_eq (a0_a_0 : Int) (a0_a_1 : Int) (a0_a_2 : Int) (a0_a_3 : Int) (a0_a_4_a : Option Addr) (a0_a_4_n : Nat) (a0_a_4_c : Nat) (a0_a_5_a : Option Addr) (a0_a_5_n : Nat) (a0_a_5_c : Nat) (a1_b_0 : Int) (a1_b_1 : Int) (a1_b_2 : Int) (a1_b_3 : Int) (a1_b_4_a : Option Addr) (a1_b_4_n : Nat) (a1_b_4_c : Nat) (a1_b_5_a : Option Addr) (a1_b_5_n : Nat) (a1_b_5_c : Nat) (R : Value → World → Prop) (w : World) :
    dnF Try.prog ref04_Alike_an (code Try.f40) 400 [] (post3 Try.prog Try.f40 [] R) ⟨args0 0 [(.agg #[(.int .i64 a0_a_0), (.int .i64 a0_a_1), (.int .i64 a0_a_2), (.int .i64 a0_a_3), (.slice a0_a_4_a a0_a_4_n a0_a_4_c), (.slice a0_a_5_a a0_a_5_n a0_a_5_c)]), (.agg #[(.int .i64 a1_b_0), (.int .i64 a1_b_1), (.int .i64 a1_b_2), (.int .i64 a1_b_3), (.slice a1_b_4_a a1_b_4_n a1_b_4_c), (.slice a1_b_5_a a1_b_5_n a1_b_5_c)])], fun _ => undef⟩ ⟨[], w, [], [], true⟩ = ref04_Alike_T a0_a_0 a0_a_1 a0_a_2 a0_a_3 a0_a_4_a a0_a_4_n a0_a_4_c a0_a_5_a a0_a_5_n a0_a_5_c a1_b_0 a1_b_1 a1_b_2 a1_b_3 a1_b_4_a a1_b_4_n a1_b_4_c a1_b_5_a a1_b_5_n a1_b_5_c R w := by kernel_rfl
theorem ref04_Alike_go {a0_a_0 : Int} {a0_a_1 : Int} {a0_a_2 : Int} {a0_a_3 : Int} {a0_a_4_a : Option Addr} {a0_a_4_n : Nat} {a0_a_4_c : Nat} {a0_a_5_a : Option Addr} {a0_a_5_n : Nat} {a0_a_5_c : Nat} {a1_b_0 : Int} {a1_b_1 : Int} {a1_b_2 : Int} {a1_b_3 : Int} {a1_b_4_a : Option Addr} {a1_b_4_n : Nat} {a1_b_4_c : Nat} {a1_b_5_a : Option Addr} {a1_b_5_n : Nat} {a1_b_5_c : Nat} {R : Value → World → Prop} {w : World} (h : ref04_Alike_T a0_a_0 a0_a_1 a0_a_2 a0_a_3 a0_a_4_a a0_a_4_n a0_a_4_c a0_a_5_a a0_a_5_n a0_a_5_c a1_b_0 a1_b_1 a1_b_2 a1_b_3 a1_b_4_a a1_b_4_n a1_b_4_c a1_b_5_a a1_b_5_n a1_b_5_c R w) :
    Calls Try.prog 40 #[(.agg #[(.int .i64 a0_a_0), (.int .i64 a0_a_1), (.int .i64 a0_a_2), (.int .i64 a0_a_3), (.slice a0_a_4_a a0_a_4_n a0_a_4_c), (.slice a0_a_5_a a0_a_5_n a0_a_5_c)]), (.agg #[(.int .i64 a1_b_0), (.int .i64 a1_b_1), (.int .i64 a1_b_2), (.int .i64 a1_b_3), (.slice a1_b_4_a a1_b_4_n a1_b_4_c), (.slice a1_b_5_a a1_b_5_n a1_b_5_c)])] w fun e w' => ∃ v, e = .returned v ∧ R v w' :=
  calls_none Try.wide_mixed (f := 40) (args := [(.agg #[(.int .i64 a0_a_0), (.int .i64 a0_a_1), (.int .i64 a0_a_2), (.int .i64 a0_a_3), (.slice a0_a_4_a a0_a_4_n a0_a_4_c), (.slice a0_a_5_a a0_a_5_n a0_a_5_c)]), (.agg #[(.int .i64 a1_b_0), (.int .i64 a1_b_1), (.int .i64 a1_b_2), (.int .i64 a1_b_3), (.slice a1_b_4_a a1_b_4_n a1_b_4_c), (.slice a1_b_5_a a1_b_5_n a1_b_5_c)])]) Try.func40 rfl rfl (by kernel_rfl) rfl (Eq.mpr (ref04_Alike_eq a0_a_0 a0_a_1 a0_a_2 a0_a_3 a0_a_4_a a0_a_4_n a0_a_4_c a0_a_5_a a0_a_5_n a0_a_5_c a1_b_0 a1_b_1 a1_b_2 a1_b_3 a1_b_4_a a1_b_4_n a1_b_4_c a1_b_5_a a1_b_5_n a1_b_5_c R w) h)
def slices_Clone_api_Found_api_Found_an : List LA := []
/-- slices.Clone[[]stagecoach/api.Found,stagecoach/api.Found] -/
def slices_Clone_api_Found_api_Found_T (a0_s_a : Option Addr) (a0_s_n : Nat) (a0_s_c : Nat) (R : Value → World → Prop) (w : World) : Prop :=
  brB (Option.isNone a0_s_a) (
    R (.slice none 0 0) w)
  (
    al w (.cells #[] 111) fun b1 w2 =>
    effSl Try.prog (Builtin.append_ #[39, 39] 39 #[(.slice (some ⟨b1, 0, none⟩) 0 0), (.slice a0_s_a a0_s_n a0_s_c)]) w2 fun a4 n5 c6 w3 =>
    R (.slice a4 n5 c6) w3)
theorem slices_Clone_api_Found_api_Found_eq (a0_s_a : Option Addr) (a0_s_n : Nat) (a0_s_c : Nat) (R : Value → World → Prop) (w : World) :
    dnF Try.prog slices_Clone_api_Found_api_Found_an (code Try.f53) 400 [] (post3 Try.prog Try.f53 [] R) ⟨args0 0 [(.slice a0_s_a a0_s_n a0_s_c)], fun _ => undef⟩ ⟨[], w, [], [], true⟩ = slices_Clone_api_Found_api_Found_T a0_s_a a0_s_n a0_s_c R w := by kernel_rfl
theorem slices_Clone_api_Found_api_Found_go {a0_s_a : Option Addr} {a0_s_n : Nat} {a0_s_c : Nat} {R : Value → World → Prop} {w : World} (h : slices_Clone_api_Found_api_Found_T a0_s_a a0_s_n a0_s_c R w) :
    Calls Try.prog 53 #[(.slice a0_s_a a0_s_n a0_s_c)] w fun e w' => ∃ v, e = .returned v ∧ R v w' :=
  calls_none Try.wide_mixed (f := 53) (args := [(.slice a0_s_a a0_s_n a0_s_c)]) Try.func53 rfl rfl (by kernel_rfl) rfl (Eq.mpr (slices_Clone_api_Found_api_Found_eq a0_s_a a0_s_n a0_s_c R w) h)
def slices_Clone_api_Part_api_Part_an : List LA := []
/-- slices.Clone[[]stagecoach/api.Part,stagecoach/api.Part] -/
def slices_Clone_api_Part_api_Part_T (a0_s_a : Option Addr) (a0_s_n : Nat) (a0_s_c : Nat) (R : Value → World → Prop) (w : World) : Prop :=
  brB (Option.isNone a0_s_a) (
    R (.slice none 0 0) w)
  (
    al w (.cells #[] 29) fun b1 w2 =>
    effSl Try.prog (Builtin.append_ #[40, 40] 40 #[(.slice (some ⟨b1, 0, none⟩) 0 0), (.slice a0_s_a a0_s_n a0_s_c)]) w2 fun a4 n5 c6 w3 =>
    R (.slice a4 n5 c6) w3)
theorem slices_Clone_api_Part_api_Part_eq (a0_s_a : Option Addr) (a0_s_n : Nat) (a0_s_c : Nat) (R : Value → World → Prop) (w : World) :
    dnF Try.prog slices_Clone_api_Part_api_Part_an (code Try.f54) 400 [] (post3 Try.prog Try.f54 [] R) ⟨args0 0 [(.slice a0_s_a a0_s_n a0_s_c)], fun _ => undef⟩ ⟨[], w, [], [], true⟩ = slices_Clone_api_Part_api_Part_T a0_s_a a0_s_n a0_s_c R w := by kernel_rfl
theorem slices_Clone_api_Part_api_Part_go {a0_s_a : Option Addr} {a0_s_n : Nat} {a0_s_c : Nat} {R : Value → World → Prop} {w : World} (h : slices_Clone_api_Part_api_Part_T a0_s_a a0_s_n a0_s_c R w) :
    Calls Try.prog 54 #[(.slice a0_s_a a0_s_n a0_s_c)] w fun e w' => ∃ v, e = .returned v ∧ R v w' :=
  calls_none Try.wide_mixed (f := 54) (args := [(.slice a0_s_a a0_s_n a0_s_c)]) Try.func54 rfl rfl (by kernel_rfl) rfl (Eq.mpr (slices_Clone_api_Part_api_Part_eq a0_s_a a0_s_n a0_s_c R w) h)
def request_Name_an : List LA := []
/-- stagecoach/request.Name -/
def request_Name_T (a0_s : ByteArray) (R : Value → World → Prop) (w : World) : Prop :=
  brB (!(a0_s.toList == (⟨#[]⟩ : ByteArray).toList)) (
    brB (decide ((a0_s.size : Int) ≤ 16)) (
      Calls Try.prog 89 #[(.string a0_s), (.func (.func 88) #[] #[])] w fun e w1 => ∃ t2 : Bool, e = .returned (.bool t2) ∧
      R (.bool (!t2)) w1)
    (
      R (.bool false) w))
  (
    R (.bool false) w)
theorem request_Name_eq (a0_s : ByteArray) (R : Value → World → Prop) (w : World) :
    dnF Try.prog request_Name_an (code Try.f82) 400 [] (post3 Try.prog Try.f82 [] R) ⟨args0 0 [(.string a0_s)], fun _ => undef⟩ ⟨[], w, [], [], true⟩ = request_Name_T a0_s R w := by kernel_rfl
theorem request_Name_go {a0_s : ByteArray} {R : Value → World → Prop} {w : World} (h : request_Name_T a0_s R w) :
    Calls Try.prog 82 #[(.string a0_s)] w fun e w' => ∃ v, e = .returned v ∧ R v w' :=
  calls_none Try.wide_mixed (f := 82) (args := [(.string a0_s)]) Try.func82 rfl rfl (by kernel_rfl) rfl (Eq.mpr (request_Name_eq a0_s R w) h)
def request_Name_1_an : List LA := []
/-- stagecoach/request.Name$1 -/
def request_Name_1_T (a0_c : Int) (R : Value → World → Prop) (w : World) : Prop :=
  brB (decide (a0_c < 97)) (
    brB (decide (a0_c < 48)) (
      R (.bool (a0_c != 45)) w)
    (
      brB (decide (a0_c > 57)) (
        R (.bool (a0_c != 45)) w)
      (
        R (.bool false) w)))
  (
    brB (decide (a0_c > 122)) (
      brB (decide (a0_c < 48)) (
        R (.bool (a0_c != 45)) w)
      (
        brB (decide (a0_c > 57)) (
          R (.bool (a0_c != 45)) w)
        (
          R (.bool false) w)))
    (
      R (.bool false) w))
theorem request_Name_1_eq (a0_c : Int) (R : Value → World → Prop) (w : World) :
    dnF Try.prog request_Name_1_an (code Try.f88) 400 [] (post3 Try.prog Try.f88 [] R) ⟨args0 0 [(.int .i32 a0_c)], fun _ => undef⟩ ⟨[], w, [], [], true⟩ = request_Name_1_T a0_c R w := by kernel_rfl
theorem request_Name_1_go {a0_c : Int} {R : Value → World → Prop} {w : World} (h : request_Name_1_T a0_c R w) :
    Calls Try.prog 88 #[(.int .i32 a0_c)] w fun e w' => ∃ v, e = .returned v ∧ R v w' :=
  calls_none Try.wide_mixed (f := 88) (args := [(.int .i32 a0_c)]) Try.func88 rfl rfl (by kernel_rfl) rfl (Eq.mpr (request_Name_1_eq a0_c R w) h)
def request_check_la1 : LA := ⟨[1, 1], [1, 3], [(1, 0, 0)], 1, []⟩
def request_check_la2 : LA := ⟨[0, 0, 1, 0, 1, 1, 1], [1, 3, 4, 28, 29, 30], [(1, 0, 0)], 1, []⟩
def request_check_la3 : LA := ⟨[0, 0, 1, 0, 1, 1, 1, 1], [1, 3, 4, 49, 50, 51], [(1, 0, 0)], 1, []⟩
def request_check_an : List LA := [request_check_la1, request_check_la2, request_check_la3]
def request_check_v1 (t_3 : Bool) (bm0 : Nat) : List Value := [(.pointer (some ⟨bm0, 0, none⟩)), (.bool t_3)]
def request_check_m1 (bm0 : Nat) (x_m0_0 : Int) (x_m0_1 : Int) (x_m0_2 : Int) (x_m0_3 : Int) (a_m0_4 : Option Addr) (n_m0_4 : Nat) (c_m0_4 : Nat) (a_m0_5 : Option Addr) (n_m0_5 : Nat) (c_m0_5 : Nat) : List TB := [⟨bm0, 42, [(.int .i64 x_m0_0), (.int .i64 x_m0_1), (.int .i64 x_m0_2), (.int .i64 x_m0_3), (.slice a_m0_4 n_m0_4 c_m0_4), (.slice a_m0_5 n_m0_5 c_m0_5)], false⟩]
def request_check_v2 (a_28 : Option Addr) (n_28 : Nat) (c_28 : Nat) (x_29 : Int) (bm0 : Nat) (t_3 : Bool) (t_4 : Bool) (x_30 : Int) : List Value := [(.pointer (some ⟨bm0, 0, none⟩)), (.bool t_3), (.bool t_4), (.slice a_28 n_28 c_28), (.int .i64 x_29), (.int .i64 x_30)]
def request_check_m2 (bm0 : Nat) (x_m0_0 : Int) (x_m0_1 : Int) (x_m0_2 : Int) (x_m0_3 : Int) (a_m0_4 : Option Addr) (n_m0_4 : Nat) (c_m0_4 : Nat) (a_m0_5 : Option Addr) (n_m0_5 : Nat) (c_m0_5 : Nat) : List TB := [⟨bm0, 42, [(.int .i64 x_m0_0), (.int .i64 x_m0_1), (.int .i64 x_m0_2), (.int .i64 x_m0_3), (.slice a_m0_4 n_m0_4 c_m0_4), (.slice a_m0_5 n_m0_5 c_m0_5)], false⟩]
def request_check_v3 (a_49 : Option Addr) (n_49 : Nat) (c_49 : Nat) (x_50 : Int) (bm0 : Nat) (t_3 : Bool) (t_4 : Bool) (x_51 : Int) : List Value := [(.pointer (some ⟨bm0, 0, none⟩)), (.bool t_3), (.bool t_4), (.slice a_49 n_49 c_49), (.int .i64 x_50), (.int .i64 x_51)]
def request_check_m3 (bm0 : Nat) (x_m0_0 : Int) (x_m0_1 : Int) (x_m0_2 : Int) (x_m0_3 : Int) (a_m0_4 : Option Addr) (n_m0_4 : Nat) (c_m0_4 : Nat) (a_m0_5 : Option Addr) (n_m0_5 : Nat) (c_m0_5 : Nat) : List TB := [⟨bm0, 42, [(.int .i64 x_m0_0), (.int .i64 x_m0_1), (.int .i64 x_m0_2), (.int .i64 x_m0_3), (.slice a_m0_4 n_m0_4 c_m0_4), (.slice a_m0_5 n_m0_5 c_m0_5)], false⟩]
def request_check_C1 (t_3 : Bool) (bm0 : Nat) (x_m0_0 : Int) (x_m0_1 : Int) (x_m0_2 : Int) (x_m0_3 : Int) (a_m0_4 : Option Addr) (n_m0_4 : Nat) (c_m0_4 : Nat) (a_m0_5 : Option Addr) (n_m0_5 : Nat) (c_m0_5 : Nat) (R : Value → World → Prop) (w : World) : Prop :=
  loopD3 request_check_la2 (dnF Try.prog request_check_an (code Try.f69) 395 [0, 0, 1, 0, 1, 1, 1]) (kont3 Try.prog request_check_an (code Try.f69) [1, 1, 1, 0, 1, 0] [] (post3 Try.prog Try.f69 [] R)) (request_check_v2 a_m0_4 n_m0_4 c_m0_4 (n_m0_4 : Int) bm0 t_3 false 0) (request_check_m2 bm0 x_m0_0 x_m0_1 x_m0_2 x_m0_3 a_m0_4 n_m0_4 c_m0_4 a_m0_5 n_m0_5 c_m0_5) w
theorem request_check_C1_eq (t_3 : Bool) (bm0 : Nat) (x_m0_0 : Int) (x_m0_1 : Int) (x_m0_2 : Int) (x_m0_3 : Int) (a_m0_4 : Option Addr) (n_m0_4 : Nat) (c_m0_4 : Nat) (a_m0_5 : Option Addr) (n_m0_5 : Nat) (c_m0_5 : Nat) (js : Nat → Value) (R : Value → World → Prop) (w : World) :
    headA request_check_la1 ((dnF Try.prog request_check_an (code Try.f69) 398 [1, 1]) (kont3 Try.prog request_check_an (code Try.f69) [1] [] (post3 Try.prog Try.f69 [] R))) (request_check_v1 t_3 bm0) js (request_check_m1 bm0 x_m0_0 x_m0_1 x_m0_2 x_m0_3 a_m0_4 n_m0_4 c_m0_4 a_m0_5 n_m0_5 c_m0_5) w = request_check_C1 t_3 bm0 x_m0_0 x_m0_1 x_m0_2 x_m0_3 a_m0_4 n_m0_4 c_m0_4 a_m0_5 n_m0_5 c_m0_5 R w := by kernel_rfl
theorem request_check_cut1 {t_30 : Bool} {bm00 : Nat} {x_m0_00 : Int} {x_m0_10 : Int} {x_m0_20 : Int} {x_m0_30 : Int} {a_m0_40 : Option Addr} {n_m0_40 : Nat} {c_m0_40 : Nat} {a_m0_50 : Option Addr} {n_m0_50 : Nat} {c_m0_50 : Nat} {R : Value → World → Prop} {w0 : World} (J : Bool → Nat → Int → Int → Int → Int → Option Addr → Nat → Nat → Option Addr → Nat → Nat → World → Prop) (h0 : J t_30 bm00 x_m0_00 x_m0_10 x_m0_20 x_m0_30 a_m0_40 n_m0_40 c_m0_40 a_m0_50 n_m0_50 c_m0_50 w0)
    (hr : ∀ (t_3 : Bool) (bm0 : Nat) (x_m0_0 : Int) (x_m0_1 : Int) (x_m0_2 : Int) (x_m0_3 : Int) (a_m0_4 : Option Addr) (n_m0_4 : Nat) (c_m0_4 : Nat) (a_m0_5 : Option Addr) (n_m0_5 : Nat) (c_m0_5 : Nat) (w : World), J t_3 bm0 x_m0_0 x_m0_1 x_m0_2 x_m0_3 a_m0_4 n_m0_4 c_m0_4 a_m0_5 n_m0_5 c_m0_5 w → request_check_C1 t_3 bm0 x_m0_0 x_m0_1 x_m0_2 x_m0_3 a_m0_4 n_m0_4 c_m0_4 a_m0_5 n_m0_5 c_m0_5 R w) :
    cutD3 request_check_la1 ((dnF Try.prog request_check_an (code Try.f69) 398 [1, 1]) (kont3 Try.prog request_check_an (code Try.f69) [1] [] (post3 Try.prog Try.f69 [] R))) (request_check_v1 t_30 bm00) (request_check_m1 bm00 x_m0_00 x_m0_10 x_m0_20 x_m0_30 a_m0_40 n_m0_40 c_m0_40 a_m0_50 n_m0_50 c_m0_50) w0 := by
  refine ⟨fun vals mem w => ∃ t_3 bm0 x_m0_0 x_m0_1 x_m0_2 x_m0_3 a_m0_4 n_m0_4 c_m0_4 a_m0_5 n_m0_5 c_m0_5, vals = (request_check_v1 t_3 bm0) ∧ mem = (request_check_m1 bm0 x_m0_0 x_m0_1 x_m0_2 x_m0_3 a_m0_4 n_m0_4 c_m0_4 a_m0_5 n_m0_5 c_m0_5) ∧ J t_3 bm0 x_m0_0 x_m0_1 x_m0_2 x_m0_3 a_m0_4 n_m0_4 c_m0_4 a_m0_5 n_m0_5 c_m0_5 w, ⟨_, _, _, _, _, _, _, _, _, _, _, _, rfl, rfl, h0⟩, ?_⟩
  rintro vals mem w ⟨t_3, bm0, x_m0_0, x_m0_1, x_m0_2, x_m0_3, a_m0_4, n_m0_4, c_m0_4, a_m0_5, n_m0_5, c_m0_5, rfl, rfl, hJ⟩
  refine ⟨rfl, rfl, fun js => ?_⟩
  have h := hr t_3 bm0 x_m0_0 x_m0_1 x_m0_2 x_m0_3 a_m0_4 n_m0_4 c_m0_4 a_m0_5 n_m0_5 c_m0_5 w hJ
  rw [← request_check_C1_eq _ _ _ _ _ _ _ _ _ _ _ _ js] at h
  exact h
theorem request_check_at1 {t_3 : Bool} {bm0 : Nat} {x_m0_0 : Int} {x_m0_1 : Int} {x_m0_2 : Int} {x_m0_3 : Int} {a_m0_4 : Option Addr} {n_m0_4 : Nat} {c_m0_4 : Nat} {a_m0_5 : Option Addr} {n_m0_5 : Nat} {c_m0_5 : Nat} {R : Value → World → Prop} {w : World} (h : request_check_C1 t_3 bm0 x_m0_0 x_m0_1 x_m0_2 x_m0_3 a_m0_4 n_m0_4 c_m0_4 a_m0_5 n_m0_5 c_m0_5 R w) :
    cutD3 request_check_la1 ((dnF Try.prog request_check_an (code Try.f69) 398 [1, 1]) (kont3 Try.prog request_check_an (code Try.f69) [1] [] (post3 Try.prog Try.f69 [] R))) (request_check_v1 t_3 bm0) (request_check_m1 bm0 x_m0_0 x_m0_1 x_m0_2 x_m0_3 a_m0_4 n_m0_4 c_m0_4 a_m0_5 n_m0_5 c_m0_5) w :=
  request_check_cut1 (fun t_3' bm0' x_m0_0' x_m0_1' x_m0_2' x_m0_3' a_m0_4' n_m0_4' c_m0_4' a_m0_5' n_m0_5' c_m0_5' w' => t_3' = t_3 ∧ bm0' = bm0 ∧ x_m0_0' = x_m0_0 ∧ x_m0_1' = x_m0_1 ∧ x_m0_2' = x_m0_2 ∧ x_m0_3' = x_m0_3 ∧ a_m0_4' = a_m0_4 ∧ n_m0_4' = n_m0_4 ∧ c_m0_4' = c_m0_4 ∧ a_m0_5' = a_m0_5 ∧ n_m0_5' = n_m0_5 ∧ c_m0_5' = c_m0_5 ∧ w' = w) ⟨rfl, rfl, rfl, rfl, rfl, rfl, rfl, rfl, rfl, rfl, rfl, rfl, rfl⟩ (by rintro t_3' bm0' x_m0_0' x_m0_1' x_m0_2' x_m0_3' a_m0_4' n_m0_4' c_m0_4' a_m0_5' n_m0_5' c_m0_5' w' ⟨rfl, rfl, rfl, rfl, rfl, rfl, rfl, rfl, rfl, rfl, rfl, rfl, rfl⟩; exact h)
def request_check_L2 (a_28 : Option Addr) (n_28 : Nat) (c_28 : Nat) (x_29 : Int) (bm0 : Nat) (x_m0_0 : Int) (x_m0_1 : Int) (x_m0_2 : Int) (x_m0_3 : Int) (a_m0_4 : Option Addr) (n_m0_4 : Nat) (c_m0_4 : Nat) (a_m0_5 : Option Addr) (n_m0_5 : Nat) (c_m0_5 : Nat) (t_3 : Bool) (t_4 : Bool) (x_30 : Int) (K2 : Kh) (R : Value → World → Prop) (w : World) : Prop :=
  brB (decide (x_30 < x_29)) (
    ixA a_28 n_28 x_30 5 fun q11 =>
    ldInt .i64 w q11 fun x12 => ldBool w (Addr.add q11 1) fun t13 => ldStr w (Addr.add q11 2) fun s14 => ldBool w (Addr.add q11 3) fun t15 => ldStr w (Addr.add q11 4) fun s16 =>
    ∀ b17, w.heap.size ≤ b17 →
    brB t_3 (
      ∀ w18, Adv [] [b17] w w18 →
      Calls Try.prog 80 #[(.int .i64 x12)] w18 fun e w19 => ∃ t20 : Bool, e = .returned (.bool t20) ∧ Keep [bm0, b17] w18 w19 ∧
      brB t_4 (
        K2 (request_check_v2 a_28 n_28 c_28 x_29 bm0 t20 true (IntKind.wrap .i64 (x_30 + 1))) (request_check_m2 bm0 x_m0_0 x_m0_1 x_m0_2 x_m0_3 a_m0_4 n_m0_4 c_m0_4 a_m0_5 n_m0_5 c_m0_5) w19)
      (
        Calls Try.prog 81 #[(.agg #[(.bool t13), (.string s14), (.bool t15), (.string s16)])] w19 fun e w21 => ∃ x22 : Int, e = .returned (.int .i64 x22) ∧ Keep [bm0, b17] w19 w21 ∧
        K2 (request_check_v2 a_28 n_28 c_28 x_29 bm0 t20 (x22 != 0) (IntKind.wrap .i64 (x_30 + 1))) (request_check_m2 bm0 x_m0_0 x_m0_1 x_m0_2 x_m0_3 a_m0_4 n_m0_4 c_m0_4 a_m0_5 n_m0_5 c_m0_5) w21))
    (
      brB t_4 (
        ∀ w23, Adv [] [b17] w w23 →
        K2 (request_check_v2 a_28 n_28 c_28 x_29 bm0 false true (IntKind.wrap .i64 (x_30 + 1))) (request_check_m2 bm0 x_m0_0 x_m0_1 x_m0_2 x_m0_3 a_m0_4 n_m0_4 c_m0_4 a_m0_5 n_m0_5 c_m0_5) w23)
      (
        ∀ w24, Adv [] [b17] w w24 →
        Calls Try.prog 81 #[(.agg #[(.bool t13), (.string s14), (.bool t15), (.string s16)])] w24 fun e w25 => ∃ x26 : Int, e = .returned (.int .i64 x26) ∧ Keep [bm0, b17] w24 w25 ∧
        K2 (request_check_v2 a_28 n_28 c_28 x_29 bm0 false (x26 != 0) (IntKind.wrap .i64 (x_30 + 1))) (request_check_m2 bm0 x_m0_0 x_m0_1 x_m0_2 x_m0_3 a_m0_4 n_m0_4 c_m0_4 a_m0_5 n_m0_5 c_m0_5) w25)))
  (
    loopD3 request_check_la3 (dnF Try.prog request_check_an (code Try.f69) 394 [0, 0, 1, 0, 1, 1, 1, 1]) (kont3 Try.prog request_check_an (code Try.f69) [1, 1, 1, 1, 0, 1, 0] [] (post3 Try.prog Try.f69 [] R)) (request_check_v3 a_m0_5 n_m0_5 c_m0_5 (n_m0_5 : Int) bm0 t_3 t_4 0) (request_check_m3 bm0 x_m0_0 x_m0_1 x_m0_2 x_m0_3 a_m0_4 n_m0_4 c_m0_4 a_m0_5 n_m0_5 c_m0_5) w)
theorem request_check_L2_eq (a_28 : Option Addr) (n_28 : Nat) (c_28 : Nat) (x_29 : Int) (bm0 : Nat) (x_m0_0 : Int) (x_m0_1 : Int) (x_m0_2 : Int) (x_m0_3 : Int) (a_m0_4 : Option Addr) (n_m0_4 : Nat) (c_m0_4 : Nat) (a_m0_5 : Option Addr) (n_m0_5 : Nat) (c_m0_5 : Nat) (t_3 : Bool) (t_4 : Bool) (x_30 : Int) (K2 : Kh) (js : Nat → Value) (R : Value → World → Prop) (w : World) :
    headA request_check_la2 ((dnF Try.prog request_check_an (code Try.f69) 395 [0, 0, 1, 0, 1, 1, 1]) (kthen3 (atA request_check_la2 K2) (kont3 Try.prog request_check_an (code Try.f69) [1, 1, 1, 0, 1, 0] [] (post3 Try.prog Try.f69 [] R)))) (request_check_v2 a_28 n_28 c_28 x_29 bm0 t_3 t_4 x_30) js (request_check_m2 bm0 x_m0_0 x_m0_1 x_m0_2 x_m0_3 a_m0_4 n_m0_4 c_m0_4 a_m0_5 n_m0_5 c_m0_5) w = request_check_L2 a_28 n_28 c_28 x_29 bm0 x_m0_0 x_m0_1 x_m0_2 x_m0_3 a_m0_4 n_m0_4 c_m0_4 a_m0_5 n_m0_5 c_m0_5 t_3 t_4 x_30 K2 R w := by kernel_rfl
def request_check_K2 (a_28 : Option Addr) (n_28 : Nat) (c_28 : Nat) (x_29 : Int) (bm0 : Nat) (x_m0_0 : Int) (x_m0_1 : Int) (x_m0_2 : Int) (x_m0_3 : Int) (a_m0_4 : Option Addr) (n_m0_4 : Nat) (c_m0_4 : Nat) (a_m0_5 : Option Addr) (n_m0_5 : Nat) (c_m0_5 : Nat) (I : Nat → Bool → Bool → Int → World → Prop) (m : Nat) (vals : List Value) (mem : List TB) (w : World) : Prop := ∃ m', m' < m ∧ ∃ t_3 t_4 x_30, vals = (request_check_v2 a_28 n_28 c_28 x_29 bm0 t_3 t_4 x_30) ∧ mem = (request_check_m2 bm0 x_m0_0 x_m0_1 x_m0_2 x_m0_3 a_m0_4 n_m0_4 c_m0_4 a_m0_5 n_m0_5 c_m0_5) ∧ I m' t_3 t_4 x_30 w
theorem request_check_leaf2 {a_28 : Option Addr} {n_28 : Nat} {c_28 : Nat} {x_29 : Int} {bm0 : Nat} {x_m0_0 : Int} {x_m0_1 : Int} {x_m0_2 : Int} {x_m0_3 : Int} {a_m0_4 : Option Addr} {n_m0_4 : Nat} {c_m0_4 : Nat} {a_m0_5 : Option Addr} {n_m0_5 : Nat} {c_m0_5 : Nat} {I : Nat → Bool → Bool → Int → World → Prop} {m : Nat} {t_3 : Bool} {t_4 : Bool} {x_30 : Int} {w : World} (m' : Nat) (h1 : m' < m) (h2 : I m' t_3 t_4 x_30 w) : request_check_K2 a_28 n_28 c_28 x_29 bm0 x_m0_0 x_m0_1 x_m0_2 x_m0_3 a_m0_4 n_m0_4 c_m0_4 a_m0_5 n_m0_5 c_m0_5 I m (request_check_v2 a_28 n_28 c_28 x_29 bm0 t_3 t_4 x_30) (request_check_m2 bm0 x_m0_0 x_m0_1 x_m0_2 x_m0_3 a_m0_4 n_m0_4 c_m0_4 a_m0_5 n_m0_5 c_m0_5) w := ⟨m', h1, _, _, _, rfl, rfl, h2⟩
theorem request_check_rule2 {a_28 : Option Addr} {n_28 : Nat} {c_28 : Nat} {x_29 : Int} {bm0 : Nat} {x_m0_0 : Int} {x_m0_1 : Int} {x_m0_2 : Int} {x_m0_3 : Int} {a_m0_4 : Option Addr} {n_m0_4 : Nat} {c_m0_4 : Nat} {a_m0_5 : Option Addr} {n_m0_5 : Nat} {c_m0_5 : Nat} {t_30 : Bool} {t_40 : Bool} {x_300 : Int} {R : Value → World → Prop} {w0 : World} (I : Nat → Bool → Bool → Int → World → Prop) (m0 : Nat) (h0 : I m0 t_30 t_40 x_300 w0)
    (hr : ∀ (m : Nat) (t_3 : Bool) (t_4 : Bool) (x_30 : Int) (w : World), I m t_3 t_4 x_30 w → request_check_L2 a_28 n_28 c_28 x_29 bm0 x_m0_0 x_m0_1 x_m0_2 x_m0_3 a_m0_4 n_m0_4 c_m0_4 a_m0_5 n_m0_5 c_m0_5 t_3 t_4 x_30 (request_check_K2 a_28 n_28 c_28 x_29 bm0 x_m0_0 x_m0_1 x_m0_2 x_m0_3 a_m0_4 n_m0_4 c_m0_4 a_m0_5 n_m0_5 c_m0_5 I m) R w) :
    loopD3 request_check_la2 (dnF Try.prog request_check_an (code Try.f69) 395 [0, 0, 1, 0, 1, 1, 1]) (kont3 Try.prog request_check_an (code Try.f69) [1, 1, 1, 0, 1, 0] [] (post3 Try.prog Try.f69 [] R)) (request_check_v2 a_28 n_28 c_28 x_29 bm0 t_30 t_40 x_300) (request_check_m2 bm0 x_m0_0 x_m0_1 x_m0_2 x_m0_3 a_m0_4 n_m0_4 c_m0_4 a_m0_5 n_m0_5 c_m0_5) w0 := by
  refine ⟨fun m vals mem w => ∃ t_3 t_4 x_30, vals = (request_check_v2 a_28 n_28 c_28 x_29 bm0 t_3 t_4 x_30) ∧ mem = (request_check_m2 bm0 x_m0_0 x_m0_1 x_m0_2 x_m0_3 a_m0_4 n_m0_4 c_m0_4 a_m0_5 n_m0_5 c_m0_5) ∧ I m t_3 t_4 x_30 w, m0, ⟨_, _, _, rfl, rfl, h0⟩, ?_⟩
  rintro m vals mem w ⟨t_3, t_4, x_30, rfl, rfl, hI⟩
  refine ⟨rfl, rfl, fun js => ?_⟩
  have h := hr m t_3 t_4 x_30 w hI
  rw [← request_check_L2_eq _ _ _ _ _ _ _ _ _ _ _ _ _ _ _ _ _ _ _ js] at h
  exact h
def request_check_L3 (a_49 : Option Addr) (n_49 : Nat) (c_49 : Nat) (x_50 : Int) (bm0 : Nat) (x_m0_0 : Int) (x_m0_1 : Int) (x_m0_2 : Int) (x_m0_3 : Int) (a_m0_4 : Option Addr) (n_m0_4 : Nat) (c_m0_4 : Nat) (a_m0_5 : Option Addr) (n_m0_5 : Nat) (c_m0_5 : Nat) (t_3 : Bool) (t_4 : Bool) (x_51 : Int) (K3 : Kh) (R : Value → World → Prop) (w : World) : Prop :=
  brB (decide (x_51 < x_50)) (
    ixA a_49 n_49 x_51 2 fun q27 =>
    ldStr w q27 fun s28 => ldInt .i64 w (Addr.add q27 1) fun x29 =>
    ∀ b30, w.heap.size ≤ b30 →
    brB t_3 (
      ∀ w31, Adv [] [b30] w w31 →
      Calls Try.prog 80 #[(.int .i64 x29)] w31 fun e w32 => ∃ t33 : Bool, e = .returned (.bool t33) ∧ Keep [bm0, b30] w31 w32 ∧
      brB t_4 (
        K3 (request_check_v3 a_49 n_49 c_49 x_50 bm0 t33 true (IntKind.wrap .i64 (x_51 + 1))) (request_check_m3 bm0 x_m0_0 x_m0_1 x_m0_2 x_m0_3 a_m0_4 n_m0_4 c_m0_4 a_m0_5 n_m0_5 c_m0_5) w32)
      (
        Calls Try.prog 82 #[(.string s28)] w32 fun e w34 => ∃ t35 : Bool, e = .returned (.bool t35) ∧ Keep [bm0, b30] w32 w34 ∧
        K3 (request_check_v3 a_49 n_49 c_49 x_50 bm0 t33 (!t35) (IntKind.wrap .i64 (x_51 + 1))) (request_check_m3 bm0 x_m0_0 x_m0_1 x_m0_2 x_m0_3 a_m0_4 n_m0_4 c_m0_4 a_m0_5 n_m0_5 c_m0_5) w34))
    (
      brB t_4 (
        ∀ w36, Adv [] [b30] w w36 →
        K3 (request_check_v3 a_49 n_49 c_49 x_50 bm0 false true (IntKind.wrap .i64 (x_51 + 1))) (request_check_m3 bm0 x_m0_0 x_m0_1 x_m0_2 x_m0_3 a_m0_4 n_m0_4 c_m0_4 a_m0_5 n_m0_5 c_m0_5) w36)
      (
        ∀ w37, Adv [] [b30] w w37 →
        Calls Try.prog 82 #[(.string s28)] w37 fun e w38 => ∃ t39 : Bool, e = .returned (.bool t39) ∧ Keep [bm0, b30] w37 w38 ∧
        K3 (request_check_v3 a_49 n_49 c_49 x_50 bm0 false (!t39) (IntKind.wrap .i64 (x_51 + 1))) (request_check_m3 bm0 x_m0_0 x_m0_1 x_m0_2 x_m0_3 a_m0_4 n_m0_4 c_m0_4 a_m0_5 n_m0_5 c_m0_5) w38)))
  (
    brB (!t_3) (
      R (.int .i64 1) w)
    (
      brB (decide ((n_m0_4 : Int) > 64)) (
        R (.int .i64 2) w)
      (
        brB (decide ((n_m0_5 : Int) > 64)) (
          R (.int .i64 2) w)
        (
          brB t_4 (
            R (.int .i64 40) w)
          (
            R (.int .i64 0) w)))))
theorem request_check_L3_eq (a_49 : Option Addr) (n_49 : Nat) (c_49 : Nat) (x_50 : Int) (bm0 : Nat) (x_m0_0 : Int) (x_m0_1 : Int) (x_m0_2 : Int) (x_m0_3 : Int) (a_m0_4 : Option Addr) (n_m0_4 : Nat) (c_m0_4 : Nat) (a_m0_5 : Option Addr) (n_m0_5 : Nat) (c_m0_5 : Nat) (t_3 : Bool) (t_4 : Bool) (x_51 : Int) (K3 : Kh) (js : Nat → Value) (R : Value → World → Prop) (w : World) :
    headA request_check_la3 ((dnF Try.prog request_check_an (code Try.f69) 394 [0, 0, 1, 0, 1, 1, 1, 1]) (kthen3 (atA request_check_la3 K3) (kont3 Try.prog request_check_an (code Try.f69) [1, 1, 1, 1, 0, 1, 0] [] (post3 Try.prog Try.f69 [] R)))) (request_check_v3 a_49 n_49 c_49 x_50 bm0 t_3 t_4 x_51) js (request_check_m3 bm0 x_m0_0 x_m0_1 x_m0_2 x_m0_3 a_m0_4 n_m0_4 c_m0_4 a_m0_5 n_m0_5 c_m0_5) w = request_check_L3 a_49 n_49 c_49 x_50 bm0 x_m0_0 x_m0_1 x_m0_2 x_m0_3 a_m0_4 n_m0_4 c_m0_4 a_m0_5 n_m0_5 c_m0_5 t_3 t_4 x_51 K3 R w := by kernel_rfl
def request_check_K3 (a_49 : Option Addr) (n_49 : Nat) (c_49 : Nat) (x_50 : Int) (bm0 : Nat) (x_m0_0 : Int) (x_m0_1 : Int) (x_m0_2 : Int) (x_m0_3 : Int) (a_m0_4 : Option Addr) (n_m0_4 : Nat) (c_m0_4 : Nat) (a_m0_5 : Option Addr) (n_m0_5 : Nat) (c_m0_5 : Nat) (I : Nat → Bool → Bool → Int → World → Prop) (m : Nat) (vals : List Value) (mem : List TB) (w : World) : Prop := ∃ m', m' < m ∧ ∃ t_3 t_4 x_51, vals = (request_check_v3 a_49 n_49 c_49 x_50 bm0 t_3 t_4 x_51) ∧ mem = (request_check_m3 bm0 x_m0_0 x_m0_1 x_m0_2 x_m0_3 a_m0_4 n_m0_4 c_m0_4 a_m0_5 n_m0_5 c_m0_5) ∧ I m' t_3 t_4 x_51 w
theorem request_check_leaf3 {a_49 : Option Addr} {n_49 : Nat} {c_49 : Nat} {x_50 : Int} {bm0 : Nat} {x_m0_0 : Int} {x_m0_1 : Int} {x_m0_2 : Int} {x_m0_3 : Int} {a_m0_4 : Option Addr} {n_m0_4 : Nat} {c_m0_4 : Nat} {a_m0_5 : Option Addr} {n_m0_5 : Nat} {c_m0_5 : Nat} {I : Nat → Bool → Bool → Int → World → Prop} {m : Nat} {t_3 : Bool} {t_4 : Bool} {x_51 : Int} {w : World} (m' : Nat) (h1 : m' < m) (h2 : I m' t_3 t_4 x_51 w) : request_check_K3 a_49 n_49 c_49 x_50 bm0 x_m0_0 x_m0_1 x_m0_2 x_m0_3 a_m0_4 n_m0_4 c_m0_4 a_m0_5 n_m0_5 c_m0_5 I m (request_check_v3 a_49 n_49 c_49 x_50 bm0 t_3 t_4 x_51) (request_check_m3 bm0 x_m0_0 x_m0_1 x_m0_2 x_m0_3 a_m0_4 n_m0_4 c_m0_4 a_m0_5 n_m0_5 c_m0_5) w := ⟨m', h1, _, _, _, rfl, rfl, h2⟩
theorem request_check_rule3 {a_49 : Option Addr} {n_49 : Nat} {c_49 : Nat} {x_50 : Int} {bm0 : Nat} {x_m0_0 : Int} {x_m0_1 : Int} {x_m0_2 : Int} {x_m0_3 : Int} {a_m0_4 : Option Addr} {n_m0_4 : Nat} {c_m0_4 : Nat} {a_m0_5 : Option Addr} {n_m0_5 : Nat} {c_m0_5 : Nat} {t_30 : Bool} {t_40 : Bool} {x_510 : Int} {R : Value → World → Prop} {w0 : World} (I : Nat → Bool → Bool → Int → World → Prop) (m0 : Nat) (h0 : I m0 t_30 t_40 x_510 w0)
    (hr : ∀ (m : Nat) (t_3 : Bool) (t_4 : Bool) (x_51 : Int) (w : World), I m t_3 t_4 x_51 w → request_check_L3 a_49 n_49 c_49 x_50 bm0 x_m0_0 x_m0_1 x_m0_2 x_m0_3 a_m0_4 n_m0_4 c_m0_4 a_m0_5 n_m0_5 c_m0_5 t_3 t_4 x_51 (request_check_K3 a_49 n_49 c_49 x_50 bm0 x_m0_0 x_m0_1 x_m0_2 x_m0_3 a_m0_4 n_m0_4 c_m0_4 a_m0_5 n_m0_5 c_m0_5 I m) R w) :
    loopD3 request_check_la3 (dnF Try.prog request_check_an (code Try.f69) 394 [0, 0, 1, 0, 1, 1, 1, 1]) (kont3 Try.prog request_check_an (code Try.f69) [1, 1, 1, 1, 0, 1, 0] [] (post3 Try.prog Try.f69 [] R)) (request_check_v3 a_49 n_49 c_49 x_50 bm0 t_30 t_40 x_510) (request_check_m3 bm0 x_m0_0 x_m0_1 x_m0_2 x_m0_3 a_m0_4 n_m0_4 c_m0_4 a_m0_5 n_m0_5 c_m0_5) w0 := by
  refine ⟨fun m vals mem w => ∃ t_3 t_4 x_51, vals = (request_check_v3 a_49 n_49 c_49 x_50 bm0 t_3 t_4 x_51) ∧ mem = (request_check_m3 bm0 x_m0_0 x_m0_1 x_m0_2 x_m0_3 a_m0_4 n_m0_4 c_m0_4 a_m0_5 n_m0_5 c_m0_5) ∧ I m t_3 t_4 x_51 w, m0, ⟨_, _, _, rfl, rfl, h0⟩, ?_⟩
  rintro m vals mem w ⟨t_3, t_4, x_51, rfl, rfl, hI⟩
  refine ⟨rfl, rfl, fun js => ?_⟩
  have h := hr m t_3 t_4 x_51 w hI
  rw [← request_check_L3_eq _ _ _ _ _ _ _ _ _ _ _ _ _ _ _ _ _ _ _ js] at h
  exact h
/-- stagecoach/request.check -/
def request_check_T (a0_r_0 : Int) (a0_r_1 : Int) (a0_r_2 : Int) (a0_r_3 : Int) (a0_r_4_a : Option Addr) (a0_r_4_n : Nat) (a0_r_4_c : Nat) (a0_r_5_a : Option Addr) (a0_r_5_n : Nat) (a0_r_5_c : Nat) (R : Value → World → Prop) (w : World) : Prop :=
  ∀ b1, w.heap.size ≤ b1 →
  ∀ w2, Adv [] [b1] w w2 →
  Calls Try.prog 80 #[(.int .i64 a0_r_0)] w2 fun e w3 => ∃ t4 : Bool, e = .returned (.bool t4) ∧ Keep [b1] w2 w3 ∧
  brB t4 (
    Calls Try.prog 80 #[(.int .i64 a0_r_1)] w3 fun e w5 => ∃ t6 : Bool, e = .returned (.bool t6) ∧ Keep [b1] w3 w5 ∧
    brB t6 (
      Calls Try.prog 80 #[(.int .i64 a0_r_2)] w5 fun e w7 => ∃ t8 : Bool, e = .returned (.bool t8) ∧ Keep [b1] w5 w7 ∧
      brB t8 (
        Calls Try.prog 80 #[(.int .i64 a0_r_3)] w7 fun e w9 => ∃ t10 : Bool, e = .returned (.bool t10) ∧ Keep [b1] w7 w9 ∧
        cutD3 request_check_la1 ((dnF Try.prog request_check_an (code Try.f69) 398 [1, 1]) (kont3 Try.prog request_check_an (code Try.f69) [1] [] (post3 Try.prog Try.f69 [] R))) (request_check_v1 t10 b1) (request_check_m1 b1 a0_r_0 a0_r_1 a0_r_2 a0_r_3 a0_r_4_a a0_r_4_n a0_r_4_c a0_r_5_a a0_r_5_n a0_r_5_c) w9)
      (
        cutD3 request_check_la1 ((dnF Try.prog request_check_an (code Try.f69) 398 [1, 1]) (kont3 Try.prog request_check_an (code Try.f69) [1] [] (post3 Try.prog Try.f69 [] R))) (request_check_v1 false b1) (request_check_m1 b1 a0_r_0 a0_r_1 a0_r_2 a0_r_3 a0_r_4_a a0_r_4_n a0_r_4_c a0_r_5_a a0_r_5_n a0_r_5_c) w7))
    (
      cutD3 request_check_la1 ((dnF Try.prog request_check_an (code Try.f69) 398 [1, 1]) (kont3 Try.prog request_check_an (code Try.f69) [1] [] (post3 Try.prog Try.f69 [] R))) (request_check_v1 false b1) (request_check_m1 b1 a0_r_0 a0_r_1 a0_r_2 a0_r_3 a0_r_4_a a0_r_4_n a0_r_4_c a0_r_5_a a0_r_5_n a0_r_5_c) w5))
  (
    cutD3 request_check_la1 ((dnF Try.prog request_check_an (code Try.f69) 398 [1, 1]) (kont3 Try.prog request_check_an (code Try.f69) [1] [] (post3 Try.prog Try.f69 [] R))) (request_check_v1 false b1) (request_check_m1 b1 a0_r_0 a0_r_1 a0_r_2 a0_r_3 a0_r_4_a a0_r_4_n a0_r_4_c a0_r_5_a a0_r_5_n a0_r_5_c) w3)
theorem request_check_eq (a0_r_0 : Int) (a0_r_1 : Int) (a0_r_2 : Int) (a0_r_3 : Int) (a0_r_4_a : Option Addr) (a0_r_4_n : Nat) (a0_r_4_c : Nat) (a0_r_5_a : Option Addr) (a0_r_5_n : Nat) (a0_r_5_c : Nat) (R : Value → World → Prop) (w : World) :
    dnF Try.prog request_check_an (code Try.f69) 400 [] (post3 Try.prog Try.f69 [] R) ⟨args0 0 [(.agg #[(.int .i64 a0_r_0), (.int .i64 a0_r_1), (.int .i64 a0_r_2), (.int .i64 a0_r_3), (.slice a0_r_4_a a0_r_4_n a0_r_4_c), (.slice a0_r_5_a a0_r_5_n a0_r_5_c)])], fun _ => undef⟩ ⟨[], w, [], [], true⟩ = request_check_T a0_r_0 a0_r_1 a0_r_2 a0_r_3 a0_r_4_a a0_r_4_n a0_r_4_c a0_r_5_a a0_r_5_n a0_r_5_c R w := by kernel_rfl
theorem request_check_go {a0_r_0 : Int} {a0_r_1 : Int} {a0_r_2 : Int} {a0_r_3 : Int} {a0_r_4_a : Option Addr} {a0_r_4_n : Nat} {a0_r_4_c : Nat} {a0_r_5_a : Option Addr} {a0_r_5_n : Nat} {a0_r_5_c : Nat} {R : Value → World → Prop} {w : World} (h : request_check_T a0_r_0 a0_r_1 a0_r_2 a0_r_3 a0_r_4_a a0_r_4_n a0_r_4_c a0_r_5_a a0_r_5_n a0_r_5_c R w) :
    Calls Try.prog 69 #[(.agg #[(.int .i64 a0_r_0), (.int .i64 a0_r_1), (.int .i64 a0_r_2), (.int .i64 a0_r_3), (.slice a0_r_4_a a0_r_4_n a0_r_4_c), (.slice a0_r_5_a a0_r_5_n a0_r_5_c)])] w fun e w' => ∃ v, e = .returned v ∧ R v w' :=
  calls_none Try.wide_mixed (f := 69) (args := [(.agg #[(.int .i64 a0_r_0), (.int .i64 a0_r_1), (.int .i64 a0_r_2), (.int .i64 a0_r_3), (.slice a0_r_4_a a0_r_4_n a0_r_4_c), (.slice a0_r_5_a a0_r_5_n a0_r_5_c)])]) Try.func69 rfl rfl (by kernel_rfl) rfl (Eq.mpr (request_check_eq a0_r_0 a0_r_1 a0_r_2 a0_r_3 a0_r_4_a a0_r_4_n a0_r_4_c a0_r_5_a a0_r_5_n a0_r_5_c R w) h)

end Go.Proofs.Ytohgihgddknmmaa
