/- The conditions of Go functions' bodies, printed by gen2.py. -/
import Derived.Test.YtohgihgddknmmaaTrkS
namespace Go.Proofs.Ytohgihgddknmmaa
open Go Go.RowKit
set_option linter.unusedVariables false
set_option maxRecDepth 100000

def ck_request_checker_number_an : List LA := []
/-- (*stagecoach/request.checker).number -/
def ck_request_checker_number_T (a0_c : Addr) (a1_n : Addr) (R : Value → World → Prop) (w : World) : Prop :=
  ldBool w (Addr.add a0_c 1) fun t1 =>
  brB t1 (
    st w (Addr.add a0_c 1) [(.bool true)] fun w2 =>
    st w2 a1_n [(.int .i64 0)] fun w3 =>
    R (.tuple #[]) w3)
  (
    ldInt .i64 w a1_n fun x4 =>
    Calls Try.prog 80 #[(.int .i64 x4)] w fun e w5 => ∃ t6 : Bool, e = .returned (.bool t6) ∧
    st w5 (Addr.add a0_c 1) [(.bool (!t6))] fun w7 =>
    st w7 a1_n [(.int .i64 0)] fun w8 =>
    R (.tuple #[]) w8)
theorem ck_request_checker_number_eq (a0_c : Addr) (a1_n : Addr) (R : Value → World → Prop) (w : World) :
    dnF Try.prog ck_request_checker_number_an (code Try.f115) 400 [] (post3 Try.prog Try.f115 [] R) ⟨args0 0 [(.pointer (some a0_c)), (.pointer (some a1_n))], fun _ => undef⟩ ⟨[], w, [], [], true⟩ = ck_request_checker_number_T a0_c a1_n R w := by kernel_rfl
theorem ck_request_checker_number_go {a0_c : Addr} {a1_n : Addr} {R : Value → World → Prop} {w : World} (h : ck_request_checker_number_T a0_c a1_n R w) :
    Calls Try.prog 115 #[(.pointer (some a0_c)), (.pointer (some a1_n))] w fun e w' => ∃ v, e = .returned v ∧ R v w' :=
  calls_none Try.wide_mixed (f := 115) (args := [(.pointer (some a0_c)), (.pointer (some a1_n))]) Try.func115 rfl rfl (by kernel_rfl) rfl (Eq.mpr (ck_request_checker_number_eq a0_c a1_n R w) h)
def ck_request_checker_name_an : List LA := []
/-- (*stagecoach/request.checker).name -/
def ck_request_checker_name_T (a0_c : Addr) (a1_s : Addr) (R : Value → World → Prop) (w : World) : Prop :=
  ldBool w a0_c fun t1 =>
  brB t1 (
    st w a0_c [(.bool true)] fun w2 =>
    st w2 a1_s [(.string (⟨#[]⟩ : ByteArray))] fun w3 =>
    R (.tuple #[]) w3)
  (
    ldStr w a1_s fun s4 =>
    Calls Try.prog 82 #[(.string s4)] w fun e w5 => ∃ t6 : Bool, e = .returned (.bool t6) ∧
    st w5 a0_c [(.bool (!t6))] fun w7 =>
    st w7 a1_s [(.string (⟨#[]⟩ : ByteArray))] fun w8 =>
    R (.tuple #[]) w8)
theorem ck_request_checker_name_eq (a0_c : Addr) (a1_s : Addr) (R : Value → World → Prop) (w : World) :
    dnF Try.prog ck_request_checker_name_an (code Try.f113) 400 [] (post3 Try.prog Try.f113 [] R) ⟨args0 0 [(.pointer (some a0_c)), (.pointer (some a1_s))], fun _ => undef⟩ ⟨[], w, [], [], true⟩ = ck_request_checker_name_T a0_c a1_s R w := by kernel_rfl
theorem ck_request_checker_name_go {a0_c : Addr} {a1_s : Addr} {R : Value → World → Prop} {w : World} (h : ck_request_checker_name_T a0_c a1_s R w) :
    Calls Try.prog 113 #[(.pointer (some a0_c)), (.pointer (some a1_s))] w fun e w' => ∃ v, e = .returned v ∧ R v w' :=
  calls_none Try.wide_mixed (f := 113) (args := [(.pointer (some a0_c)), (.pointer (some a1_s))]) Try.func113 rfl rfl (by kernel_rfl) rfl (Eq.mpr (ck_request_checker_name_eq a0_c a1_s R w) h)
def ck_request_checker_flag_an : List LA := []
/-- (*stagecoach/request.checker).flag -/
def ck_request_checker_flag_T (a0_c : Addr) (a1_is : Addr) (R : Value → World → Prop) (w : World) : Prop :=
  st w a1_is [(.bool false)] fun w1 =>
  R (.tuple #[]) w1
theorem ck_request_checker_flag_eq (a0_c : Addr) (a1_is : Addr) (R : Value → World → Prop) (w : World) :
    dnF Try.prog ck_request_checker_flag_an (code Try.f112) 400 [] (post3 Try.prog Try.f112 [] R) ⟨args0 0 [(.pointer (some a0_c)), (.pointer (some a1_is))], fun _ => undef⟩ ⟨[], w, [], [], true⟩ = ck_request_checker_flag_T a0_c a1_is R w := by kernel_rfl
theorem ck_request_checker_flag_go {a0_c : Addr} {a1_is : Addr} {R : Value → World → Prop} {w : World} (h : ck_request_checker_flag_T a0_c a1_is R w) :
    Calls Try.prog 112 #[(.pointer (some a0_c)), (.pointer (some a1_is))] w fun e w' => ∃ v, e = .returned v ∧ R v w' :=
  calls_none Try.wide_mixed (f := 112) (args := [(.pointer (some a0_c)), (.pointer (some a1_is))]) Try.func112 rfl rfl (by kernel_rfl) rfl (Eq.mpr (ck_request_checker_flag_eq a0_c a1_is R w) h)
def ck_request_checker_batch_an : List LA := []
/-- (*stagecoach/request.checker).batch -/
def ck_request_checker_batch_T (a0_c : Addr) (a1_b : Addr) (R : Value → World → Prop) (w : World) : Prop :=
  ldInt .i64 w a1_b fun x1 => ldInt .i64 w (Addr.add a1_b 1) fun x2 => ldInt .i64 w (Addr.add a1_b 2) fun x3 => ldSlice w (Addr.add a1_b 3) fun a4 n5 c6 =>
  Calls Try.prog 116 #[(.agg #[(.int .i64 x1), (.int .i64 x2), (.int .i64 x3), (.slice a4 n5 c6)])] w fun e w7 => ∃ x8 : Int, e = .returned (.int .i64 x8) ∧
  st w7 (Addr.add a0_c 2) [(.int .i64 x8)] fun w9 =>
  st w9 a1_b [(.int .i64 0), (.int .i64 0), (.int .i64 0), (.slice none 0 0)] fun w10 =>
  R (.tuple #[]) w10
theorem ck_request_checker_batch_eq (a0_c : Addr) (a1_b : Addr) (R : Value → World → Prop) (w : World) :
    dnF Try.prog ck_request_checker_batch_an (code Try.f111) 400 [] (post3 Try.prog Try.f111 [] R) ⟨args0 0 [(.pointer (some a0_c)), (.pointer (some a1_b))], fun _ => undef⟩ ⟨[], w, [], [], true⟩ = ck_request_checker_batch_T a0_c a1_b R w := by kernel_rfl
theorem ck_request_checker_batch_go {a0_c : Addr} {a1_b : Addr} {R : Value → World → Prop} {w : World} (h : ck_request_checker_batch_T a0_c a1_b R w) :
    Calls Try.prog 111 #[(.pointer (some a0_c)), (.pointer (some a1_b))] w fun e w' => ∃ v, e = .returned v ∧ R v w' :=
  calls_none Try.wide_mixed (f := 111) (args := [(.pointer (some a0_c)), (.pointer (some a1_b))]) Try.func111 rfl rfl (by kernel_rfl) rfl (Eq.mpr (ck_request_checker_batch_eq a0_c a1_b R w) h)
def ck_request_checker_names_la1 : LA := ⟨[0, 0, 1, 0, 1], [0, 1, 4, 5], [], 0, []⟩
def ck_request_checker_names_an : List LA := [ck_request_checker_names_la1]
def ck_request_checker_names_v1 (p_0 : Addr) (p_1 : Addr) (t_4 : Bool) (x_5 : Int) : List Value := [(.pointer (some p_0)), (.pointer (some p_1)), (.bool t_4), (.int .i64 x_5)]
def ck_request_checker_names_m1 : List TB := []
def ck_request_checker_names_L1 (p_0 : Addr) (p_1 : Addr) (t_4 : Bool) (x_5 : Int) (K1 : Kh) (R : Value → World → Prop) (w : World) : Prop :=
  ldSlice w p_1 fun a1 n2 c3 =>
  brB (decide (x_5 < (n2 : Int))) (
    brB t_4 (
      ldSlice w p_1 fun a4 n5 c6 =>
      ixA a4 n5 (IntKind.wrap .i64 (x_5 - 1)) 1 fun q7 =>
      ldStr w q7 fun s8 =>
      ldSlice w p_1 fun a9 n10 c11 =>
      ixA a9 n10 x_5 1 fun q12 =>
      ldStr w q12 fun s13 =>
      ∀ w14, Adv [] [] w w14 →
      K1 (ck_request_checker_names_v1 p_0 p_1 (Op.bytesLess s8.toList s13.toList) (IntKind.wrap .i64 (x_5 + 1))) (ck_request_checker_names_m1) w14)
    (
      ∀ w15, Adv [] [] w w15 →
      K1 (ck_request_checker_names_v1 p_0 p_1 false (IntKind.wrap .i64 (x_5 + 1))) (ck_request_checker_names_m1) w15))
  (
    ldSlice w p_1 fun a16 n17 c18 =>
    Calls Try.prog 117 #[(.slice a16 n17 c18), (.func (.func 118) #[] #[])] w fun e w19 => ∃ t20 : Bool, e = .returned (.bool t20) ∧
    ldBool w19 p_0 fun t21 =>
    brB t21 (
      st w19 p_0 [(.bool true)] fun w22 =>
      st w22 p_1 [(.slice none 0 0)] fun w23 =>
      R (.tuple #[]) w23)
    (
      ldSlice w19 p_1 fun a24 n25 c26 =>
      brB ((n25 : Int) == 0) (
        st w19 p_0 [(.bool true)] fun w27 =>
        st w27 p_1 [(.slice none 0 0)] fun w28 =>
        R (.tuple #[]) w28)
      (
        ldSlice w19 p_1 fun a29 n30 c31 =>
        brB (decide ((n30 : Int) > 8)) (
          st w19 p_0 [(.bool true)] fun w32 =>
          st w32 p_1 [(.slice none 0 0)] fun w33 =>
          R (.tuple #[]) w33)
        (
          brB t20 (
            st w19 p_0 [(.bool true)] fun w34 =>
            st w34 p_1 [(.slice none 0 0)] fun w35 =>
            R (.tuple #[]) w35)
          (
            st w19 p_0 [(.bool (!t_4))] fun w36 =>
            st w36 p_1 [(.slice none 0 0)] fun w37 =>
            R (.tuple #[]) w37)))))
theorem ck_request_checker_names_L1_eq (p_0 : Addr) (p_1 : Addr) (t_4 : Bool) (x_5 : Int) (K1 : Kh) (js : Nat → Value) (R : Value → World → Prop) (w : World) :
    headA ck_request_checker_names_la1 ((dnF Try.prog ck_request_checker_names_an (code Try.f114) 397 [0, 0, 1, 0, 1]) (kthen3 (atA ck_request_checker_names_la1 K1) (kont3 Try.prog ck_request_checker_names_an (code Try.f114) [1, 0, 1, 0] [] (post3 Try.prog Try.f114 [] R)))) (ck_request_checker_names_v1 p_0 p_1 t_4 x_5) js (ck_request_checker_names_m1) w = ck_request_checker_names_L1 p_0 p_1 t_4 x_5 K1 R w := by kernel_rfl
def ck_request_checker_names_K1 (p_0 : Addr) (p_1 : Addr) (I : Nat → Bool → Int → World → Prop) (m : Nat) (vals : List Value) (mem : List TB) (w : World) : Prop := ∃ m', m' < m ∧ ∃ t_4 x_5, vals = (ck_request_checker_names_v1 p_0 p_1 t_4 x_5) ∧ mem = (ck_request_checker_names_m1) ∧ I m' t_4 x_5 w
theorem ck_request_checker_names_leaf1 {p_0 : Addr} {p_1 : Addr} {I : Nat → Bool → Int → World → Prop} {m : Nat} {t_4 : Bool} {x_5 : Int} {w : World} (m' : Nat) (h1 : m' < m) (h2 : I m' t_4 x_5 w) : ck_request_checker_names_K1 p_0 p_1 I m (ck_request_checker_names_v1 p_0 p_1 t_4 x_5) (ck_request_checker_names_m1) w := ⟨m', h1, _, _, rfl, rfl, h2⟩
theorem ck_request_checker_names_rule1 {p_0 : Addr} {p_1 : Addr} {t_40 : Bool} {x_50 : Int} {R : Value → World → Prop} {w0 : World} (I : Nat → Bool → Int → World → Prop) (m0 : Nat) (h0 : I m0 t_40 x_50 w0)
    (hr : ∀ (m : Nat) (t_4 : Bool) (x_5 : Int) (w : World), I m t_4 x_5 w → ck_request_checker_names_L1 p_0 p_1 t_4 x_5 (ck_request_checker_names_K1 p_0 p_1 I m) R w) :
    loopD3 ck_request_checker_names_la1 (dnF Try.prog ck_request_checker_names_an (code Try.f114) 397 [0, 0, 1, 0, 1]) (kont3 Try.prog ck_request_checker_names_an (code Try.f114) [1, 0, 1, 0] [] (post3 Try.prog Try.f114 [] R)) (ck_request_checker_names_v1 p_0 p_1 t_40 x_50) (ck_request_checker_names_m1) w0 := by
  refine ⟨fun m vals mem w => ∃ t_4 x_5, vals = (ck_request_checker_names_v1 p_0 p_1 t_4 x_5) ∧ mem = (ck_request_checker_names_m1) ∧ I m t_4 x_5 w, m0, ⟨_, _, rfl, rfl, h0⟩, ?_⟩
  rintro m vals mem w ⟨t_4, x_5, rfl, rfl, hI⟩
  refine ⟨rfl, rfl, fun js => ?_⟩
  have h := hr m t_4 x_5 w hI
  rw [← ck_request_checker_names_L1_eq _ _ _ _ _ js] at h
  exact h
/-- (*stagecoach/request.checker).names -/
def ck_request_checker_names_T (a0_c : Addr) (a1_l : Addr) (R : Value → World → Prop) (w : World) : Prop :=
  loopD3 ck_request_checker_names_la1 (dnF Try.prog ck_request_checker_names_an (code Try.f114) 397 [0, 0, 1, 0, 1]) (kont3 Try.prog ck_request_checker_names_an (code Try.f114) [1, 0, 1, 0] [] (post3 Try.prog Try.f114 [] R)) (ck_request_checker_names_v1 a0_c a1_l true 1) (ck_request_checker_names_m1) w
theorem ck_request_checker_names_eq (a0_c : Addr) (a1_l : Addr) (R : Value → World → Prop) (w : World) :
    dnF Try.prog ck_request_checker_names_an (code Try.f114) 400 [] (post3 Try.prog Try.f114 [] R) ⟨args0 0 [(.pointer (some a0_c)), (.pointer (some a1_l))], fun _ => undef⟩ ⟨[], w, [], [], true⟩ = ck_request_checker_names_T a0_c a1_l R w := by kernel_rfl
theorem ck_request_checker_names_go {a0_c : Addr} {a1_l : Addr} {R : Value → World → Prop} {w : World} (h : ck_request_checker_names_T a0_c a1_l R w) :
    Calls Try.prog 114 #[(.pointer (some a0_c)), (.pointer (some a1_l))] w fun e w' => ∃ v, e = .returned v ∧ R v w' :=
  calls_none Try.wide_mixed (f := 114) (args := [(.pointer (some a0_c)), (.pointer (some a1_l))]) Try.func114 rfl rfl (by kernel_rfl) rfl (Eq.mpr (ck_request_checker_names_eq a0_c a1_l R w) h)
def ck_request_checker_names_1_an : List LA := []
/-- (*stagecoach/request.checker).names$1 -/
def ck_request_checker_names_1_T (a0_s : ByteArray) (R : Value → World → Prop) (w : World) : Prop :=
  Calls Try.prog 82 #[(.string a0_s)] w fun e w1 => ∃ t2 : Bool, e = .returned (.bool t2) ∧
  R (.bool (!t2)) w1
theorem ck_request_checker_names_1_eq (a0_s : ByteArray) (R : Value → World → Prop) (w : World) :
    dnF Try.prog ck_request_checker_names_1_an (code Try.f118) 400 [] (post3 Try.prog Try.f118 [] R) ⟨args0 0 [(.string a0_s)], fun _ => undef⟩ ⟨[], w, [], [], true⟩ = ck_request_checker_names_1_T a0_s R w := by kernel_rfl
theorem ck_request_checker_names_1_go {a0_s : ByteArray} {R : Value → World → Prop} {w : World} (h : ck_request_checker_names_1_T a0_s R w) :
    Calls Try.prog 118 #[(.string a0_s)] w fun e w' => ∃ v, e = .returned v ∧ R v w' :=
  calls_none Try.wide_mixed (f := 118) (args := [(.string a0_s)]) Try.func118 rfl rfl (by kernel_rfl) rfl (Eq.mpr (ck_request_checker_names_1_eq a0_s R w) h)
def ck_slices_ContainsFunc_string_string_an : List LA := []
/-- slices.ContainsFunc[[]string,string] -/
def ck_slices_ContainsFunc_string_string_T (a0_s_a : Option Addr) (a0_s_n : Nat) (a0_s_c : Nat) (R : Value → World → Prop) (w : World) : Prop :=
  Calls Try.prog 120 #[(.slice a0_s_a a0_s_n a0_s_c), (.func (.func 118) #[] #[])] w fun e w1 => ∃ x2 : Int, e = .returned (.int .i64 x2) ∧
  R (.bool (decide (x2 ≥ 0))) w1
theorem ck_slices_ContainsFunc_string_string_eq (a0_s_a : Option Addr) (a0_s_n : Nat) (a0_s_c : Nat) (R : Value → World → Prop) (w : World) :
    dnF Try.prog ck_slices_ContainsFunc_string_string_an (code Try.f117) 400 [] (post3 Try.prog Try.f117 [] R) ⟨args0 0 [(.slice a0_s_a a0_s_n a0_s_c), (.func (.func 118) #[] #[])], fun _ => undef⟩ ⟨[], w, [], [], true⟩ = ck_slices_ContainsFunc_string_string_T a0_s_a a0_s_n a0_s_c R w := by kernel_rfl
theorem ck_slices_ContainsFunc_string_string_go {a0_s_a : Option Addr} {a0_s_n : Nat} {a0_s_c : Nat} {R : Value → World → Prop} {w : World} (h : ck_slices_ContainsFunc_string_string_T a0_s_a a0_s_n a0_s_c R w) :
    Calls Try.prog 117 #[(.slice a0_s_a a0_s_n a0_s_c), (.func (.func 118) #[] #[])] w fun e w' => ∃ v, e = .returned v ∧ R v w' :=
  calls_none Try.wide_mixed (f := 117) (args := [(.slice a0_s_a a0_s_n a0_s_c), (.func (.func 118) #[] #[])]) Try.func117 rfl rfl (by kernel_rfl) rfl (Eq.mpr (ck_slices_ContainsFunc_string_string_eq a0_s_a a0_s_n a0_s_c R w) h)
def ck_slices_IndexFunc_string_string_la1 : LA := ⟨[0, 0, 1, 0, 1], [0, 1, 7, 8], [], 0, []⟩
def ck_slices_IndexFunc_string_string_an : List LA := [ck_slices_IndexFunc_string_string_la1]
def ck_slices_IndexFunc_string_string_v1 (a_0 : Option Addr) (n_0 : Nat) (c_0 : Nat) (x_7 : Int) (x_8 : Int) : List Value := [(.slice a_0 n_0 c_0), (.func (.func 118) #[] #[]), (.int .i64 x_7), (.int .i64 x_8)]
def ck_slices_IndexFunc_string_string_m1 : List TB := []
def ck_slices_IndexFunc_string_string_L1 (a_0 : Option Addr) (n_0 : Nat) (c_0 : Nat) (x_7 : Int) (x_8 : Int) (K1 : Kh) (R : Value → World → Prop) (w : World) : Prop :=
  brB (decide (x_8 < x_7)) (
    ixA a_0 n_0 x_8 1 fun q1 =>
    ldStr w q1 fun s2 =>
    Calls Try.prog 118 #[(.string s2)] w fun e w3 => ∃ t4 : Bool, e = .returned (.bool t4) ∧
    brB t4 (
      R (.int .i64 x_8) w3)
    (
      K1 (ck_slices_IndexFunc_string_string_v1 a_0 n_0 c_0 x_7 (IntKind.wrap .i64 (x_8 + 1))) (ck_slices_IndexFunc_string_string_m1) w3))
  (
    R (.int .i64 (-1)) w)
theorem ck_slices_IndexFunc_string_string_L1_eq (a_0 : Option Addr) (n_0 : Nat) (c_0 : Nat) (x_7 : Int) (x_8 : Int) (K1 : Kh) (js : Nat → Value) (R : Value → World → Prop) (w : World) :
    headA ck_slices_IndexFunc_string_string_la1 ((dnF Try.prog ck_slices_IndexFunc_string_string_an (code Try.f120) 397 [0, 0, 1, 0, 1]) (kthen3 (atA ck_slices_IndexFunc_string_string_la1 K1) (kont3 Try.prog ck_slices_IndexFunc_string_string_an (code Try.f120) [1, 0, 1, 0] [] (post3 Try.prog Try.f120 [] R)))) (ck_slices_IndexFunc_string_string_v1 a_0 n_0 c_0 x_7 x_8) js (ck_slices_IndexFunc_string_string_m1) w = ck_slices_IndexFunc_string_string_L1 a_0 n_0 c_0 x_7 x_8 K1 R w := by kernel_rfl
def ck_slices_IndexFunc_string_string_K1 (a_0 : Option Addr) (n_0 : Nat) (c_0 : Nat) (x_7 : Int) (I : Nat → Int → World → Prop) (m : Nat) (vals : List Value) (mem : List TB) (w : World) : Prop := ∃ m', m' < m ∧ ∃ x_8, vals = (ck_slices_IndexFunc_string_string_v1 a_0 n_0 c_0 x_7 x_8) ∧ mem = (ck_slices_IndexFunc_string_string_m1) ∧ I m' x_8 w
theorem ck_slices_IndexFunc_string_string_leaf1 {a_0 : Option Addr} {n_0 : Nat} {c_0 : Nat} {x_7 : Int} {I : Nat → Int → World → Prop} {m : Nat} {x_8 : Int} {w : World} (m' : Nat) (h1 : m' < m) (h2 : I m' x_8 w) : ck_slices_IndexFunc_string_string_K1 a_0 n_0 c_0 x_7 I m (ck_slices_IndexFunc_string_string_v1 a_0 n_0 c_0 x_7 x_8) (ck_slices_IndexFunc_string_string_m1) w := ⟨m', h1, _, rfl, rfl, h2⟩
theorem ck_slices_IndexFunc_string_string_rule1 {a_0 : Option Addr} {n_0 : Nat} {c_0 : Nat} {x_7 : Int} {x_80 : Int} {R : Value → World → Prop} {w0 : World} (I : Nat → Int → World → Prop) (m0 : Nat) (h0 : I m0 x_80 w0)
    (hr : ∀ (m : Nat) (x_8 : Int) (w : World), I m x_8 w → ck_slices_IndexFunc_string_string_L1 a_0 n_0 c_0 x_7 x_8 (ck_slices_IndexFunc_string_string_K1 a_0 n_0 c_0 x_7 I m) R w) :
    loopD3 ck_slices_IndexFunc_string_string_la1 (dnF Try.prog ck_slices_IndexFunc_string_string_an (code Try.f120) 397 [0, 0, 1, 0, 1]) (kont3 Try.prog ck_slices_IndexFunc_string_string_an (code Try.f120) [1, 0, 1, 0] [] (post3 Try.prog Try.f120 [] R)) (ck_slices_IndexFunc_string_string_v1 a_0 n_0 c_0 x_7 x_80) (ck_slices_IndexFunc_string_string_m1) w0 := by
  refine ⟨fun m vals mem w => ∃ x_8, vals = (ck_slices_IndexFunc_string_string_v1 a_0 n_0 c_0 x_7 x_8) ∧ mem = (ck_slices_IndexFunc_string_string_m1) ∧ I m x_8 w, m0, ⟨_, rfl, rfl, h0⟩, ?_⟩
  rintro m vals mem w ⟨x_8, rfl, rfl, hI⟩
  refine ⟨rfl, rfl, fun js => ?_⟩
  have h := hr m x_8 w hI
  rw [← ck_slices_IndexFunc_string_string_L1_eq _ _ _ _ _ _ js] at h
  exact h
/-- slices.IndexFunc[[]string,string] -/
def ck_slices_IndexFunc_string_string_T (a0_s_a : Option Addr) (a0_s_n : Nat) (a0_s_c : Nat) (R : Value → World → Prop) (w : World) : Prop :=
  loopD3 ck_slices_IndexFunc_string_string_la1 (dnF Try.prog ck_slices_IndexFunc_string_string_an (code Try.f120) 397 [0, 0, 1, 0, 1]) (kont3 Try.prog ck_slices_IndexFunc_string_string_an (code Try.f120) [1, 0, 1, 0] [] (post3 Try.prog Try.f120 [] R)) (ck_slices_IndexFunc_string_string_v1 a0_s_a a0_s_n a0_s_c (a0_s_n : Int) 0) (ck_slices_IndexFunc_string_string_m1) w
theorem ck_slices_IndexFunc_string_string_eq (a0_s_a : Option Addr) (a0_s_n : Nat) (a0_s_c : Nat) (R : Value → World → Prop) (w : World) :
    dnF Try.prog ck_slices_IndexFunc_string_string_an (code Try.f120) 400 [] (post3 Try.prog Try.f120 [] R) ⟨args0 0 [(.slice a0_s_a a0_s_n a0_s_c), (.func (.func 118) #[] #[])], fun _ => undef⟩ ⟨[], w, [], [], true⟩ = ck_slices_IndexFunc_string_string_T a0_s_a a0_s_n a0_s_c R w := by kernel_rfl
theorem ck_slices_IndexFunc_string_string_go {a0_s_a : Option Addr} {a0_s_n : Nat} {a0_s_c : Nat} {R : Value → World → Prop} {w : World} (h : ck_slices_IndexFunc_string_string_T a0_s_a a0_s_n a0_s_c R w) :
    Calls Try.prog 120 #[(.slice a0_s_a a0_s_n a0_s_c), (.func (.func 118) #[] #[])] w fun e w' => ∃ v, e = .returned v ∧ R v w' :=
  calls_none Try.wide_mixed (f := 120) (args := [(.slice a0_s_a a0_s_n a0_s_c), (.func (.func 118) #[] #[])]) Try.func120 rfl rfl (by kernel_rfl) rfl (Eq.mpr (ck_slices_IndexFunc_string_string_eq a0_s_a a0_s_n a0_s_c R w) h)
def ck_request_part_an : List LA := []
/-- stagecoach/request.part -/
def ck_request_part_T (a1_p : Addr) (a0_v_p : Addr) (R : Value → World → Prop) (w : World) : Prop :=
  ∀ w1, Adv [] [] w w1 →
  Calls Try.prog 113 #[(.pointer (some a0_v_p)), (.pointer (some a1_p))] w1 fun e w2 => e = .returned (.tuple #[]) ∧
  ∀ w3, Adv [] [] w2 w3 →
  Calls Try.prog 115 #[(.pointer (some a0_v_p)), (.pointer (some (Addr.add a1_p 1)))] w3 fun e w4 => e = .returned (.tuple #[]) ∧
  R (.tuple #[]) w4
theorem ck_request_part_eq (a1_p : Addr) (a0_v_p : Addr) (R : Value → World → Prop) (w : World) :
    dnF Try.prog ck_request_part_an (code Try.f58) 400 [] (post3 Try.prog Try.f58 [] R) ⟨args0 0 [(.iface 94 (.pointer (some a0_v_p))), (.pointer (some a1_p))], fun _ => undef⟩ ⟨[], w, [], [], true⟩ = ck_request_part_T a1_p a0_v_p R w := by kernel_rfl
theorem ck_request_part_go {a1_p : Addr} {a0_v_p : Addr} {R : Value → World → Prop} {w : World} (h : ck_request_part_T a1_p a0_v_p R w) :
    Calls Try.prog 58 #[(.iface 94 (.pointer (some a0_v_p))), (.pointer (some a1_p))] w fun e w' => ∃ v, e = .returned v ∧ R v w' :=
  calls_none Try.wide_mixed (f := 58) (args := [(.iface 94 (.pointer (some a0_v_p))), (.pointer (some a1_p))]) Try.func58 rfl rfl (by kernel_rfl) rfl (Eq.mpr (ck_request_part_eq a1_p a0_v_p R w) h)
def ck_request_member_an : List LA := []
/-- stagecoach/request.member -/
def ck_request_member_T (a1_o : Addr) (a0_v_p : Addr) (R : Value → World → Prop) (w : World) : Prop :=
  ∀ w1, Adv [] [] w w1 →
  Calls Try.prog 113 #[(.pointer (some a0_v_p)), (.pointer (some (Addr.add a1_o 9)))] w1 fun e w2 => e = .returned (.tuple #[]) ∧
  ∀ w3, Adv [] [] w2 w3 →
  Calls Try.prog 113 #[(.pointer (some a0_v_p)), (.pointer (some (Addr.add a1_o 10)))] w3 fun e w4 => e = .returned (.tuple #[]) ∧
  R (.tuple #[]) w4
theorem ck_request_member_eq (a1_o : Addr) (a0_v_p : Addr) (R : Value → World → Prop) (w : World) :
    dnF Try.prog ck_request_member_an (code Try.f59) 400 [] (post3 Try.prog Try.f59 [] R) ⟨args0 0 [(.iface 94 (.pointer (some a0_v_p))), (.pointer (some a1_o))], fun _ => undef⟩ ⟨[], w, [], [], true⟩ = ck_request_member_T a1_o a0_v_p R w := by kernel_rfl
theorem ck_request_member_go {a1_o : Addr} {a0_v_p : Addr} {R : Value → World → Prop} {w : World} (h : ck_request_member_T a1_o a0_v_p R w) :
    Calls Try.prog 59 #[(.iface 94 (.pointer (some a0_v_p))), (.pointer (some a1_o))] w fun e w' => ∃ v, e = .returned v ∧ R v w' :=
  calls_none Try.wide_mixed (f := 59) (args := [(.iface 94 (.pointer (some a0_v_p))), (.pointer (some a1_o))]) Try.func59 rfl rfl (by kernel_rfl) rfl (Eq.mpr (ck_request_member_eq a1_o a0_v_p R w) h)
def ck_request_visit_an : List LA := []
/-- stagecoach/request.visit -/
def ck_request_visit_T (a1_o : Addr) (a0_v_p : Addr) (R : Value → World → Prop) (w : World) : Prop :=
  ldInt .i64 w a1_o fun x1 =>
  brB (x1 == 0) (
    ∀ w2, Adv [] [] w w2 →
    Calls Try.prog 113 #[(.pointer (some a0_v_p)), (.pointer (some (Addr.add a1_o 1)))] w2 fun e w3 => e = .returned (.tuple #[]) ∧
    ∀ w4, Adv [] [] w3 w4 →
    Calls Try.prog 115 #[(.pointer (some a0_v_p)), (.pointer (some (Addr.add a1_o 3)))] w4 fun e w5 => e = .returned (.tuple #[]) ∧
    R (.tuple #[]) w5)
  (
    brB (x1 == 1) (
      brB (x1 == 1) (
        ∀ w6, Adv [] [] w w6 →
        Calls Try.prog 115 #[(.pointer (some a0_v_p)), (.pointer (some (Addr.add a1_o 3)))] w6 fun e w7 => e = .returned (.tuple #[]) ∧
        R (.tuple #[]) w7)
      (
        brB (x1 == 2) (
          Calls Try.prog 58 #[(.iface 94 (.pointer (some a0_v_p))), (.pointer (some (Addr.add a1_o 1)))] w fun e w8 => e = .returned (.tuple #[]) ∧
          ∀ w9, Adv [] [] w8 w9 →
          Calls Try.prog 111 #[(.pointer (some a0_v_p)), (.pointer (some (Addr.add a1_o 5)))] w9 fun e w10 => e = .returned (.tuple #[]) ∧
          R (.tuple #[]) w10)
        (
          brB (x1 == 3) (
            Calls Try.prog 58 #[(.iface 94 (.pointer (some a0_v_p))), (.pointer (some (Addr.add a1_o 1)))] w fun e w11 => e = .returned (.tuple #[]) ∧
            ∀ w12, Adv [] [] w11 w12 →
            Calls Try.prog 115 #[(.pointer (some a0_v_p)), (.pointer (some (Addr.add a1_o 4)))] w12 fun e w13 => e = .returned (.tuple #[]) ∧
            ∀ w14, Adv [] [] w13 w14 →
            Calls Try.prog 115 #[(.pointer (some a0_v_p)), (.pointer (some (Addr.add a1_o 3)))] w14 fun e w15 => e = .returned (.tuple #[]) ∧
            R (.tuple #[]) w15)
          (
            brB (x1 == 4) (
              Calls Try.prog 58 #[(.iface 94 (.pointer (some a0_v_p))), (.pointer (some (Addr.add a1_o 1)))] w fun e w16 => e = .returned (.tuple #[]) ∧
              ∀ w17, Adv [] [] w16 w17 →
              Calls Try.prog 115 #[(.pointer (some a0_v_p)), (.pointer (some (Addr.add a1_o 4)))] w17 fun e w18 => e = .returned (.tuple #[]) ∧
              R (.tuple #[]) w18)
            (
              brB (x1 == 5) (
                Calls Try.prog 58 #[(.iface 94 (.pointer (some a0_v_p))), (.pointer (some (Addr.add a1_o 1)))] w fun e w19 => e = .returned (.tuple #[]) ∧
                R (.tuple #[]) w19)
              (
                brB (x1 == 6) (
                  Calls Try.prog 59 #[(.iface 94 (.pointer (some a0_v_p))), (.pointer (some a1_o))] w fun e w20 => e = .returned (.tuple #[]) ∧
                  ∀ w21, Adv [] [] w20 w21 →
                  Calls Try.prog 115 #[(.pointer (some a0_v_p)), (.pointer (some (Addr.add a1_o 3)))] w21 fun e w22 => e = .returned (.tuple #[]) ∧
                  ∀ w23, Adv [] [] w22 w23 →
                  Calls Try.prog 112 #[(.pointer (some a0_v_p)), (.pointer (some (Addr.add a1_o 12)))] w23 fun e w24 => e = .returned (.tuple #[]) ∧
                  ∀ w25, Adv [] [] w24 w25 →
                  Calls Try.prog 114 #[(.pointer (some a0_v_p)), (.pointer (some (Addr.add a1_o 13)))] w25 fun e w26 => e = .returned (.tuple #[]) ∧
                  R (.tuple #[]) w26)
                (
                  brB (x1 == 7) (
                    brB (x1 == 7) (
                      Calls Try.prog 59 #[(.iface 94 (.pointer (some a0_v_p))), (.pointer (some a1_o))] w fun e w27 => e = .returned (.tuple #[]) ∧
                      ∀ w28, Adv [] [] w27 w28 →
                      Calls Try.prog 115 #[(.pointer (some a0_v_p)), (.pointer (some (Addr.add a1_o 11)))] w28 fun e w29 => e = .returned (.tuple #[]) ∧
                      R (.tuple #[]) w29)
                    (
                      brB (x1 == 10) (
                        Calls Try.prog 59 #[(.iface 94 (.pointer (some a0_v_p))), (.pointer (some a1_o))] w fun e w30 => e = .returned (.tuple #[]) ∧
                        ∀ w31, Adv [] [] w30 w31 →
                        Calls Try.prog 115 #[(.pointer (some a0_v_p)), (.pointer (some (Addr.add a1_o 11)))] w31 fun e w32 => e = .returned (.tuple #[]) ∧
                        Calls Try.prog 58 #[(.iface 94 (.pointer (some a0_v_p))), (.pointer (some (Addr.add a1_o 1)))] w32 fun e w33 => e = .returned (.tuple #[]) ∧
                        ∀ w34, Adv [] [] w33 w34 →
                        Calls Try.prog 115 #[(.pointer (some a0_v_p)), (.pointer (some (Addr.add a1_o 4)))] w34 fun e w35 => e = .returned (.tuple #[]) ∧
                        R (.tuple #[]) w35)
                      (
                        brB (x1 == 11) (
                          ∀ w36, Adv [] [] w w36 →
                          Calls Try.prog 113 #[(.pointer (some a0_v_p)), (.pointer (some (Addr.add a1_o 9)))] w36 fun e w37 => e = .returned (.tuple #[]) ∧
                          Calls Try.prog 58 #[(.iface 94 (.pointer (some a0_v_p))), (.pointer (some (Addr.add a1_o 1)))] w37 fun e w38 => e = .returned (.tuple #[]) ∧
                          R (.tuple #[]) w38)
                        (
                          R (.tuple #[]) w))))
                  (
                    brB (x1 == 8) (
                      brB (x1 == 8) (
                        Calls Try.prog 59 #[(.iface 94 (.pointer (some a0_v_p))), (.pointer (some a1_o))] w fun e w39 => e = .returned (.tuple #[]) ∧
                        ∀ w40, Adv [] [] w39 w40 →
                        Calls Try.prog 115 #[(.pointer (some a0_v_p)), (.pointer (some (Addr.add a1_o 11)))] w40 fun e w41 => e = .returned (.tuple #[]) ∧
                        R (.tuple #[]) w41)
                      (
                        brB (x1 == 10) (
                          Calls Try.prog 59 #[(.iface 94 (.pointer (some a0_v_p))), (.pointer (some a1_o))] w fun e w42 => e = .returned (.tuple #[]) ∧
                          ∀ w43, Adv [] [] w42 w43 →
                          Calls Try.prog 115 #[(.pointer (some a0_v_p)), (.pointer (some (Addr.add a1_o 11)))] w43 fun e w44 => e = .returned (.tuple #[]) ∧
                          Calls Try.prog 58 #[(.iface 94 (.pointer (some a0_v_p))), (.pointer (some (Addr.add a1_o 1)))] w44 fun e w45 => e = .returned (.tuple #[]) ∧
                          ∀ w46, Adv [] [] w45 w46 →
                          Calls Try.prog 115 #[(.pointer (some a0_v_p)), (.pointer (some (Addr.add a1_o 4)))] w46 fun e w47 => e = .returned (.tuple #[]) ∧
                          R (.tuple #[]) w47)
                        (
                          brB (x1 == 11) (
                            ∀ w48, Adv [] [] w w48 →
                            Calls Try.prog 113 #[(.pointer (some a0_v_p)), (.pointer (some (Addr.add a1_o 9)))] w48 fun e w49 => e = .returned (.tuple #[]) ∧
                            Calls Try.prog 58 #[(.iface 94 (.pointer (some a0_v_p))), (.pointer (some (Addr.add a1_o 1)))] w49 fun e w50 => e = .returned (.tuple #[]) ∧
                            R (.tuple #[]) w50)
                          (
                            R (.tuple #[]) w))))
                    (
                      brB (x1 == 9) (
                        Calls Try.prog 59 #[(.iface 94 (.pointer (some a0_v_p))), (.pointer (some a1_o))] w fun e w51 => e = .returned (.tuple #[]) ∧
                        ∀ w52, Adv [] [] w51 w52 →
                        Calls Try.prog 115 #[(.pointer (some a0_v_p)), (.pointer (some (Addr.add a1_o 11)))] w52 fun e w53 => e = .returned (.tuple #[]) ∧
                        R (.tuple #[]) w53)
                      (
                        brB (x1 == 10) (
                          Calls Try.prog 59 #[(.iface 94 (.pointer (some a0_v_p))), (.pointer (some a1_o))] w fun e w54 => e = .returned (.tuple #[]) ∧
                          ∀ w55, Adv [] [] w54 w55 →
                          Calls Try.prog 115 #[(.pointer (some a0_v_p)), (.pointer (some (Addr.add a1_o 11)))] w55 fun e w56 => e = .returned (.tuple #[]) ∧
                          Calls Try.prog 58 #[(.iface 94 (.pointer (some a0_v_p))), (.pointer (some (Addr.add a1_o 1)))] w56 fun e w57 => e = .returned (.tuple #[]) ∧
                          ∀ w58, Adv [] [] w57 w58 →
                          Calls Try.prog 115 #[(.pointer (some a0_v_p)), (.pointer (some (Addr.add a1_o 4)))] w58 fun e w59 => e = .returned (.tuple #[]) ∧
                          R (.tuple #[]) w59)
                        (
                          brB (x1 == 11) (
                            ∀ w60, Adv [] [] w w60 →
                            Calls Try.prog 113 #[(.pointer (some a0_v_p)), (.pointer (some (Addr.add a1_o 9)))] w60 fun e w61 => e = .returned (.tuple #[]) ∧
                            Calls Try.prog 58 #[(.iface 94 (.pointer (some a0_v_p))), (.pointer (some (Addr.add a1_o 1)))] w61 fun e w62 => e = .returned (.tuple #[]) ∧
                            R (.tuple #[]) w62)
                          (
                            R (.tuple #[]) w))))))))))))
    (
      brB (x1 == 12) (
        ∀ w63, Adv [] [] w w63 →
        Calls Try.prog 115 #[(.pointer (some a0_v_p)), (.pointer (some (Addr.add a1_o 3)))] w63 fun e w64 => e = .returned (.tuple #[]) ∧
        R (.tuple #[]) w64)
      (
        brB (x1 == 2) (
          Calls Try.prog 58 #[(.iface 94 (.pointer (some a0_v_p))), (.pointer (some (Addr.add a1_o 1)))] w fun e w65 => e = .returned (.tuple #[]) ∧
          ∀ w66, Adv [] [] w65 w66 →
          Calls Try.prog 111 #[(.pointer (some a0_v_p)), (.pointer (some (Addr.add a1_o 5)))] w66 fun e w67 => e = .returned (.tuple #[]) ∧
          R (.tuple #[]) w67)
        (
          brB (x1 == 3) (
            Calls Try.prog 58 #[(.iface 94 (.pointer (some a0_v_p))), (.pointer (some (Addr.add a1_o 1)))] w fun e w68 => e = .returned (.tuple #[]) ∧
            ∀ w69, Adv [] [] w68 w69 →
            Calls Try.prog 115 #[(.pointer (some a0_v_p)), (.pointer (some (Addr.add a1_o 4)))] w69 fun e w70 => e = .returned (.tuple #[]) ∧
            ∀ w71, Adv [] [] w70 w71 →
            Calls Try.prog 115 #[(.pointer (some a0_v_p)), (.pointer (some (Addr.add a1_o 3)))] w71 fun e w72 => e = .returned (.tuple #[]) ∧
            R (.tuple #[]) w72)
          (
            brB (x1 == 4) (
              Calls Try.prog 58 #[(.iface 94 (.pointer (some a0_v_p))), (.pointer (some (Addr.add a1_o 1)))] w fun e w73 => e = .returned (.tuple #[]) ∧
              ∀ w74, Adv [] [] w73 w74 →
              Calls Try.prog 115 #[(.pointer (some a0_v_p)), (.pointer (some (Addr.add a1_o 4)))] w74 fun e w75 => e = .returned (.tuple #[]) ∧
              R (.tuple #[]) w75)
            (
              brB (x1 == 5) (
                Calls Try.prog 58 #[(.iface 94 (.pointer (some a0_v_p))), (.pointer (some (Addr.add a1_o 1)))] w fun e w76 => e = .returned (.tuple #[]) ∧
                R (.tuple #[]) w76)
              (
                brB (x1 == 6) (
                  Calls Try.prog 59 #[(.iface 94 (.pointer (some a0_v_p))), (.pointer (some a1_o))] w fun e w77 => e = .returned (.tuple #[]) ∧
                  ∀ w78, Adv [] [] w77 w78 →
                  Calls Try.prog 115 #[(.pointer (some a0_v_p)), (.pointer (some (Addr.add a1_o 3)))] w78 fun e w79 => e = .returned (.tuple #[]) ∧
                  ∀ w80, Adv [] [] w79 w80 →
                  Calls Try.prog 112 #[(.pointer (some a0_v_p)), (.pointer (some (Addr.add a1_o 12)))] w80 fun e w81 => e = .returned (.tuple #[]) ∧
                  ∀ w82, Adv [] [] w81 w82 →
                  Calls Try.prog 114 #[(.pointer (some a0_v_p)), (.pointer (some (Addr.add a1_o 13)))] w82 fun e w83 => e = .returned (.tuple #[]) ∧
                  R (.tuple #[]) w83)
                (
                  brB (x1 == 7) (
                    brB (x1 == 7) (
                      Calls Try.prog 59 #[(.iface 94 (.pointer (some a0_v_p))), (.pointer (some a1_o))] w fun e w84 => e = .returned (.tuple #[]) ∧
                      ∀ w85, Adv [] [] w84 w85 →
                      Calls Try.prog 115 #[(.pointer (some a0_v_p)), (.pointer (some (Addr.add a1_o 11)))] w85 fun e w86 => e = .returned (.tuple #[]) ∧
                      R (.tuple #[]) w86)
                    (
                      brB (x1 == 10) (
                        Calls Try.prog 59 #[(.iface 94 (.pointer (some a0_v_p))), (.pointer (some a1_o))] w fun e w87 => e = .returned (.tuple #[]) ∧
                        ∀ w88, Adv [] [] w87 w88 →
                        Calls Try.prog 115 #[(.pointer (some a0_v_p)), (.pointer (some (Addr.add a1_o 11)))] w88 fun e w89 => e = .returned (.tuple #[]) ∧
                        Calls Try.prog 58 #[(.iface 94 (.pointer (some a0_v_p))), (.pointer (some (Addr.add a1_o 1)))] w89 fun e w90 => e = .returned (.tuple #[]) ∧
                        ∀ w91, Adv [] [] w90 w91 →
                        Calls Try.prog 115 #[(.pointer (some a0_v_p)), (.pointer (some (Addr.add a1_o 4)))] w91 fun e w92 => e = .returned (.tuple #[]) ∧
                        R (.tuple #[]) w92)
                      (
                        brB (x1 == 11) (
                          ∀ w93, Adv [] [] w w93 →
                          Calls Try.prog 113 #[(.pointer (some a0_v_p)), (.pointer (some (Addr.add a1_o 9)))] w93 fun e w94 => e = .returned (.tuple #[]) ∧
                          Calls Try.prog 58 #[(.iface 94 (.pointer (some a0_v_p))), (.pointer (some (Addr.add a1_o 1)))] w94 fun e w95 => e = .returned (.tuple #[]) ∧
                          R (.tuple #[]) w95)
                        (
                          R (.tuple #[]) w))))
                  (
                    brB (x1 == 8) (
                      brB (x1 == 8) (
                        Calls Try.prog 59 #[(.iface 94 (.pointer (some a0_v_p))), (.pointer (some a1_o))] w fun e w96 => e = .returned (.tuple #[]) ∧
                        ∀ w97, Adv [] [] w96 w97 →
                        Calls Try.prog 115 #[(.pointer (some a0_v_p)), (.pointer (some (Addr.add a1_o 11)))] w97 fun e w98 => e = .returned (.tuple #[]) ∧
                        R (.tuple #[]) w98)
                      (
                        brB (x1 == 10) (
                          Calls Try.prog 59 #[(.iface 94 (.pointer (some a0_v_p))), (.pointer (some a1_o))] w fun e w99 => e = .returned (.tuple #[]) ∧
                          ∀ w100, Adv [] [] w99 w100 →
                          Calls Try.prog 115 #[(.pointer (some a0_v_p)), (.pointer (some (Addr.add a1_o 11)))] w100 fun e w101 => e = .returned (.tuple #[]) ∧
                          Calls Try.prog 58 #[(.iface 94 (.pointer (some a0_v_p))), (.pointer (some (Addr.add a1_o 1)))] w101 fun e w102 => e = .returned (.tuple #[]) ∧
                          ∀ w103, Adv [] [] w102 w103 →
                          Calls Try.prog 115 #[(.pointer (some a0_v_p)), (.pointer (some (Addr.add a1_o 4)))] w103 fun e w104 => e = .returned (.tuple #[]) ∧
                          R (.tuple #[]) w104)
                        (
                          brB (x1 == 11) (
                            ∀ w105, Adv [] [] w w105 →
                            Calls Try.prog 113 #[(.pointer (some a0_v_p)), (.pointer (some (Addr.add a1_o 9)))] w105 fun e w106 => e = .returned (.tuple #[]) ∧
                            Calls Try.prog 58 #[(.iface 94 (.pointer (some a0_v_p))), (.pointer (some (Addr.add a1_o 1)))] w106 fun e w107 => e = .returned (.tuple #[]) ∧
                            R (.tuple #[]) w107)
                          (
                            R (.tuple #[]) w))))
                    (
                      brB (x1 == 9) (
                        Calls Try.prog 59 #[(.iface 94 (.pointer (some a0_v_p))), (.pointer (some a1_o))] w fun e w108 => e = .returned (.tuple #[]) ∧
                        ∀ w109, Adv [] [] w108 w109 →
                        Calls Try.prog 115 #[(.pointer (some a0_v_p)), (.pointer (some (Addr.add a1_o 11)))] w109 fun e w110 => e = .returned (.tuple #[]) ∧
                        R (.tuple #[]) w110)
                      (
                        brB (x1 == 10) (
                          Calls Try.prog 59 #[(.iface 94 (.pointer (some a0_v_p))), (.pointer (some a1_o))] w fun e w111 => e = .returned (.tuple #[]) ∧
                          ∀ w112, Adv [] [] w111 w112 →
                          Calls Try.prog 115 #[(.pointer (some a0_v_p)), (.pointer (some (Addr.add a1_o 11)))] w112 fun e w113 => e = .returned (.tuple #[]) ∧
                          Calls Try.prog 58 #[(.iface 94 (.pointer (some a0_v_p))), (.pointer (some (Addr.add a1_o 1)))] w113 fun e w114 => e = .returned (.tuple #[]) ∧
                          ∀ w115, Adv [] [] w114 w115 →
                          Calls Try.prog 115 #[(.pointer (some a0_v_p)), (.pointer (some (Addr.add a1_o 4)))] w115 fun e w116 => e = .returned (.tuple #[]) ∧
                          R (.tuple #[]) w116)
                        (
                          brB (x1 == 11) (
                            ∀ w117, Adv [] [] w w117 →
                            Calls Try.prog 113 #[(.pointer (some a0_v_p)), (.pointer (some (Addr.add a1_o 9)))] w117 fun e w118 => e = .returned (.tuple #[]) ∧
                            Calls Try.prog 58 #[(.iface 94 (.pointer (some a0_v_p))), (.pointer (some (Addr.add a1_o 1)))] w118 fun e w119 => e = .returned (.tuple #[]) ∧
                            R (.tuple #[]) w119)
                          (
                            R (.tuple #[]) w)))))))))))))
theorem ck_request_visit_eq (a1_o : Addr) (a0_v_p : Addr) (R : Value → World → Prop) (w : World) :
    dnF Try.prog ck_request_visit_an (code Try.f45) 400 [] (post3 Try.prog Try.f45 [] R) ⟨args0 0 [(.iface 94 (.pointer (some a0_v_p))), (.pointer (some a1_o))], fun _ => undef⟩ ⟨[], w, [], [], true⟩ = ck_request_visit_T a1_o a0_v_p R w := by kernel_rfl
theorem ck_request_visit_go {a1_o : Addr} {a0_v_p : Addr} {R : Value → World → Prop} {w : World} (h : ck_request_visit_T a1_o a0_v_p R w) :
    Calls Try.prog 45 #[(.iface 94 (.pointer (some a0_v_p))), (.pointer (some a1_o))] w fun e w' => ∃ v, e = .returned v ∧ R v w' :=
  calls_none Try.wide_mixed (f := 45) (args := [(.iface 94 (.pointer (some a0_v_p))), (.pointer (some a1_o))]) Try.func45 rfl rfl (by kernel_rfl) rfl (Eq.mpr (ck_request_visit_eq a1_o a0_v_p R w) h)
def ck_request_Check_an : List LA := []
/-- stagecoach/request.Check -/
def ck_request_Check_T (a0_o_0 : Int) (a0_o_1 : ByteArray) (a0_o_2 : Int) (a0_o_3 : Int) (a0_o_4 : Int) (a0_o_5 : Int) (a0_o_6 : Int) (a0_o_7 : Int) (a0_o_8_a : Option Addr) (a0_o_8_n : Nat) (a0_o_8_c : Nat) (a0_o_9 : ByteArray) (a0_o_10 : ByteArray) (a0_o_11 : Int) (a0_o_12 : Bool) (a0_o_13_a : Option Addr) (a0_o_13_n : Nat) (a0_o_13_c : Nat) (R : Value → World → Prop) (w : World) : Prop :=
  ∀ b1, w.heap.size ≤ b1 →
  brB (decide (a0_o_0 < 0)) (
    ∀ w2, Adv [] [b1] w w2 →
    R (.int .i64 41) w2)
  (
    brB (decide (a0_o_0 ≥ 13)) (
      ∀ w3, Adv [] [b1] w w3 →
      R (.int .i64 41) w3)
    (
      ∀ b4, w.heap.size ≤ b4 →
      ∀ w5, Adv [] [b4, b1] w w5 → w5.heap[b1]? = some (.cells #[(.int .i64 a0_o_0), (.string a0_o_1), (.int .i64 a0_o_2), (.int .i64 a0_o_3), (.int .i64 a0_o_4), (.int .i64 a0_o_5), (.int .i64 a0_o_6), (.int .i64 a0_o_7), (.slice a0_o_8_a a0_o_8_n a0_o_8_c), (.string a0_o_9), (.string a0_o_10), (.int .i64 a0_o_11), (.bool a0_o_12), (.slice a0_o_13_a a0_o_13_n a0_o_13_c)] 35) →
      w5.heap[b4]? = some (.cells #[(.bool false), (.bool false), (.int .i64 0)] 96) →
      Calls Try.prog 45 #[(.iface 94 (.pointer (some ⟨b4, 0, none⟩))), (.pointer (some ⟨b1, 0, none⟩))] w5 fun e w6 => e = .returned (.tuple #[]) ∧ ∃ x7 : Int, ∃ s8 : ByteArray, ∃ x9 : Int, ∃ x10 : Int, ∃ x11 : Int, ∃ x12 : Int, ∃ x13 : Int, ∃ x14 : Int, ∃ (a15 : Option Addr) (n16 c17 : Nat), ∃ s18 : ByteArray, ∃ s19 : ByteArray, ∃ x20 : Int, ∃ t21 : Bool, ∃ (a22 : Option Addr) (n23 c24 : Nat), w6.heap[b1]? = some (.cells #[(.int .i64 x7), (.string s8), (.int .i64 x9), (.int .i64 x10), (.int .i64 x11), (.int .i64 x12), (.int .i64 x13), (.int .i64 x14), (.slice a15 n16 c17), (.string s18), (.string s19), (.int .i64 x20), (.bool t21), (.slice a22 n23 c24)] 35) ∧ ∃ t25 : Bool, ∃ t26 : Bool, ∃ x27 : Int, w6.heap[b4]? = some (.cells #[(.bool t25), (.bool t26), (.int .i64 x27)] 96) ∧
      brB t25 (
        ∀ w28, Adv [b1] [] w6 w28 → w28.heap[b1]? = some (.cells #[(.int .i64 0), (.string s8), (.int .i64 x9), (.int .i64 x10), (.int .i64 x11), (.int .i64 x12), (.int .i64 x13), (.int .i64 x14), (.slice a15 n16 c17), (.string s18), (.string s19), (.int .i64 x20), (.bool t21), (.slice a22 n23 c24)] 35) →
        w28.heap[b4]? = some (.cells #[(.bool t25), (.bool t26), (.int .i64 x27)] 96) →
        R (.int .i64 40) w28)
      (
        ∀ w29, Adv [b1] [] w6 w29 → w29.heap[b1]? = some (.cells #[(.int .i64 0), (.string s8), (.int .i64 x9), (.int .i64 x10), (.int .i64 x11), (.int .i64 x12), (.int .i64 x13), (.int .i64 x14), (.slice a15 n16 c17), (.string s18), (.string s19), (.int .i64 x20), (.bool t21), (.slice a22 n23 c24)] 35) →
        w29.heap[b4]? = some (.cells #[(.bool t25), (.bool t26), (.int .i64 x27)] 96) →
        Calls Try.prog 46 #[(.agg #[(.int .i64 0), (.string s8), (.int .i64 x9), (.int .i64 x10), (.int .i64 x11), (.int .i64 x12), (.int .i64 x13), (.int .i64 x14), (.slice a15 n16 c17), (.string s18), (.string s19), (.int .i64 x20), (.bool t21), (.slice a22 n23 c24)]), (.agg #[(.int .i64 0), (.string ByteArray.empty), (.int .i64 0), (.int .i64 0), (.int .i64 0), (.int .i64 0), (.int .i64 0), (.int .i64 0), (.slice none 0 0), (.string ByteArray.empty), (.string ByteArray.empty), (.int .i64 0), (.bool false), (.slice none 0 0)])] w29 fun e w30 => ∃ t31 : Bool, e = .returned (.bool t31) ∧ ∃ x32 : Int, ∃ s33 : ByteArray, ∃ x34 : Int, ∃ x35 : Int, ∃ x36 : Int, ∃ x37 : Int, ∃ x38 : Int, ∃ x39 : Int, ∃ (a40 : Option Addr) (n41 c42 : Nat), ∃ s43 : ByteArray, ∃ s44 : ByteArray, ∃ x45 : Int, ∃ t46 : Bool, ∃ (a47 : Option Addr) (n48 c49 : Nat), w30.heap[b1]? = some (.cells #[(.int .i64 x32), (.string s33), (.int .i64 x34), (.int .i64 x35), (.int .i64 x36), (.int .i64 x37), (.int .i64 x38), (.int .i64 x39), (.slice a40 n41 c42), (.string s43), (.string s44), (.int .i64 x45), (.bool t46), (.slice a47 n48 c49)] 35) ∧ ∃ t50 : Bool, ∃ t51 : Bool, ∃ x52 : Int, w30.heap[b4]? = some (.cells #[(.bool t50), (.bool t51), (.int .i64 x52)] 96) ∧
        brB (!t31) (
          R (.int .i64 40) w30)
        (
          brB t51 (
            R (.int .i64 1) w30)
          (
            R (.int .i64 x52) w30)))))
theorem ck_request_Check_eq (a0_o_0 : Int) (a0_o_1 : ByteArray) (a0_o_2 : Int) (a0_o_3 : Int) (a0_o_4 : Int) (a0_o_5 : Int) (a0_o_6 : Int) (a0_o_7 : Int) (a0_o_8_a : Option Addr) (a0_o_8_n : Nat) (a0_o_8_c : Nat) (a0_o_9 : ByteArray) (a0_o_10 : ByteArray) (a0_o_11 : Int) (a0_o_12 : Bool) (a0_o_13_a : Option Addr) (a0_o_13_n : Nat) (a0_o_13_c : Nat) (R : Value → World → Prop) (w : World) :
    dnF Try.prog ck_request_Check_an (code Try.f28) 400 [] (post3 Try.prog Try.f28 [] R) ⟨args0 0 [(.agg #[(.int .i64 a0_o_0), (.string a0_o_1), (.int .i64 a0_o_2), (.int .i64 a0_o_3), (.int .i64 a0_o_4), (.int .i64 a0_o_5), (.int .i64 a0_o_6), (.int .i64 a0_o_7), (.slice a0_o_8_a a0_o_8_n a0_o_8_c), (.string a0_o_9), (.string a0_o_10), (.int .i64 a0_o_11), (.bool a0_o_12), (.slice a0_o_13_a a0_o_13_n a0_o_13_c)])], fun _ => undef⟩ ⟨[], w, [], [], true⟩ = ck_request_Check_T a0_o_0 a0_o_1 a0_o_2 a0_o_3 a0_o_4 a0_o_5 a0_o_6 a0_o_7 a0_o_8_a a0_o_8_n a0_o_8_c a0_o_9 a0_o_10 a0_o_11 a0_o_12 a0_o_13_a a0_o_13_n a0_o_13_c R w := by kernel_rfl
theorem ck_request_Check_go {a0_o_0 : Int} {a0_o_1 : ByteArray} {a0_o_2 : Int} {a0_o_3 : Int} {a0_o_4 : Int} {a0_o_5 : Int} {a0_o_6 : Int} {a0_o_7 : Int} {a0_o_8_a : Option Addr} {a0_o_8_n : Nat} {a0_o_8_c : Nat} {a0_o_9 : ByteArray} {a0_o_10 : ByteArray} {a0_o_11 : Int} {a0_o_12 : Bool} {a0_o_13_a : Option Addr} {a0_o_13_n : Nat} {a0_o_13_c : Nat} {R : Value → World → Prop} {w : World} (h : ck_request_Check_T a0_o_0 a0_o_1 a0_o_2 a0_o_3 a0_o_4 a0_o_5 a0_o_6 a0_o_7 a0_o_8_a a0_o_8_n a0_o_8_c a0_o_9 a0_o_10 a0_o_11 a0_o_12 a0_o_13_a a0_o_13_n a0_o_13_c R w) :
    Calls Try.prog 28 #[(.agg #[(.int .i64 a0_o_0), (.string a0_o_1), (.int .i64 a0_o_2), (.int .i64 a0_o_3), (.int .i64 a0_o_4), (.int .i64 a0_o_5), (.int .i64 a0_o_6), (.int .i64 a0_o_7), (.slice a0_o_8_a a0_o_8_n a0_o_8_c), (.string a0_o_9), (.string a0_o_10), (.int .i64 a0_o_11), (.bool a0_o_12), (.slice a0_o_13_a a0_o_13_n a0_o_13_c)])] w fun e w' => ∃ v, e = .returned v ∧ R v w' :=
  calls_none Try.wide_mixed (f := 28) (args := [(.agg #[(.int .i64 a0_o_0), (.string a0_o_1), (.int .i64 a0_o_2), (.int .i64 a0_o_3), (.int .i64 a0_o_4), (.int .i64 a0_o_5), (.int .i64 a0_o_6), (.int .i64 a0_o_7), (.slice a0_o_8_a a0_o_8_n a0_o_8_c), (.string a0_o_9), (.string a0_o_10), (.int .i64 a0_o_11), (.bool a0_o_12), (.slice a0_o_13_a a0_o_13_n a0_o_13_c)])]) Try.func28 rfl rfl (by kernel_rfl) rfl (Eq.mpr (ck_request_Check_eq a0_o_0 a0_o_1 a0_o_2 a0_o_3 a0_o_4 a0_o_5 a0_o_6 a0_o_7 a0_o_8_a a0_o_8_n a0_o_8_c a0_o_9 a0_o_10 a0_o_11 a0_o_12 a0_o_13_a a0_o_13_n a0_o_13_c R w) h)

end Go.Proofs.Ytohgihgddknmmaa
