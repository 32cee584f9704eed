/- The conditions of Go functions' bodies, printed by gen2.py. -/
import Derived.Test.YtohgihgddknmmaaTrkS
namespace Go.Proofs.Ytohgihgddknmmaa
open Go Go.RowKit
set_option linter.unusedVariables false
set_option maxRecDepth 100000

def varint_PutText_an : List LA := []
/-- stagecoach/varint.PutText -/
def varint_PutText_T (a0_s : ByteArray) (R : Value → World → Prop) (w : World) : Prop :=
  Calls Try.prog 64 #[(.int .u64 (IntKind.wrap .u64 (a0_s.size : Int)))] w fun e w1 => ∃ s2 : ByteArray, e = .returned (.string s2) ∧
  catS s2 a0_s fun s3 =>
  R (.string s3) w1
theorem varint_PutText_eq (a0_s : ByteArray) (R : Value → World → Prop) (w : World) :
    dnF Try.prog varint_PutText_an (code Try.f67) 400 [] (post3 Try.prog Try.f67 [] R) ⟨args0 0 [(.string a0_s)], fun _ => undef⟩ ⟨[], w, [], [], true⟩ = varint_PutText_T a0_s R w := by kernel_rfl
theorem varint_PutText_go {a0_s : ByteArray} {R : Value → World → Prop} {w : World} (h : varint_PutText_T a0_s R w) :
    Calls Try.prog 67 #[(.string a0_s)] w fun e w' => ∃ v, e = .returned v ∧ R v w' :=
  calls_none Try.wide_mixed (f := 67) (args := [(.string a0_s)]) Try.func67 rfl rfl (by kernel_rfl) rfl (Eq.mpr (varint_PutText_eq a0_s R w) h)
def record_text_an : List LA := []
/-- stagecoach/record.text -/
def record_text_T (a0_r_0 : Bool) (a0_r_1 : ByteArray) (a0_r_2 : Bool) (a0_r_3 : ByteArray) (R : Value → World → Prop) (w : World) : Prop :=
  ∀ b1, w.heap.size ≤ b1 →
  ∀ w2, Adv [] [b1] w w2 →
  Calls Try.prog 90 #[(.agg #[(.bool a0_r_0), (.string a0_r_1), (.bool a0_r_2), (.string a0_r_3)])] w2 fun e w3 => ∃ x4 : Int, e = .returned (.int .u8 x4) ∧ Keep [b1] w2 w3 ∧
  al w3 (.cells #[(.int .u8 x4)] 5) fun b5 w6 =>
  ∃ s7 w8, Sem.run Try.prog (Go.convert 132 9 (.slice (some ⟨b5, 0, none⟩) 1 1)) w6 = .ok (.string s7) w8 ∧ Keep [b1] w6 w8 ∧
  brB a0_r_0 (
    Calls Try.prog 67 #[(.string a0_r_1)] w8 fun e w9 => ∃ s10 : ByteArray, e = .returned (.string s10) ∧ Keep [b1] w8 w9 ∧
    catS s7 s10 fun s11 =>
    brB (!a0_r_2) (
      Calls Try.prog 67 #[(.string a0_r_3)] w9 fun e w12 => ∃ s13 : ByteArray, e = .returned (.string s13) ∧ Keep [b1] w9 w12 ∧
      catS s11 s13 fun s14 =>
      R (.string s14) w12)
    (
      R (.string s11) w9))
  (
    brB (!a0_r_2) (
      Calls Try.prog 67 #[(.string a0_r_3)] w8 fun e w15 => ∃ s16 : ByteArray, e = .returned (.string s16) ∧ Keep [b1] w8 w15 ∧
      catS s7 s16 fun s17 =>
      R (.string s17) w15)
    (
      R (.string s7) w8))
theorem record_text_eq (a0_r_0 : Bool) (a0_r_1 : ByteArray) (a0_r_2 : Bool) (a0_r_3 : ByteArray) (R : Value → World → Prop) (w : World) :
    dnF Try.prog record_text_an (code Try.f83) 400 [] (post3 Try.prog Try.f83 [] R) ⟨args0 0 [(.agg #[(.bool a0_r_0), (.string a0_r_1), (.bool a0_r_2), (.string a0_r_3)])], fun _ => undef⟩ ⟨[], w, [], [], true⟩ = record_text_T a0_r_0 a0_r_1 a0_r_2 a0_r_3 R w := by kernel_rfl
theorem record_text_go {a0_r_0 : Bool} {a0_r_1 : ByteArray} {a0_r_2 : Bool} {a0_r_3 : ByteArray} {R : Value → World → Prop} {w : World} (h : record_text_T a0_r_0 a0_r_1 a0_r_2 a0_r_3 R w) :
    Calls Try.prog 83 #[(.agg #[(.bool a0_r_0), (.string a0_r_1), (.bool a0_r_2), (.string a0_r_3)])] w fun e w' => ∃ v, e = .returned v ∧ R v w' :=
  calls_none Try.wide_mixed (f := 83) (args := [(.agg #[(.bool a0_r_0), (.string a0_r_1), (.bool a0_r_2), (.string a0_r_3)])]) Try.func83 rfl rfl (by kernel_rfl) rfl (Eq.mpr (record_text_eq a0_r_0 a0_r_1 a0_r_2 a0_r_3 R w) h)
def record_Put_an : List LA := []
/-- stagecoach/record.Put -/
def record_Put_T (a0_r_0 : Bool) (a0_r_1 : ByteArray) (a0_r_2 : Bool) (a0_r_3 : ByteArray) (R : Value → World → Prop) (w : World) : Prop :=
  ∀ b1, w.heap.size ≤ b1 →
  ∀ w2, Adv [] [b1] w w2 →
  Calls Try.prog 81 #[(.agg #[(.bool a0_r_0), (.string a0_r_1), (.bool a0_r_2), (.string a0_r_3)])] w2 fun e w3 => ∃ x4 : Int, e = .returned (.int .i64 x4) ∧ Keep [b1] w2 w3 ∧
  brB (x4 != 0) (
    R (.tuple #[(.string (⟨#[]⟩ : ByteArray)), (.int .i64 x4)]) w3)
  (
    Calls Try.prog 83 #[(.agg #[(.bool a0_r_0), (.string a0_r_1), (.bool a0_r_2), (.string a0_r_3)])] w3 fun e w5 => ∃ s6 : ByteArray, e = .returned (.string s6) ∧ Keep [b1] w3 w5 ∧
    R (.tuple #[(.string s6), (.int .i64 0)]) w5)
theorem record_Put_eq (a0_r_0 : Bool) (a0_r_1 : ByteArray) (a0_r_2 : Bool) (a0_r_3 : ByteArray) (R : Value → World → Prop) (w : World) :
    dnF Try.prog record_Put_an (code Try.f71) 400 [] (post3 Try.prog Try.f71 [] R) ⟨args0 0 [(.agg #[(.bool a0_r_0), (.string a0_r_1), (.bool a0_r_2), (.string a0_r_3)])], fun _ => undef⟩ ⟨[], w, [], [], true⟩ = record_Put_T a0_r_0 a0_r_1 a0_r_2 a0_r_3 R w := by kernel_rfl
theorem record_Put_go {a0_r_0 : Bool} {a0_r_1 : ByteArray} {a0_r_2 : Bool} {a0_r_3 : ByteArray} {R : Value → World → Prop} {w : World} (h : record_Put_T a0_r_0 a0_r_1 a0_r_2 a0_r_3 R w) :
    Calls Try.prog 71 #[(.agg #[(.bool a0_r_0), (.string a0_r_1), (.bool a0_r_2), (.string a0_r_3)])] w fun e w' => ∃ v, e = .returned v ∧ R v w' :=
  calls_none Try.wide_mixed (f := 71) (args := [(.agg #[(.bool a0_r_0), (.string a0_r_1), (.bool a0_r_2), (.string a0_r_3)])]) Try.func71 rfl rfl (by kernel_rfl) rfl (Eq.mpr (record_Put_eq a0_r_0 a0_r_1 a0_r_2 a0_r_3 R w) h)
def request_writer_number_an : List LA := []
/-- (*stagecoach/request.writer).number -/
def request_writer_number_T (a0_w : Addr) (a1_n : Addr) (R : Value → World → Prop) (w : World) : Prop :=
  ∀ w1, Adv [] [] w w1 →
  ldInt .i64 w1 a1_n fun x2 =>
  Calls Try.prog 64 #[(.int .u64 (IntKind.wrap .u64 x2))] w1 fun e w3 => ∃ s4 : ByteArray, e = .returned (.string s4) ∧
  Calls Try.prog 63 #[(.pointer (some a0_w)), (.string s4)] w3 fun e w5 => ∃ x6 : Int, ∃ v7 : Value, e = .returned (.tuple #[(.int .i64 x6), v7]) ∧
  R (.tuple #[]) w5
theorem request_writer_number_eq (a0_w : Addr) (a1_n : Addr) (R : Value → World → Prop) (w : World) :
    dnF Try.prog request_writer_number_an (code Try.f70) 400 [] (post3 Try.prog Try.f70 [] R) ⟨args0 0 [(.pointer (some a0_w)), (.pointer (some a1_n))], fun _ => undef⟩ ⟨[], w, [], [], true⟩ = request_writer_number_T a0_w a1_n R w := by kernel_rfl
theorem request_writer_number_go {a0_w : Addr} {a1_n : Addr} {R : Value → World → Prop} {w : World} (h : request_writer_number_T a0_w a1_n R w) :
    Calls Try.prog 70 #[(.pointer (some a0_w)), (.pointer (some a1_n))] w fun e w' => ∃ v, e = .returned v ∧ R v w' :=
  calls_none Try.wide_mixed (f := 70) (args := [(.pointer (some a0_w)), (.pointer (some a1_n))]) Try.func70 rfl rfl (by kernel_rfl) rfl (Eq.mpr (request_writer_number_eq a0_w a1_n R w) h)
def request_writer_name_an : List LA := []
/-- (*stagecoach/request.writer).name -/
def request_writer_name_T (a0_w : Addr) (a1_s : Addr) (R : Value → World → Prop) (w : World) : Prop :=
  ∀ w1, Adv [] [] w w1 →
  ldStr w1 a1_s fun s2 =>
  Calls Try.prog 67 #[(.string s2)] w1 fun e w3 => ∃ s4 : ByteArray, e = .returned (.string s4) ∧
  Calls Try.prog 63 #[(.pointer (some a0_w)), (.string s4)] w3 fun e w5 => ∃ x6 : Int, ∃ v7 : Value, e = .returned (.tuple #[(.int .i64 x6), v7]) ∧
  R (.tuple #[]) w5
theorem request_writer_name_eq (a0_w : Addr) (a1_s : Addr) (R : Value → World → Prop) (w : World) :
    dnF Try.prog request_writer_name_an (code Try.f124) 400 [] (post3 Try.prog Try.f124 [] R) ⟨args0 0 [(.pointer (some a0_w)), (.pointer (some a1_s))], fun _ => undef⟩ ⟨[], w, [], [], true⟩ = request_writer_name_T a0_w a1_s R w := by kernel_rfl
theorem request_writer_name_go {a0_w : Addr} {a1_s : Addr} {R : Value → World → Prop} {w : World} (h : request_writer_name_T a0_w a1_s R w) :
    Calls Try.prog 124 #[(.pointer (some a0_w)), (.pointer (some a1_s))] w fun e w' => ∃ v, e = .returned v ∧ R v w' :=
  calls_none Try.wide_mixed (f := 124) (args := [(.pointer (some a0_w)), (.pointer (some a1_s))]) Try.func124 rfl rfl (by kernel_rfl) rfl (Eq.mpr (request_writer_name_eq a0_w a1_s R w) h)
def request_part_an : List LA := []
/-- stagecoach/request.part -/
def request_part_T (a1_p : Addr) (a0_v_p : Addr) (R : Value → World → Prop) (w : World) : Prop :=
  ∀ w1, Adv [] [] w w1 →
  Calls Try.prog 124 #[(.pointer (some a0_v_p)), (.pointer (some a1_p))] w1 fun e w2 => e = .returned (.tuple #[]) ∧
  ∀ w3, Adv [] [] w2 w3 →
  Calls Try.prog 70 #[(.pointer (some a0_v_p)), (.pointer (some (Addr.add a1_p 1)))] w3 fun e w4 => e = .returned (.tuple #[]) ∧
  R (.tuple #[]) w4
theorem request_part_eq (a1_p : Addr) (a0_v_p : Addr) (R : Value → World → Prop) (w : World) :
    dnF Try.prog request_part_an (code Try.f58) 400 [] (post3 Try.prog Try.f58 [] R) ⟨args0 0 [(.iface 145 (.pointer (some a0_v_p))), (.pointer (some a1_p))], fun _ => undef⟩ ⟨[], w, [], [], true⟩ = request_part_T a1_p a0_v_p R w := by kernel_rfl
theorem request_part_go {a1_p : Addr} {a0_v_p : Addr} {R : Value → World → Prop} {w : World} (h : request_part_T a1_p a0_v_p R w) :
    Calls Try.prog 58 #[(.iface 145 (.pointer (some a0_v_p))), (.pointer (some a1_p))] w fun e w' => ∃ v, e = .returned v ∧ R v w' :=
  calls_none Try.wide_mixed (f := 58) (args := [(.iface 145 (.pointer (some a0_v_p))), (.pointer (some a1_p))]) Try.func58 rfl rfl (by kernel_rfl) rfl (Eq.mpr (request_part_eq a1_p a0_v_p R w) h)
def request_Reply_la1 : LA := ⟨[0, 0, 1, 0, 1, 1, 1], [1, 5, 33, 34, 35], [(1, 0, 0), (5, 1, 0)], 2, [1]⟩
def request_Reply_la2 : LA := ⟨[0, 0, 1, 0, 1, 1, 1, 1], [1, 5, 43, 44, 45], [(1, 0, 0), (5, 1, 0)], 2, [1]⟩
def request_Reply_la3 : LA := ⟨[0, 0, 1, 0, 1, 1, 1, 1, 1, 1, 1], [5, 70, 71, 72], [(5, 1, 0)], 3, [1, 2]⟩
def request_Reply_an : List LA := [request_Reply_la1, request_Reply_la2, request_Reply_la3]
def request_Reply_v1 (a_33 : Option Addr) (n_33 : Nat) (c_33 : Nat) (bm0 : Nat) (bm1 : Nat) (x_35 : Int) : List Value := [(.pointer (some ⟨bm0, 0, none⟩)), (.pointer (some ⟨bm1, 0, none⟩)), (.slice a_33 n_33 c_33), (.int .i64 (5 : Int)), (.int .i64 x_35)]
def request_Reply_m1 (bm0 : Nat) (x_m0_0 : Int) (x_m0_1 : Int) (x_m0_2 : Int) (x_m0_3 : Int) (a_m0_4 : Option Addr) (n_m0_4 : Nat) (c_m0_4 : Nat) (a_m0_5 : Option Addr) (n_m0_5 : Nat) (c_m0_5 : Nat) (bm1 : Nat) (p_m1_0 : Option Addr) (a_m1_1 : Option Addr) (n_m1_1 : Nat) (c_m1_1 : Nat) : List TB := [⟨bm0, 42, [(.int .i64 x_m0_0), (.int .i64 x_m0_1), (.int .i64 x_m0_2), (.int .i64 x_m0_3), (.slice a_m0_4 n_m0_4 c_m0_4), (.slice a_m0_5 n_m0_5 c_m0_5)], false⟩, ⟨bm1, 147, [(.pointer p_m1_0), (.slice a_m1_1 n_m1_1 c_m1_1)], true⟩]
def request_Reply_v2 (a_43 : Option Addr) (n_43 : Nat) (c_43 : Nat) (x_44 : Int) (bm0 : Nat) (bm1 : Nat) (x_45 : Int) : List Value := [(.pointer (some ⟨bm0, 0, none⟩)), (.pointer (some ⟨bm1, 0, none⟩)), (.slice a_43 n_43 c_43), (.int .i64 x_44), (.int .i64 x_45)]
def request_Reply_m2 (bm0 : Nat) (x_m0_0 : Int) (x_m0_1 : Int) (x_m0_2 : Int) (x_m0_3 : Int) (a_m0_4 : Option Addr) (n_m0_4 : Nat) (c_m0_4 : Nat) (a_m0_5 : Option Addr) (n_m0_5 : Nat) (c_m0_5 : Nat) (bm1 : Nat) (p_m1_0 : Option Addr) (a_m1_1 : Option Addr) (n_m1_1 : Nat) (c_m1_1 : Nat) : List TB := [⟨bm0, 42, [(.int .i64 x_m0_0), (.int .i64 x_m0_1), (.int .i64 x_m0_2), (.int .i64 x_m0_3), (.slice a_m0_4 n_m0_4 c_m0_4), (.slice a_m0_5 n_m0_5 c_m0_5)], false⟩, ⟨bm1, 147, [(.pointer p_m1_0), (.slice a_m1_1 n_m1_1 c_m1_1)], true⟩]
def request_Reply_v3 (a_70 : Option Addr) (n_70 : Nat) (c_70 : Nat) (x_71 : Int) (bm1 : Nat) (x_72 : Int) : List Value := [(.pointer (some ⟨bm1, 0, none⟩)), (.slice a_70 n_70 c_70), (.int .i64 x_71), (.int .i64 x_72)]
def request_Reply_m3 (bm0 : Nat) (x_m0_0 : Int) (x_m0_1 : Int) (x_m0_2 : Int) (x_m0_3 : Int) (a_m0_4 : Option Addr) (n_m0_4 : Nat) (c_m0_4 : Nat) (a_m0_5 : Option Addr) (n_m0_5 : Nat) (c_m0_5 : Nat) (bm1 : Nat) (bm2 : Nat) (p_m1_0 : Option Addr) (a_m1_1 : Option Addr) (n_m1_1 : Nat) (c_m1_1 : Nat) (x_m2_0 : Int) : List TB := [⟨bm0, 42, [(.int .i64 x_m0_0), (.int .i64 x_m0_1), (.int .i64 x_m0_2), (.int .i64 x_m0_3), (.slice a_m0_4 n_m0_4 c_m0_4), (.slice a_m0_5 n_m0_5 c_m0_5)], false⟩, ⟨bm1, 147, [(.pointer p_m1_0), (.slice a_m1_1 n_m1_1 c_m1_1)], true⟩, ⟨bm2, 3, [(.int .i64 x_m2_0)], true⟩]
def request_Reply_L1 (a_33 : Option Addr) (n_33 : Nat) (c_33 : Nat) (bm0 : Nat) (x_m0_0 : Int) (x_m0_1 : Int) (x_m0_2 : Int) (x_m0_3 : Int) (a_m0_4 : Option Addr) (n_m0_4 : Nat) (c_m0_4 : Nat) (a_m0_5 : Option Addr) (n_m0_5 : Nat) (c_m0_5 : Nat) (bm1 : Nat) (x_35 : Int) (p_m1_0 : Option Addr) (a_m1_1 : Option Addr) (n_m1_1 : Nat) (c_m1_1 : Nat) (K1 : Kh) (R : Value → World → Prop) (w : World) : Prop :=
  w.heap[bm1]? = some (.cells #[(.pointer p_m1_0), (.slice a_m1_1 n_m1_1 c_m1_1)] 147) →
  brB (decide (x_35 < (5 : Int))) (
    ixA a_33 n_33 x_35 1 fun q9 =>
    ldInt .i64 w q9 fun x10 =>
    ∀ b11, w.heap.size ≤ b11 →
    ∀ w12, Adv [] [b11] w w12 → w12.heap[bm1]? = some (.cells #[(.pointer p_m1_0), (.slice a_m1_1 n_m1_1 c_m1_1)] 147) →
    w12.heap[b11]? = some (.cells #[(.int .i64 x10)] 3) →
    Calls Try.prog 70 #[(.pointer (some ⟨bm1, 0, none⟩)), (.pointer (some ⟨b11, 0, none⟩))] w12 fun e w13 => e = .returned (.tuple #[]) ∧ Keep [bm0] w12 w13 ∧ ∃ p14 : Option Addr, ∃ (a15 : Option Addr) (n16 c17 : Nat), w13.heap[bm1]? = some (.cells #[(.pointer p14), (.slice a15 n16 c17)] 147) ∧ ∃ x18 : Int, w13.heap[b11]? = some (.cells #[(.int .i64 x18)] 3) ∧
    K1 (request_Reply_v1 a_33 n_33 c_33 bm0 bm1 (IntKind.wrap .i64 (x_35 + 1))) (request_Reply_m1 bm0 x_m0_0 x_m0_1 x_m0_2 x_m0_3 a_m0_4 n_m0_4 c_m0_4 a_m0_5 n_m0_5 c_m0_5 bm1 p14 a15 n16 c17) w13)
  (
    loopD3 request_Reply_la2 (dnF Try.prog request_Reply_an (code Try.f50) 394 [0, 0, 1, 0, 1, 1, 1, 1]) (kont3 Try.prog request_Reply_an (code Try.f50) [1, 1, 1, 1, 0, 1, 0] [] (post3 Try.prog Try.f50 [] R)) (request_Reply_v2 a_m0_4 n_m0_4 c_m0_4 (n_m0_4 : Int) bm0 bm1 0) (request_Reply_m2 bm0 x_m0_0 x_m0_1 x_m0_2 x_m0_3 a_m0_4 n_m0_4 c_m0_4 a_m0_5 n_m0_5 c_m0_5 bm1 p_m1_0 a_m1_1 n_m1_1 c_m1_1) w)
theorem request_Reply_L1_eq (a_33 : Option Addr) (n_33 : Nat) (c_33 : Nat) (bm0 : Nat) (x_m0_0 : Int) (x_m0_1 : Int) (x_m0_2 : Int) (x_m0_3 : Int) (a_m0_4 : Option Addr) (n_m0_4 : Nat) (c_m0_4 : Nat) (a_m0_5 : Option Addr) (n_m0_5 : Nat) (c_m0_5 : Nat) (bm1 : Nat) (x_35 : Int) (p_m1_0 : Option Addr) (a_m1_1 : Option Addr) (n_m1_1 : Nat) (c_m1_1 : Nat) (K1 : Kh) (js : Nat → Value) (R : Value → World → Prop) (w : World) :
    headA request_Reply_la1 ((dnF Try.prog request_Reply_an (code Try.f50) 395 [0, 0, 1, 0, 1, 1, 1]) (kthen3 (atA request_Reply_la1 K1) (kont3 Try.prog request_Reply_an (code Try.f50) [1, 1, 1, 0, 1, 0] [] (post3 Try.prog Try.f50 [] R)))) (request_Reply_v1 a_33 n_33 c_33 bm0 bm1 x_35) js (request_Reply_m1 bm0 x_m0_0 x_m0_1 x_m0_2 x_m0_3 a_m0_4 n_m0_4 c_m0_4 a_m0_5 n_m0_5 c_m0_5 bm1 p_m1_0 a_m1_1 n_m1_1 c_m1_1) w = request_Reply_L1 a_33 n_33 c_33 bm0 x_m0_0 x_m0_1 x_m0_2 x_m0_3 a_m0_4 n_m0_4 c_m0_4 a_m0_5 n_m0_5 c_m0_5 bm1 x_35 p_m1_0 a_m1_1 n_m1_1 c_m1_1 K1 R w := by kernel_rfl
def request_Reply_K1 (a_33 : Option Addr) (n_33 : Nat) (c_33 : Nat) (bm0 : Nat) (x_m0_0 : Int) (x_m0_1 : Int) (x_m0_2 : Int) (x_m0_3 : Int) (a_m0_4 : Option Addr) (n_m0_4 : Nat) (c_m0_4 : Nat) (a_m0_5 : Option Addr) (n_m0_5 : Nat) (c_m0_5 : Nat) (bm1 : Nat) (I : Nat → Int → Option Addr → Option Addr → Nat → Nat → World → Prop) (m : Nat) (vals : List Value) (mem : List TB) (w : World) : Prop := ∃ m', m' < m ∧ ∃ x_35 p_m1_0 a_m1_1 n_m1_1 c_m1_1, vals = (request_Reply_v1 a_33 n_33 c_33 bm0 bm1 x_35) ∧ mem = (request_Reply_m1 bm0 x_m0_0 x_m0_1 x_m0_2 x_m0_3 a_m0_4 n_m0_4 c_m0_4 a_m0_5 n_m0_5 c_m0_5 bm1 p_m1_0 a_m1_1 n_m1_1 c_m1_1) ∧ I m' x_35 p_m1_0 a_m1_1 n_m1_1 c_m1_1 w
theorem request_Reply_leaf1 {a_33 : Option Addr} {n_33 : Nat} {c_33 : Nat} {bm0 : Nat} {x_m0_0 : Int} {x_m0_1 : Int} {x_m0_2 : Int} {x_m0_3 : Int} {a_m0_4 : Option Addr} {n_m0_4 : Nat} {c_m0_4 : Nat} {a_m0_5 : Option Addr} {n_m0_5 : Nat} {c_m0_5 : Nat} {bm1 : Nat} {I : Nat → Int → Option Addr → Option Addr → Nat → Nat → World → Prop} {m : Nat} {x_35 : Int} {p_m1_0 : Option Addr} {a_m1_1 : Option Addr} {n_m1_1 : Nat} {c_m1_1 : Nat} {w : World} (m' : Nat) (h1 : m' < m) (h2 : I m' x_35 p_m1_0 a_m1_1 n_m1_1 c_m1_1 w) : request_Reply_K1 a_33 n_33 c_33 bm0 x_m0_0 x_m0_1 x_m0_2 x_m0_3 a_m0_4 n_m0_4 c_m0_4 a_m0_5 n_m0_5 c_m0_5 bm1 I m (request_Reply_v1 a_33 n_33 c_33 bm0 bm1 x_35) (request_Reply_m1 bm0 x_m0_0 x_m0_1 x_m0_2 x_m0_3 a_m0_4 n_m0_4 c_m0_4 a_m0_5 n_m0_5 c_m0_5 bm1 p_m1_0 a_m1_1 n_m1_1 c_m1_1) w := ⟨m', h1, _, _, _, _, _, rfl, rfl, h2⟩
theorem request_Reply_rule1 {a_33 : Option Addr} {n_33 : Nat} {c_33 : Nat} {bm0 : Nat} {x_m0_0 : Int} {x_m0_1 : Int} {x_m0_2 : Int} {x_m0_3 : Int} {a_m0_4 : Option Addr} {n_m0_4 : Nat} {c_m0_4 : Nat} {a_m0_5 : Option Addr} {n_m0_5 : Nat} {c_m0_5 : Nat} {bm1 : Nat} {x_350 : Int} {p_m1_00 : Option Addr} {a_m1_10 : Option Addr} {n_m1_10 : Nat} {c_m1_10 : Nat} {R : Value → World → Prop} {w0 : World} (I : Nat → Int → Option Addr → Option Addr → Nat → Nat → World → Prop) (m0 : Nat) (h0 : I m0 x_350 p_m1_00 a_m1_10 n_m1_10 c_m1_10 w0)
    (hr : ∀ (m : Nat) (x_35 : Int) (p_m1_0 : Option Addr) (a_m1_1 : Option Addr) (n_m1_1 : Nat) (c_m1_1 : Nat) (w : World), I m x_35 p_m1_0 a_m1_1 n_m1_1 c_m1_1 w → request_Reply_L1 a_33 n_33 c_33 bm0 x_m0_0 x_m0_1 x_m0_2 x_m0_3 a_m0_4 n_m0_4 c_m0_4 a_m0_5 n_m0_5 c_m0_5 bm1 x_35 p_m1_0 a_m1_1 n_m1_1 c_m1_1 (request_Reply_K1 a_33 n_33 c_33 bm0 x_m0_0 x_m0_1 x_m0_2 x_m0_3 a_m0_4 n_m0_4 c_m0_4 a_m0_5 n_m0_5 c_m0_5 bm1 I m) R w) :
    loopD3 request_Reply_la1 (dnF Try.prog request_Reply_an (code Try.f50) 395 [0, 0, 1, 0, 1, 1, 1]) (kont3 Try.prog request_Reply_an (code Try.f50) [1, 1, 1, 0, 1, 0] [] (post3 Try.prog Try.f50 [] R)) (request_Reply_v1 a_33 n_33 c_33 bm0 bm1 x_350) (request_Reply_m1 bm0 x_m0_0 x_m0_1 x_m0_2 x_m0_3 a_m0_4 n_m0_4 c_m0_4 a_m0_5 n_m0_5 c_m0_5 bm1 p_m1_00 a_m1_10 n_m1_10 c_m1_10) w0 := by
  refine ⟨fun m vals mem w => ∃ x_35 p_m1_0 a_m1_1 n_m1_1 c_m1_1, vals = (request_Reply_v1 a_33 n_33 c_33 bm0 bm1 x_35) ∧ mem = (request_Reply_m1 bm0 x_m0_0 x_m0_1 x_m0_2 x_m0_3 a_m0_4 n_m0_4 c_m0_4 a_m0_5 n_m0_5 c_m0_5 bm1 p_m1_0 a_m1_1 n_m1_1 c_m1_1) ∧ I m x_35 p_m1_0 a_m1_1 n_m1_1 c_m1_1 w, m0, ⟨_, _, _, _, _, rfl, rfl, h0⟩, ?_⟩
  rintro m vals mem w ⟨x_35, p_m1_0, a_m1_1, n_m1_1, c_m1_1, rfl, rfl, hI⟩
  refine ⟨rfl, rfl, fun js => ?_⟩
  have h := hr m x_35 p_m1_0 a_m1_1 n_m1_1 c_m1_1 w hI
  rw [← request_Reply_L1_eq _ _ _ _ _ _ _ _ _ _ _ _ _ _ _ _ _ _ _ _ _ js] at h
  exact h
def request_Reply_L2 (a_43 : Option Addr) (n_43 : Nat) (c_43 : Nat) (x_44 : Int) (bm0 : Nat) (x_m0_0 : Int) (x_m0_1 : Int) (x_m0_2 : Int) (x_m0_3 : Int) (a_m0_4 : Option Addr) (n_m0_4 : Nat) (c_m0_4 : Nat) (a_m0_5 : Option Addr) (n_m0_5 : Nat) (c_m0_5 : Nat) (bm1 : Nat) (x_45 : Int) (p_m1_0 : Option Addr) (a_m1_1 : Option Addr) (n_m1_1 : Nat) (c_m1_1 : Nat) (K2 : Kh) (R : Value → World → Prop) (w : World) : Prop :=
  w.heap[bm1]? = some (.cells #[(.pointer p_m1_0), (.slice a_m1_1 n_m1_1 c_m1_1)] 147) →
  brB (decide (x_45 < x_44)) (
    ixA a_43 n_43 x_45 5 fun q19 =>
    ldInt .i64 w q19 fun x20 => ldBool w (Addr.add q19 1) fun t21 => ldStr w (Addr.add q19 2) fun s22 => ldBool w (Addr.add q19 3) fun t23 => ldStr w (Addr.add q19 4) fun s24 =>
    ∀ b25, w.heap.size ≤ b25 →
    ∀ w26, Adv [] [b25] w w26 → w26.heap[bm1]? = some (.cells #[(.pointer p_m1_0), (.slice a_m1_1 n_m1_1 c_m1_1)] 147) →
    w26.heap[b25]? = some (.cells #[(.int .i64 x20), (.bool t21), (.string s22), (.bool t23), (.string s24)] 111) →
    Calls Try.prog 70 #[(.pointer (some ⟨bm1, 0, none⟩)), (.pointer (some ⟨b25, 0, none⟩))] w26 fun e w27 => e = .returned (.tuple #[]) ∧ Keep [bm0] w26 w27 ∧ ∃ p28 : Option Addr, ∃ (a29 : Option Addr) (n30 c31 : Nat), w27.heap[bm1]? = some (.cells #[(.pointer p28), (.slice a29 n30 c31)] 147) ∧ ∃ x32 : Int, ∃ t33 : Bool, ∃ s34 : ByteArray, ∃ t35 : Bool, ∃ s36 : ByteArray, w27.heap[b25]? = some (.cells #[(.int .i64 x32), (.bool t33), (.string s34), (.bool t35), (.string s36)] 111) ∧
    Calls Try.prog 71 #[(.agg #[(.bool t33), (.string s34), (.bool t35), (.string s36)])] w27 fun e w37 => ∃ s38 : ByteArray, ∃ x39 : Int, e = .returned (.tuple #[(.string s38), (.int .i64 x39)]) ∧ Keep [bm0] w27 w37 ∧ ∃ p40 : Option Addr, ∃ (a41 : Option Addr) (n42 c43 : Nat), w37.heap[bm1]? = some (.cells #[(.pointer p40), (.slice a41 n42 c43)] 147) ∧ ∃ x44 : Int, ∃ t45 : Bool, ∃ s46 : ByteArray, ∃ t47 : Bool, ∃ s48 : ByteArray, w37.heap[b25]? = some (.cells #[(.int .i64 x44), (.bool t45), (.string s46), (.bool t47), (.string s48)] 111) ∧
    Calls Try.prog 63 #[(.pointer (some ⟨bm1, 0, none⟩)), (.string s38)] w37 fun e w49 => ∃ x50 : Int, ∃ v51 : Value, e = .returned (.tuple #[(.int .i64 x50), v51]) ∧ Keep [bm0] w37 w49 ∧ ∃ p52 : Option Addr, ∃ (a53 : Option Addr) (n54 c55 : Nat), w49.heap[bm1]? = some (.cells #[(.pointer p52), (.slice a53 n54 c55)] 147) ∧ ∃ x56 : Int, ∃ t57 : Bool, ∃ s58 : ByteArray, ∃ t59 : Bool, ∃ s60 : ByteArray, w49.heap[b25]? = some (.cells #[(.int .i64 x56), (.bool t57), (.string s58), (.bool t59), (.string s60)] 111) ∧
    K2 (request_Reply_v2 a_43 n_43 c_43 x_44 bm0 bm1 (IntKind.wrap .i64 (x_45 + 1))) (request_Reply_m2 bm0 x_m0_0 x_m0_1 x_m0_2 x_m0_3 a_m0_4 n_m0_4 c_m0_4 a_m0_5 n_m0_5 c_m0_5 bm1 p52 a53 n54 c55) w49)
  (
    ∀ b61, w.heap.size ≤ b61 →
    ∀ w62, Adv [] [b61] w w62 → w62.heap[bm1]? = some (.cells #[(.pointer p_m1_0), (.slice a_m1_1 n_m1_1 c_m1_1)] 147) →
    w62.heap[b61]? = some (.cells #[(.int .i64 (n_m0_5 : Int))] 3) →
    Calls Try.prog 70 #[(.pointer (some ⟨bm1, 0, none⟩)), (.pointer (some ⟨b61, 0, none⟩))] w62 fun e w63 => e = .returned (.tuple #[]) ∧ Keep [bm0] w62 w63 ∧ ∃ p64 : Option Addr, ∃ (a65 : Option Addr) (n66 c67 : Nat), w63.heap[bm1]? = some (.cells #[(.pointer p64), (.slice a65 n66 c67)] 147) ∧ ∃ x68 : Int, w63.heap[b61]? = some (.cells #[(.int .i64 x68)] 3) ∧
    loopD3 request_Reply_la3 (dnF Try.prog request_Reply_an (code Try.f50) 391 [0, 0, 1, 0, 1, 1, 1, 1, 1, 1, 1]) (kont3 Try.prog request_Reply_an (code Try.f50) [1, 1, 1, 1, 1, 1, 1, 0, 1, 0] [] (post3 Try.prog Try.f50 [] R)) (request_Reply_v3 a_m0_5 n_m0_5 c_m0_5 (n_m0_5 : Int) bm1 0) (request_Reply_m3 bm0 x_m0_0 x_m0_1 x_m0_2 x_m0_3 a_m0_4 n_m0_4 c_m0_4 a_m0_5 n_m0_5 c_m0_5 bm1 b61 p64 a65 n66 c67 x68) w63)
theorem request_Reply_L2_eq (a_43 : Option Addr) (n_43 : Nat) (c_43 : Nat) (x_44 : Int) (bm0 : Nat) (x_m0_0 : Int) (x_m0_1 : Int) (x_m0_2 : Int) (x_m0_3 : Int) (a_m0_4 : Option Addr) (n_m0_4 : Nat) (c_m0_4 : Nat) (a_m0_5 : Option Addr) (n_m0_5 : Nat) (c_m0_5 : Nat) (bm1 : Nat) (x_45 : Int) (p_m1_0 : Option Addr) (a_m1_1 : Option Addr) (n_m1_1 : Nat) (c_m1_1 : Nat) (K2 : Kh) (js : Nat → Value) (R : Value → World → Prop) (w : World) :
    headA request_Reply_la2 ((dnF Try.prog request_Reply_an (code Try.f50) 394 [0, 0, 1, 0, 1, 1, 1, 1]) (kthen3 (atA request_Reply_la2 K2) (kont3 Try.prog request_Reply_an (code Try.f50) [1, 1, 1, 1, 0, 1, 0] [] (post3 Try.prog Try.f50 [] R)))) (request_Reply_v2 a_43 n_43 c_43 x_44 bm0 bm1 x_45) js (request_Reply_m2 bm0 x_m0_0 x_m0_1 x_m0_2 x_m0_3 a_m0_4 n_m0_4 c_m0_4 a_m0_5 n_m0_5 c_m0_5 bm1 p_m1_0 a_m1_1 n_m1_1 c_m1_1) w = request_Reply_L2 a_43 n_43 c_43 x_44 bm0 x_m0_0 x_m0_1 x_m0_2 x_m0_3 a_m0_4 n_m0_4 c_m0_4 a_m0_5 n_m0_5 c_m0_5 bm1 x_45 p_m1_0 a_m1_1 n_m1_1 c_m1_1 K2 R w := by kernel_rfl
def request_Reply_K2 (a_43 : Option Addr) (n_43 : Nat) (c_43 : Nat) (x_44 : Int) (bm0 : Nat) (x_m0_0 : Int) (x_m0_1 : Int) (x_m0_2 : Int) (x_m0_3 : Int) (a_m0_4 : Option Addr) (n_m0_4 : Nat) (c_m0_4 : Nat) (a_m0_5 : Option Addr) (n_m0_5 : Nat) (c_m0_5 : Nat) (bm1 : Nat) (I : Nat → Int → Option Addr → Option Addr → Nat → Nat → World → Prop) (m : Nat) (vals : List Value) (mem : List TB) (w : World) : Prop := ∃ m', m' < m ∧ ∃ x_45 p_m1_0 a_m1_1 n_m1_1 c_m1_1, vals = (request_Reply_v2 a_43 n_43 c_43 x_44 bm0 bm1 x_45) ∧ mem = (request_Reply_m2 bm0 x_m0_0 x_m0_1 x_m0_2 x_m0_3 a_m0_4 n_m0_4 c_m0_4 a_m0_5 n_m0_5 c_m0_5 bm1 p_m1_0 a_m1_1 n_m1_1 c_m1_1) ∧ I m' x_45 p_m1_0 a_m1_1 n_m1_1 c_m1_1 w
theorem request_Reply_leaf2 {a_43 : Option Addr} {n_43 : Nat} {c_43 : Nat} {x_44 : Int} {bm0 : Nat} {x_m0_0 : Int} {x_m0_1 : Int} {x_m0_2 : Int} {x_m0_3 : Int} {a_m0_4 : Option Addr} {n_m0_4 : Nat} {c_m0_4 : Nat} {a_m0_5 : Option Addr} {n_m0_5 : Nat} {c_m0_5 : Nat} {bm1 : Nat} {I : Nat → Int → Option Addr → Option Addr → Nat → Nat → World → Prop} {m : Nat} {x_45 : Int} {p_m1_0 : Option Addr} {a_m1_1 : Option Addr} {n_m1_1 : Nat} {c_m1_1 : Nat} {w : World} (m' : Nat) (h1 : m' < m) (h2 : I m' x_45 p_m1_0 a_m1_1 n_m1_1 c_m1_1 w) : request_Reply_K2 a_43 n_43 c_43 x_44 bm0 x_m0_0 x_m0_1 x_m0_2 x_m0_3 a_m0_4 n_m0_4 c_m0_4 a_m0_5 n_m0_5 c_m0_5 bm1 I m (request_Reply_v2 a_43 n_43 c_43 x_44 bm0 bm1 x_45) (request_Reply_m2 bm0 x_m0_0 x_m0_1 x_m0_2 x_m0_3 a_m0_4 n_m0_4 c_m0_4 a_m0_5 n_m0_5 c_m0_5 bm1 p_m1_0 a_m1_1 n_m1_1 c_m1_1) w := ⟨m', h1, _, _, _, _, _, rfl, rfl, h2⟩
theorem request_Reply_rule2 {a_43 : Option Addr} {n_43 : Nat} {c_43 : Nat} {x_44 : Int} {bm0 : Nat} {x_m0_0 : Int} {x_m0_1 : Int} {x_m0_2 : Int} {x_m0_3 : Int} {a_m0_4 : Option Addr} {n_m0_4 : Nat} {c_m0_4 : Nat} {a_m0_5 : Option Addr} {n_m0_5 : Nat} {c_m0_5 : Nat} {bm1 : Nat} {x_450 : Int} {p_m1_00 : Option Addr} {a_m1_10 : Option Addr} {n_m1_10 : Nat} {c_m1_10 : Nat} {R : Value → World → Prop} {w0 : World} (I : Nat → Int → Option Addr → Option Addr → Nat → Nat → World → Prop) (m0 : Nat) (h0 : I m0 x_450 p_m1_00 a_m1_10 n_m1_10 c_m1_10 w0)
    (hr : ∀ (m : Nat) (x_45 : Int) (p_m1_0 : Option Addr) (a_m1_1 : Option Addr) (n_m1_1 : Nat) (c_m1_1 : Nat) (w : World), I m x_45 p_m1_0 a_m1_1 n_m1_1 c_m1_1 w → request_Reply_L2 a_43 n_43 c_43 x_44 bm0 x_m0_0 x_m0_1 x_m0_2 x_m0_3 a_m0_4 n_m0_4 c_m0_4 a_m0_5 n_m0_5 c_m0_5 bm1 x_45 p_m1_0 a_m1_1 n_m1_1 c_m1_1 (request_Reply_K2 a_43 n_43 c_43 x_44 bm0 x_m0_0 x_m0_1 x_m0_2 x_m0_3 a_m0_4 n_m0_4 c_m0_4 a_m0_5 n_m0_5 c_m0_5 bm1 I m) R w) :
    loopD3 request_Reply_la2 (dnF Try.prog request_Reply_an (code Try.f50) 394 [0, 0, 1, 0, 1, 1, 1, 1]) (kont3 Try.prog request_Reply_an (code Try.f50) [1, 1, 1, 1, 0, 1, 0] [] (post3 Try.prog Try.f50 [] R)) (request_Reply_v2 a_43 n_43 c_43 x_44 bm0 bm1 x_450) (request_Reply_m2 bm0 x_m0_0 x_m0_1 x_m0_2 x_m0_3 a_m0_4 n_m0_4 c_m0_4 a_m0_5 n_m0_5 c_m0_5 bm1 p_m1_00 a_m1_10 n_m1_10 c_m1_10) w0 := by
  refine ⟨fun m vals mem w => ∃ x_45 p_m1_0 a_m1_1 n_m1_1 c_m1_1, vals = (request_Reply_v2 a_43 n_43 c_43 x_44 bm0 bm1 x_45) ∧ mem = (request_Reply_m2 bm0 x_m0_0 x_m0_1 x_m0_2 x_m0_3 a_m0_4 n_m0_4 c_m0_4 a_m0_5 n_m0_5 c_m0_5 bm1 p_m1_0 a_m1_1 n_m1_1 c_m1_1) ∧ I m x_45 p_m1_0 a_m1_1 n_m1_1 c_m1_1 w, m0, ⟨_, _, _, _, _, rfl, rfl, h0⟩, ?_⟩
  rintro m vals mem w ⟨x_45, p_m1_0, a_m1_1, n_m1_1, c_m1_1, rfl, rfl, hI⟩
  refine ⟨rfl, rfl, fun js => ?_⟩
  have h := hr m x_45 p_m1_0 a_m1_1 n_m1_1 c_m1_1 w hI
  rw [← request_Reply_L2_eq _ _ _ _ _ _ _ _ _ _ _ _ _ _ _ _ _ _ _ _ _ _ js] at h
  exact h
def request_Reply_L3 (a_70 : Option Addr) (n_70 : Nat) (c_70 : Nat) (x_71 : Int) (bm0 : Nat) (x_m0_0 : Int) (x_m0_1 : Int) (x_m0_2 : Int) (x_m0_3 : Int) (a_m0_4 : Option Addr) (n_m0_4 : Nat) (c_m0_4 : Nat) (a_m0_5 : Option Addr) (n_m0_5 : Nat) (c_m0_5 : Nat) (bm1 : Nat) (bm2 : Nat) (x_72 : Int) (p_m1_0 : Option Addr) (a_m1_1 : Option Addr) (n_m1_1 : Nat) (c_m1_1 : Nat) (x_m2_0 : Int) (K3 : Kh) (R : Value → World → Prop) (w : World) : Prop :=
  w.heap[bm1]? = some (.cells #[(.pointer p_m1_0), (.slice a_m1_1 n_m1_1 c_m1_1)] 147) →
  w.heap[bm2]? = some (.cells #[(.int .i64 x_m2_0)] 3) →
  brB (decide (x_72 < x_71)) (
    ixA a_70 n_70 x_72 2 fun q69 =>
    ldStr w q69 fun s70 => ldInt .i64 w (Addr.add q69 1) fun x71 =>
    ∀ b72, w.heap.size ≤ b72 →
    ∀ w73, Adv [] [b72] w w73 → w73.heap[bm1]? = some (.cells #[(.pointer p_m1_0), (.slice a_m1_1 n_m1_1 c_m1_1)] 147) →
    w73.heap[bm2]? = some (.cells #[(.int .i64 x_m2_0)] 3) →
    w73.heap[b72]? = some (.cells #[(.string s70), (.int .i64 x71)] 29) →
    Calls Try.prog 58 #[(.iface 145 (.pointer (some ⟨bm1, 0, none⟩))), (.pointer (some ⟨b72, 0, none⟩))] w73 fun e w74 => e = .returned (.tuple #[]) ∧ Keep [bm0] w73 w74 ∧ ∃ p75 : Option Addr, ∃ (a76 : Option Addr) (n77 c78 : Nat), w74.heap[bm1]? = some (.cells #[(.pointer p75), (.slice a76 n77 c78)] 147) ∧ ∃ x79 : Int, w74.heap[bm2]? = some (.cells #[(.int .i64 x79)] 3) ∧ ∃ s80 : ByteArray, ∃ x81 : Int, w74.heap[b72]? = some (.cells #[(.string s80), (.int .i64 x81)] 29) ∧
    K3 (request_Reply_v3 a_70 n_70 c_70 x_71 bm1 (IntKind.wrap .i64 (x_72 + 1))) (request_Reply_m3 bm0 x_m0_0 x_m0_1 x_m0_2 x_m0_3 a_m0_4 n_m0_4 c_m0_4 a_m0_5 n_m0_5 c_m0_5 bm1 bm2 p75 a76 n77 c78 x79) w74)
  (
    Calls Try.prog 68 #[(.pointer (some ⟨bm1, 0, none⟩))] w fun e w82 => ∃ s83 : ByteArray, e = .returned (.string s83) ∧ Keep [bm0] w w82 ∧ ∃ p84 : Option Addr, ∃ (a85 : Option Addr) (n86 c87 : Nat), w82.heap[bm1]? = some (.cells #[(.pointer p84), (.slice a85 n86 c87)] 147) ∧ ∃ x88 : Int, w82.heap[bm2]? = some (.cells #[(.int .i64 x88)] 3) ∧
    R (.tuple #[(.string s83), (.int .i64 0)]) w82)
theorem request_Reply_L3_eq (a_70 : Option Addr) (n_70 : Nat) (c_70 : Nat) (x_71 : Int) (bm0 : Nat) (x_m0_0 : Int) (x_m0_1 : Int) (x_m0_2 : Int) (x_m0_3 : Int) (a_m0_4 : Option Addr) (n_m0_4 : Nat) (c_m0_4 : Nat) (a_m0_5 : Option Addr) (n_m0_5 : Nat) (c_m0_5 : Nat) (bm1 : Nat) (bm2 : Nat) (x_72 : Int) (p_m1_0 : Option Addr) (a_m1_1 : Option Addr) (n_m1_1 : Nat) (c_m1_1 : Nat) (x_m2_0 : Int) (K3 : Kh) (js : Nat → Value) (R : Value → World → Prop) (w : World) :
    headA request_Reply_la3 ((dnF Try.prog request_Reply_an (code Try.f50) 391 [0, 0, 1, 0, 1, 1, 1, 1, 1, 1, 1]) (kthen3 (atA request_Reply_la3 K3) (kont3 Try.prog request_Reply_an (code Try.f50) [1, 1, 1, 1, 1, 1, 1, 0, 1, 0] [] (post3 Try.prog Try.f50 [] R)))) (request_Reply_v3 a_70 n_70 c_70 x_71 bm1 x_72) js (request_Reply_m3 bm0 x_m0_0 x_m0_1 x_m0_2 x_m0_3 a_m0_4 n_m0_4 c_m0_4 a_m0_5 n_m0_5 c_m0_5 bm1 bm2 p_m1_0 a_m1_1 n_m1_1 c_m1_1 x_m2_0) w = request_Reply_L3 a_70 n_70 c_70 x_71 bm0 x_m0_0 x_m0_1 x_m0_2 x_m0_3 a_m0_4 n_m0_4 c_m0_4 a_m0_5 n_m0_5 c_m0_5 bm1 bm2 x_72 p_m1_0 a_m1_1 n_m1_1 c_m1_1 x_m2_0 K3 R w := by kernel_rfl
def request_Reply_K3 (a_70 : Option Addr) (n_70 : Nat) (c_70 : Nat) (x_71 : Int) (bm0 : Nat) (x_m0_0 : Int) (x_m0_1 : Int) (x_m0_2 : Int) (x_m0_3 : Int) (a_m0_4 : Option Addr) (n_m0_4 : Nat) (c_m0_4 : Nat) (a_m0_5 : Option Addr) (n_m0_5 : Nat) (c_m0_5 : Nat) (bm1 : Nat) (bm2 : Nat) (I : Nat → Int → Option Addr → Option Addr → Nat → Nat → Int → World → Prop) (m : Nat) (vals : List Value) (mem : List TB) (w : World) : Prop := ∃ m', m' < m ∧ ∃ x_72 p_m1_0 a_m1_1 n_m1_1 c_m1_1 x_m2_0, vals = (request_Reply_v3 a_70 n_70 c_70 x_71 bm1 x_72) ∧ mem = (request_Reply_m3 bm0 x_m0_0 x_m0_1 x_m0_2 x_m0_3 a_m0_4 n_m0_4 c_m0_4 a_m0_5 n_m0_5 c_m0_5 bm1 bm2 p_m1_0 a_m1_1 n_m1_1 c_m1_1 x_m2_0) ∧ I m' x_72 p_m1_0 a_m1_1 n_m1_1 c_m1_1 x_m2_0 w
theorem request_Reply_leaf3 {a_70 : Option Addr} {n_70 : Nat} {c_70 : Nat} {x_71 : Int} {bm0 : Nat} {x_m0_0 : Int} {x_m0_1 : Int} {x_m0_2 : Int} {x_m0_3 : Int} {a_m0_4 : Option Addr} {n_m0_4 : Nat} {c_m0_4 : Nat} {a_m0_5 : Option Addr} {n_m0_5 : Nat} {c_m0_5 : Nat} {bm1 : Nat} {bm2 : Nat} {I : Nat → Int → Option Addr → Option Addr → Nat → Nat → Int → World → Prop} {m : Nat} {x_72 : Int} {p_m1_0 : Option Addr} {a_m1_1 : Option Addr} {n_m1_1 : Nat} {c_m1_1 : Nat} {x_m2_0 : Int} {w : World} (m' : Nat) (h1 : m' < m) (h2 : I m' x_72 p_m1_0 a_m1_1 n_m1_1 c_m1_1 x_m2_0 w) : request_Reply_K3 a_70 n_70 c_70 x_71 bm0 x_m0_0 x_m0_1 x_m0_2 x_m0_3 a_m0_4 n_m0_4 c_m0_4 a_m0_5 n_m0_5 c_m0_5 bm1 bm2 I m (request_Reply_v3 a_70 n_70 c_70 x_71 bm1 x_72) (request_Reply_m3 bm0 x_m0_0 x_m0_1 x_m0_2 x_m0_3 a_m0_4 n_m0_4 c_m0_4 a_m0_5 n_m0_5 c_m0_5 bm1 bm2 p_m1_0 a_m1_1 n_m1_1 c_m1_1 x_m2_0) w := ⟨m', h1, _, _, _, _, _, _, rfl, rfl, h2⟩
theorem request_Reply_rule3 {a_70 : Option Addr} {n_70 : Nat} {c_70 : Nat} {x_71 : Int} {bm0 : Nat} {x_m0_0 : Int} {x_m0_1 : Int} {x_m0_2 : Int} {x_m0_3 : Int} {a_m0_4 : Option Addr} {n_m0_4 : Nat} {c_m0_4 : Nat} {a_m0_5 : Option Addr} {n_m0_5 : Nat} {c_m0_5 : Nat} {bm1 : Nat} {bm2 : Nat} {x_720 : Int} {p_m1_00 : Option Addr} {a_m1_10 : Option Addr} {n_m1_10 : Nat} {c_m1_10 : Nat} {x_m2_00 : Int} {R : Value → World → Prop} {w0 : World} (I : Nat → Int → Option Addr → Option Addr → Nat → Nat → Int → World → Prop) (m0 : Nat) (h0 : I m0 x_720 p_m1_00 a_m1_10 n_m1_10 c_m1_10 x_m2_00 w0)
    (hr : ∀ (m : Nat) (x_72 : Int) (p_m1_0 : Option Addr) (a_m1_1 : Option Addr) (n_m1_1 : Nat) (c_m1_1 : Nat) (x_m2_0 : Int) (w : World), I m x_72 p_m1_0 a_m1_1 n_m1_1 c_m1_1 x_m2_0 w → request_Reply_L3 a_70 n_70 c_70 x_71 bm0 x_m0_0 x_m0_1 x_m0_2 x_m0_3 a_m0_4 n_m0_4 c_m0_4 a_m0_5 n_m0_5 c_m0_5 bm1 bm2 x_72 p_m1_0 a_m1_1 n_m1_1 c_m1_1 x_m2_0 (request_Reply_K3 a_70 n_70 c_70 x_71 bm0 x_m0_0 x_m0_1 x_m0_2 x_m0_3 a_m0_4 n_m0_4 c_m0_4 a_m0_5 n_m0_5 c_m0_5 bm1 bm2 I m) R w) :
    loopD3 request_Reply_la3 (dnF Try.prog request_Reply_an (code Try.f50) 391 [0, 0, 1, 0, 1, 1, 1, 1, 1, 1, 1]) (kont3 Try.prog request_Reply_an (code Try.f50) [1, 1, 1, 1, 1, 1, 1, 0, 1, 0] [] (post3 Try.prog Try.f50 [] R)) (request_Reply_v3 a_70 n_70 c_70 x_71 bm1 x_720) (request_Reply_m3 bm0 x_m0_0 x_m0_1 x_m0_2 x_m0_3 a_m0_4 n_m0_4 c_m0_4 a_m0_5 n_m0_5 c_m0_5 bm1 bm2 p_m1_00 a_m1_10 n_m1_10 c_m1_10 x_m2_00) w0 := by
  refine ⟨fun m vals mem w => ∃ x_72 p_m1_0 a_m1_1 n_m1_1 c_m1_1 x_m2_0, vals = (request_Reply_v3 a_70 n_70 c_70 x_71 bm1 x_72) ∧ mem = (request_Reply_m3 bm0 x_m0_0 x_m0_1 x_m0_2 x_m0_3 a_m0_4 n_m0_4 c_m0_4 a_m0_5 n_m0_5 c_m0_5 bm1 bm2 p_m1_0 a_m1_1 n_m1_1 c_m1_1 x_m2_0) ∧ I m x_72 p_m1_0 a_m1_1 n_m1_1 c_m1_1 x_m2_0 w, m0, ⟨_, _, _, _, _, _, rfl, rfl, h0⟩, ?_⟩
  rintro m vals mem w ⟨x_72, p_m1_0, a_m1_1, n_m1_1, c_m1_1, x_m2_0, rfl, rfl, hI⟩
  refine ⟨rfl, rfl, fun js => ?_⟩
  have h := hr m x_72 p_m1_0 a_m1_1 n_m1_1 c_m1_1 x_m2_0 w hI
  rw [← request_Reply_L3_eq _ _ _ _ _ _ _ _ _ _ _ _ _ _ _ _ _ _ _ _ _ _ _ _ js] at h
  exact h
/-- stagecoach/request.Reply -/
def request_Reply_T (a0_r_0 : Int) (a0_r_1 : Int) (a0_r_2 : Int) (a0_r_3 : Int) (a0_r_4_a : Option Addr) (a0_r_4_n : Nat) (a0_r_4_c : Nat) (a0_r_5_a : Option Addr) (a0_r_5_n : Nat) (a0_r_5_c : Nat) (R : Value → World → Prop) (w : World) : Prop :=
  ∀ b1, w.heap.size ≤ b1 →
  ∀ w2, Adv [] [b1] w w2 →
  Calls Try.prog 69 #[(.agg #[(.int .i64 a0_r_0), (.int .i64 a0_r_1), (.int .i64 a0_r_2), (.int .i64 a0_r_3), (.slice a0_r_4_a a0_r_4_n a0_r_4_c), (.slice a0_r_5_a a0_r_5_n a0_r_5_c)])] w2 fun e w3 => ∃ x4 : Int, e = .returned (.int .i64 x4) ∧ Keep [b1] w2 w3 ∧
  brB (x4 != 0) (
    R (.tuple #[(.string (⟨#[]⟩ : ByteArray)), (.int .i64 x4)]) w3)
  (
    ∀ b5, w3.heap.size ≤ b5 →
    ∀ w6, Adv [] [b5] w3 w6 →
    al w6 (.cells #[(.int .i64 a0_r_0), (.int .i64 a0_r_1), (.int .i64 a0_r_2), (.int .i64 a0_r_3), (.int .i64 (a0_r_4_n : Int))] 3) fun b7 w8 =>
    ∀ w89, Adv [] [] w8 w89 → w89.heap[b5]? = some (.cells #[(.pointer none), (.slice none 0 0)] 147) →
    loopD3 request_Reply_la1 (dnF Try.prog request_Reply_an (code Try.f50) 395 [0, 0, 1, 0, 1, 1, 1]) (kont3 Try.prog request_Reply_an (code Try.f50) [1, 1, 1, 0, 1, 0] [] (post3 Try.prog Try.f50 [] R)) (request_Reply_v1 (some ⟨b7, 0, none⟩) 5 5 b1 b5 0) (request_Reply_m1 b1 a0_r_0 a0_r_1 a0_r_2 a0_r_3 a0_r_4_a a0_r_4_n a0_r_4_c a0_r_5_a a0_r_5_n a0_r_5_c b5 none none 0 0) w89)
theorem request_Reply_eq (a0_r_0 : Int) (a0_r_1 : Int) (a0_r_2 : Int) (a0_r_3 : Int) (a0_r_4_a : Option Addr) (a0_r_4_n : Nat) (a0_r_4_c : Nat) (a0_r_5_a : Option Addr) (a0_r_5_n : Nat) (a0_r_5_c : Nat) (R : Value → World → Prop) (w : World) :
    dnF Try.prog request_Reply_an (code Try.f50) 400 [] (post3 Try.prog Try.f50 [] R) ⟨args0 0 [(.agg #[(.int .i64 a0_r_0), (.int .i64 a0_r_1), (.int .i64 a0_r_2), (.int .i64 a0_r_3), (.slice a0_r_4_a a0_r_4_n a0_r_4_c), (.slice a0_r_5_a a0_r_5_n a0_r_5_c)])], fun _ => undef⟩ ⟨[], w, [], [], true⟩ = request_Reply_T a0_r_0 a0_r_1 a0_r_2 a0_r_3 a0_r_4_a a0_r_4_n a0_r_4_c a0_r_5_a a0_r_5_n a0_r_5_c R w := by kernel_rfl
theorem request_Reply_go {a0_r_0 : Int} {a0_r_1 : Int} {a0_r_2 : Int} {a0_r_3 : Int} {a0_r_4_a : Option Addr} {a0_r_4_n : Nat} {a0_r_4_c : Nat} {a0_r_5_a : Option Addr} {a0_r_5_n : Nat} {a0_r_5_c : Nat} {R : Value → World → Prop} {w : World} (h : request_Reply_T a0_r_0 a0_r_1 a0_r_2 a0_r_3 a0_r_4_a a0_r_4_n a0_r_4_c a0_r_5_a a0_r_5_n a0_r_5_c R w) :
    Calls Try.prog 50 #[(.agg #[(.int .i64 a0_r_0), (.int .i64 a0_r_1), (.int .i64 a0_r_2), (.int .i64 a0_r_3), (.slice a0_r_4_a a0_r_4_n a0_r_4_c), (.slice a0_r_5_a a0_r_5_n a0_r_5_c)])] w fun e w' => ∃ v, e = .returned v ∧ R v w' :=
  calls_none Try.wide_mixed (f := 50) (args := [(.agg #[(.int .i64 a0_r_0), (.int .i64 a0_r_1), (.int .i64 a0_r_2), (.int .i64 a0_r_3), (.slice a0_r_4_a a0_r_4_n a0_r_4_c), (.slice a0_r_5_a a0_r_5_n a0_r_5_c)])]) Try.func50 rfl rfl (by kernel_rfl) rfl (Eq.mpr (request_Reply_eq a0_r_0 a0_r_1 a0_r_2 a0_r_3 a0_r_4_a a0_r_4_n a0_r_4_c a0_r_5_a a0_r_5_n a0_r_5_c R w) h)

end Go.Proofs.Ytohgihgddknmmaa
