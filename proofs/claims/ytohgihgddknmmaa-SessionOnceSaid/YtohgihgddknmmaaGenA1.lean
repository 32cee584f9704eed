/- The conditions of Go functions' bodies, printed by gen2.py. -/
import Derived.Test.YtohgihgddknmmaaTrkS
namespace Go.Proofs.Ytohgihgddknmmaa
open Go Go.RowKit
set_option linter.unusedVariables false
set_option maxRecDepth 100000

def record_number_an : List LA := []
/-- stagecoach/record.number -/
def record_number_T (a0_n : Int) (R : Value → World → Prop) (w : World) : Prop :=
  brB (decide (a0_n ≥ 0)) (
    R (.bool (decide (a0_n ≤ 1099511627776))) w)
  (
    R (.bool false) w)
theorem record_number_eq (a0_n : Int) (R : Value → World → Prop) (w : World) :
    dnF Try.prog record_number_an (code Try.f119) 400 [] (post3 Try.prog Try.f119 [] R) ⟨args0 0 [(.int .i64 a0_n)], fun _ => undef⟩ ⟨[], w, [], [], true⟩ = record_number_T a0_n R w := by kernel_rfl
theorem record_number_go {a0_n : Int} {R : Value → World → Prop} {w : World} (h : record_number_T a0_n R w) :
    Calls Try.prog 119 #[(.int .i64 a0_n)] w fun e w' => ∃ v, e = .returned v ∧ R v w' :=
  calls_none Try.wide_mixed (f := 119) (args := [(.int .i64 a0_n)]) Try.func119 rfl rfl (by kernel_rfl) rfl (Eq.mpr (record_number_eq a0_n R w) h)
def record_All_la1 : LA := ⟨[0, 0, 1, 0, 1, 1], [34, 35, 36], [], 1, []⟩
def record_All_an : List LA := [record_All_la1]
def record_All_v1 (a_34 : Option Addr) (n_34 : Nat) (c_34 : Nat) (x_35 : Int) (x_36 : Int) : List Value := [(.slice a_34 n_34 c_34), (.int .i64 x_35), (.int .i64 x_36)]
def record_All_m1 (bm0 : Nat) (x_m0_0 : Int) (x_m0_1 : Int) (x_m0_2 : Int) (a_m0_3 : Option Addr) (n_m0_3 : Nat) (c_m0_3 : Nat) : List TB := [⟨bm0, 32, [(.int .i64 x_m0_0), (.int .i64 x_m0_1), (.int .i64 x_m0_2), (.slice a_m0_3 n_m0_3 c_m0_3)], false⟩]
def record_All_L1 (a_34 : Option Addr) (n_34 : Nat) (c_34 : Nat) (x_35 : Int) (bm0 : Nat) (x_m0_0 : Int) (x_m0_1 : Int) (x_m0_2 : Int) (a_m0_3 : Option Addr) (n_m0_3 : Nat) (c_m0_3 : Nat) (x_36 : Int) (K1 : Kh) (R : Value → World → Prop) (w : World) : Prop :=
  brB (decide (x_36 < x_35)) (
    ixA a_34 n_34 x_36 4 fun q9 =>
    ldBool w q9 fun t10 => ldStr w (Addr.add q9 1) fun s11 => ldBool w (Addr.add q9 2) fun t12 => ldStr w (Addr.add q9 3) fun s13 =>
    ∀ b14, w.heap.size ≤ b14 →
    ∀ w15, Adv [] [b14] w w15 →
    Calls Try.prog 81 #[(.agg #[(.bool t10), (.string s11), (.bool t12), (.string s13)])] w15 fun e w16 => ∃ x17 : Int, e = .returned (.int .i64 x17) ∧ Keep [bm0, b14] w15 w16 ∧
    brB (x17 != 0) (
      R (.int .i64 x17) w16)
    (
      K1 (record_All_v1 a_34 n_34 c_34 x_35 (IntKind.wrap .i64 (x_36 + 1))) (record_All_m1 bm0 x_m0_0 x_m0_1 x_m0_2 a_m0_3 n_m0_3 c_m0_3) w16))
  (
    R (.int .i64 0) w)
theorem record_All_L1_eq (a_34 : Option Addr) (n_34 : Nat) (c_34 : Nat) (x_35 : Int) (bm0 : Nat) (x_m0_0 : Int) (x_m0_1 : Int) (x_m0_2 : Int) (a_m0_3 : Option Addr) (n_m0_3 : Nat) (c_m0_3 : Nat) (x_36 : Int) (K1 : Kh) (js : Nat → Value) (R : Value → World → Prop) (w : World) :
    headA record_All_la1 ((dnF Try.prog record_All_an (code Try.f116) 396 [0, 0, 1, 0, 1, 1]) (kthen3 (atA record_All_la1 K1) (kont3 Try.prog record_All_an (code Try.f116) [1, 1, 0, 1, 0] [] (post3 Try.prog Try.f116 [] R)))) (record_All_v1 a_34 n_34 c_34 x_35 x_36) js (record_All_m1 bm0 x_m0_0 x_m0_1 x_m0_2 a_m0_3 n_m0_3 c_m0_3) w = record_All_L1 a_34 n_34 c_34 x_35 bm0 x_m0_0 x_m0_1 x_m0_2 a_m0_3 n_m0_3 c_m0_3 x_36 K1 R w := by kernel_rfl
def record_All_K1 (a_34 : Option Addr) (n_34 : Nat) (c_34 : Nat) (x_35 : Int) (bm0 : Nat) (x_m0_0 : Int) (x_m0_1 : Int) (x_m0_2 : Int) (a_m0_3 : Option Addr) (n_m0_3 : Nat) (c_m0_3 : Nat) (I : Nat → Int → World → Prop) (m : Nat) (vals : List Value) (mem : List TB) (w : World) : Prop := ∃ m', m' < m ∧ ∃ x_36, vals = (record_All_v1 a_34 n_34 c_34 x_35 x_36) ∧ mem = (record_All_m1 bm0 x_m0_0 x_m0_1 x_m0_2 a_m0_3 n_m0_3 c_m0_3) ∧ I m' x_36 w
theorem record_All_leaf1 {a_34 : Option Addr} {n_34 : Nat} {c_34 : Nat} {x_35 : Int} {bm0 : Nat} {x_m0_0 : Int} {x_m0_1 : Int} {x_m0_2 : Int} {a_m0_3 : Option Addr} {n_m0_3 : Nat} {c_m0_3 : Nat} {I : Nat → Int → World → Prop} {m : Nat} {x_36 : Int} {w : World} (m' : Nat) (h1 : m' < m) (h2 : I m' x_36 w) : record_All_K1 a_34 n_34 c_34 x_35 bm0 x_m0_0 x_m0_1 x_m0_2 a_m0_3 n_m0_3 c_m0_3 I m (record_All_v1 a_34 n_34 c_34 x_35 x_36) (record_All_m1 bm0 x_m0_0 x_m0_1 x_m0_2 a_m0_3 n_m0_3 c_m0_3) w := ⟨m', h1, _, rfl, rfl, h2⟩
theorem record_All_rule1 {a_34 : Option Addr} {n_34 : Nat} {c_34 : Nat} {x_35 : Int} {bm0 : Nat} {x_m0_0 : Int} {x_m0_1 : Int} {x_m0_2 : Int} {a_m0_3 : Option Addr} {n_m0_3 : Nat} {c_m0_3 : Nat} {x_360 : Int} {R : Value → World → Prop} {w0 : World} (I : Nat → Int → World → Prop) (m0 : Nat) (h0 : I m0 x_360 w0)
    (hr : ∀ (m : Nat) (x_36 : Int) (w : World), I m x_36 w → record_All_L1 a_34 n_34 c_34 x_35 bm0 x_m0_0 x_m0_1 x_m0_2 a_m0_3 n_m0_3 c_m0_3 x_36 (record_All_K1 a_34 n_34 c_34 x_35 bm0 x_m0_0 x_m0_1 x_m0_2 a_m0_3 n_m0_3 c_m0_3 I m) R w) :
    loopD3 record_All_la1 (dnF Try.prog record_All_an (code Try.f116) 396 [0, 0, 1, 0, 1, 1]) (kont3 Try.prog record_All_an (code Try.f116) [1, 1, 0, 1, 0] [] (post3 Try.prog Try.f116 [] R)) (record_All_v1 a_34 n_34 c_34 x_35 x_360) (record_All_m1 bm0 x_m0_0 x_m0_1 x_m0_2 a_m0_3 n_m0_3 c_m0_3) w0 := by
  refine ⟨fun m vals mem w => ∃ x_36, vals = (record_All_v1 a_34 n_34 c_34 x_35 x_36) ∧ mem = (record_All_m1 bm0 x_m0_0 x_m0_1 x_m0_2 a_m0_3 n_m0_3 c_m0_3) ∧ I m x_36 w, m0, ⟨_, rfl, rfl, h0⟩, ?_⟩
  rintro m vals mem w ⟨x_36, rfl, rfl, hI⟩
  refine ⟨rfl, rfl, fun js => ?_⟩
  have h := hr m x_36 w hI
  rw [← record_All_L1_eq _ _ _ _ _ _ _ _ _ _ _ _ _ js] at h
  exact h
/-- stagecoach/record.All -/
def record_All_T (a0_b_0 : Int) (a0_b_1 : Int) (a0_b_2 : Int) (a0_b_3_a : Option Addr) (a0_b_3_n : Nat) (a0_b_3_c : Nat) (R : Value → World → Prop) (w : World) : Prop :=
  ∀ b1, w.heap.size ≤ b1 →
  ∀ w2, Adv [] [b1] w w2 →
  Calls Try.prog 119 #[(.int .i64 a0_b_0)] w2 fun e w3 => ∃ t4 : Bool, e = .returned (.bool t4) ∧ Keep [b1] w2 w3 ∧
  brB (!t4) (
    R (.int .i64 1) w3)
  (
    Calls Try.prog 119 #[(.int .i64 a0_b_1)] w3 fun e w5 => ∃ t6 : Bool, e = .returned (.bool t6) ∧ Keep [b1] w3 w5 ∧
    brB (!t6) (
      R (.int .i64 1) w5)
    (
      Calls Try.prog 119 #[(.int .i64 a0_b_2)] w5 fun e w7 => ∃ t8 : Bool, e = .returned (.bool t8) ∧ Keep [b1] w5 w7 ∧
      brB (!t8) (
        R (.int .i64 1) w7)
      (
        brB ((a0_b_3_n : Int) == 0) (
          R (.int .i64 30) w7)
        (
          brB (decide ((a0_b_3_n : Int) > 16)) (
            R (.int .i64 2) w7)
          (
            loopD3 record_All_la1 (dnF Try.prog record_All_an (code Try.f116) 396 [0, 0, 1, 0, 1, 1]) (kont3 Try.prog record_All_an (code Try.f116) [1, 1, 0, 1, 0] [] (post3 Try.prog Try.f116 [] R)) (record_All_v1 a0_b_3_a a0_b_3_n a0_b_3_c (a0_b_3_n : Int) 0) (record_All_m1 b1 a0_b_0 a0_b_1 a0_b_2 a0_b_3_a a0_b_3_n a0_b_3_c) w7)))))
theorem record_All_eq (a0_b_0 : Int) (a0_b_1 : Int) (a0_b_2 : Int) (a0_b_3_a : Option Addr) (a0_b_3_n : Nat) (a0_b_3_c : Nat) (R : Value → World → Prop) (w : World) :
    dnF Try.prog record_All_an (code Try.f116) 400 [] (post3 Try.prog Try.f116 [] R) ⟨args0 0 [(.agg #[(.int .i64 a0_b_0), (.int .i64 a0_b_1), (.int .i64 a0_b_2), (.slice a0_b_3_a a0_b_3_n a0_b_3_c)])], fun _ => undef⟩ ⟨[], w, [], [], true⟩ = record_All_T a0_b_0 a0_b_1 a0_b_2 a0_b_3_a a0_b_3_n a0_b_3_c R w := by kernel_rfl
theorem record_All_go {a0_b_0 : Int} {a0_b_1 : Int} {a0_b_2 : Int} {a0_b_3_a : Option Addr} {a0_b_3_n : Nat} {a0_b_3_c : Nat} {R : Value → World → Prop} {w : World} (h : record_All_T a0_b_0 a0_b_1 a0_b_2 a0_b_3_a a0_b_3_n a0_b_3_c R w) :
    Calls Try.prog 116 #[(.agg #[(.int .i64 a0_b_0), (.int .i64 a0_b_1), (.int .i64 a0_b_2), (.slice a0_b_3_a a0_b_3_n a0_b_3_c)])] w fun e w' => ∃ v, e = .returned v ∧ R v w' :=
  calls_none Try.wide_mixed (f := 116) (args := [(.agg #[(.int .i64 a0_b_0), (.int .i64 a0_b_1), (.int .i64 a0_b_2), (.slice a0_b_3_a a0_b_3_n a0_b_3_c)])]) Try.func116 rfl rfl (by kernel_rfl) rfl (Eq.mpr (record_All_eq a0_b_0 a0_b_1 a0_b_2 a0_b_3_a a0_b_3_n a0_b_3_c R w) h)
def ref03_All_la1 : LA := ⟨[0, 0, 1, 0, 1, 1, 1, 1], [1, 3], [(1, 0, 0)], 1, []⟩
def ref03_All_an : List LA := [ref03_All_la1]
def ref03_All_v1 (bm0 : Nat) (x_3 : Int) : List Value := [(.pointer (some ⟨bm0, 0, none⟩)), (.int .i64 x_3)]
def ref03_All_m1 (bm0 : Nat) (x_m0_0 : Int) (x_m0_1 : Int) (x_m0_2 : Int) (a_m0_3 : Option Addr) (n_m0_3 : Nat) (c_m0_3 : Nat) : List TB := [⟨bm0, 32, [(.int .i64 x_m0_0), (.int .i64 x_m0_1), (.int .i64 x_m0_2), (.slice a_m0_3 n_m0_3 c_m0_3)], false⟩]
def ref03_All_L1 (bm0 : Nat) (x_m0_0 : Int) (x_m0_1 : Int) (x_m0_2 : Int) (a_m0_3 : Option Addr) (n_m0_3 : Nat) (c_m0_3 : Nat) (x_3 : Int) (K1 : Kh) (R : Value → World → Prop) (w : World) : Prop :=
  brB (decide (x_3 < (n_m0_3 : Int))) (
    ixA a_m0_3 n_m0_3 x_3 4 fun q9 =>
    ldBool w q9 fun t10 => ldStr w (Addr.add q9 1) fun s11 => ldBool w (Addr.add q9 2) fun t12 => ldStr w (Addr.add q9 3) fun s13 =>
    Calls Try.prog 44 #[(.agg #[(.bool t10), (.string s11), (.bool t12), (.string s13)])] w fun e w14 => ∃ x15 : Int, e = .returned (.int .i64 x15) ∧ Keep [bm0] w w14 ∧
    brB (x15 != 0) (
      R (.int .i64 x15) w14)
    (
      K1 (ref03_All_v1 bm0 (IntKind.wrap .i64 (x_3 + 1))) (ref03_All_m1 bm0 x_m0_0 x_m0_1 x_m0_2 a_m0_3 n_m0_3 c_m0_3) w14))
  (
    R (.int .i64 0) w)
theorem ref03_All_L1_eq (bm0 : Nat) (x_m0_0 : Int) (x_m0_1 : Int) (x_m0_2 : Int) (a_m0_3 : Option Addr) (n_m0_3 : Nat) (c_m0_3 : Nat) (x_3 : Int) (K1 : Kh) (js : Nat → Value) (R : Value → World → Prop) (w : World) :
    headA ref03_All_la1 ((dnF Try.prog ref03_All_an (code Try.f27) 394 [0, 0, 1, 0, 1, 1, 1, 1]) (kthen3 (atA ref03_All_la1 K1) (kont3 Try.prog ref03_All_an (code Try.f27) [1, 1, 1, 1, 0, 1, 0] [] (post3 Try.prog Try.f27 [] R)))) (ref03_All_v1 bm0 x_3) js (ref03_All_m1 bm0 x_m0_0 x_m0_1 x_m0_2 a_m0_3 n_m0_3 c_m0_3) w = ref03_All_L1 bm0 x_m0_0 x_m0_1 x_m0_2 a_m0_3 n_m0_3 c_m0_3 x_3 K1 R w := by kernel_rfl
def ref03_All_K1 (bm0 : Nat) (x_m0_0 : Int) (x_m0_1 : Int) (x_m0_2 : Int) (a_m0_3 : Option Addr) (n_m0_3 : Nat) (c_m0_3 : Nat) (I : Nat → Int → World → Prop) (m : Nat) (vals : List Value) (mem : List TB) (w : World) : Prop := ∃ m', m' < m ∧ ∃ x_3, vals = (ref03_All_v1 bm0 x_3) ∧ mem = (ref03_All_m1 bm0 x_m0_0 x_m0_1 x_m0_2 a_m0_3 n_m0_3 c_m0_3) ∧ I m' x_3 w
theorem ref03_All_leaf1 {bm0 : Nat} {x_m0_0 : Int} {x_m0_1 : Int} {x_m0_2 : Int} {a_m0_3 : Option Addr} {n_m0_3 : Nat} {c_m0_3 : Nat} {I : Nat → Int → World → Prop} {m : Nat} {x_3 : Int} {w : World} (m' : Nat) (h1 : m' < m) (h2 : I m' x_3 w) : ref03_All_K1 bm0 x_m0_0 x_m0_1 x_m0_2 a_m0_3 n_m0_3 c_m0_3 I m (ref03_All_v1 bm0 x_3) (ref03_All_m1 bm0 x_m0_0 x_m0_1 x_m0_2 a_m0_3 n_m0_3 c_m0_3) w := ⟨m', h1, _, rfl, rfl, h2⟩
theorem ref03_All_rule1 {bm0 : Nat} {x_m0_0 : Int} {x_m0_1 : Int} {x_m0_2 : Int} {a_m0_3 : Option Addr} {n_m0_3 : Nat} {c_m0_3 : Nat} {x_30 : Int} {R : Value → World → Prop} {w0 : World} (I : Nat → Int → World → Prop) (m0 : Nat) (h0 : I m0 x_30 w0)
    (hr : ∀ (m : Nat) (x_3 : Int) (w : World), I m x_3 w → ref03_All_L1 bm0 x_m0_0 x_m0_1 x_m0_2 a_m0_3 n_m0_3 c_m0_3 x_3 (ref03_All_K1 bm0 x_m0_0 x_m0_1 x_m0_2 a_m0_3 n_m0_3 c_m0_3 I m) R w) :
    loopD3 ref03_All_la1 (dnF Try.prog ref03_All_an (code Try.f27) 394 [0, 0, 1, 0, 1, 1, 1, 1]) (kont3 Try.prog ref03_All_an (code Try.f27) [1, 1, 1, 1, 0, 1, 0] [] (post3 Try.prog Try.f27 [] R)) (ref03_All_v1 bm0 x_30) (ref03_All_m1 bm0 x_m0_0 x_m0_1 x_m0_2 a_m0_3 n_m0_3 c_m0_3) w0 := by
  refine ⟨fun m vals mem w => ∃ x_3, vals = (ref03_All_v1 bm0 x_3) ∧ mem = (ref03_All_m1 bm0 x_m0_0 x_m0_1 x_m0_2 a_m0_3 n_m0_3 c_m0_3) ∧ I m x_3 w, m0, ⟨_, rfl, rfl, h0⟩, ?_⟩
  rintro m vals mem w ⟨x_3, rfl, rfl, hI⟩
  refine ⟨rfl, rfl, fun js => ?_⟩
  have h := hr m x_3 w hI
  rw [← ref03_All_L1_eq _ _ _ _ _ _ _ _ _ js] at h
  exact h
/-- stagecoach/stagecoachref03.All -/
def ref03_All_T (a0_b_0 : Int) (a0_b_1 : Int) (a0_b_2 : Int) (a0_b_3_a : Option Addr) (a0_b_3_n : Nat) (a0_b_3_c : Nat) (R : Value → World → Prop) (w : World) : Prop :=
  ∀ b1, w.heap.size ≤ b1 →
  ∀ w2, Adv [] [b1] w w2 →
  Calls Try.prog 26 #[(.int .i64 a0_b_0)] w2 fun e w3 => ∃ t4 : Bool, e = .returned (.bool t4) ∧ Keep [b1] w2 w3 ∧
  brB (!t4) (
    R (.int .i64 1) w3)
  (
    Calls Try.prog 26 #[(.int .i64 a0_b_1)] w3 fun e w5 => ∃ t6 : Bool, e = .returned (.bool t6) ∧ Keep [b1] w3 w5 ∧
    brB (!t6) (
      R (.int .i64 1) w5)
    (
      Calls Try.prog 26 #[(.int .i64 a0_b_2)] w5 fun e w7 => ∃ t8 : Bool, e = .returned (.bool t8) ∧ Keep [b1] w5 w7 ∧
      brB (!t8) (
        R (.int .i64 1) w7)
      (
        brB ((a0_b_3_n : Int) == 0) (
          R (.int .i64 30) w7)
        (
          brB (decide ((a0_b_3_n : Int) > 16)) (
            R (.int .i64 2) w7)
          (
            loopD3 ref03_All_la1 (dnF Try.prog ref03_All_an (code Try.f27) 394 [0, 0, 1, 0, 1, 1, 1, 1]) (kont3 Try.prog ref03_All_an (code Try.f27) [1, 1, 1, 1, 0, 1, 0] [] (post3 Try.prog Try.f27 [] R)) (ref03_All_v1 b1 0) (ref03_All_m1 b1 a0_b_0 a0_b_1 a0_b_2 a0_b_3_a a0_b_3_n a0_b_3_c) w7)))))
theorem ref03_All_eq (a0_b_0 : Int) (a0_b_1 : Int) (a0_b_2 : Int) (a0_b_3_a : Option Addr) (a0_b_3_n : Nat) (a0_b_3_c : Nat) (R : Value → World → Prop) (w : World) :
    dnF Try.prog ref03_All_an (code Try.f27) 400 [] (post3 Try.prog Try.f27 [] R) ⟨args0 0 [(.agg #[(.int .i64 a0_b_0), (.int .i64 a0_b_1), (.int .i64 a0_b_2), (.slice a0_b_3_a a0_b_3_n a0_b_3_c)])], fun _ => undef⟩ ⟨[], w, [], [], true⟩ = ref03_All_T a0_b_0 a0_b_1 a0_b_2 a0_b_3_a a0_b_3_n a0_b_3_c R w := by kernel_rfl
theorem ref03_All_go {a0_b_0 : Int} {a0_b_1 : Int} {a0_b_2 : Int} {a0_b_3_a : Option Addr} {a0_b_3_n : Nat} {a0_b_3_c : Nat} {R : Value → World → Prop} {w : World} (h : ref03_All_T a0_b_0 a0_b_1 a0_b_2 a0_b_3_a a0_b_3_n a0_b_3_c R w) :
    Calls Try.prog 27 #[(.agg #[(.int .i64 a0_b_0), (.int .i64 a0_b_1), (.int .i64 a0_b_2), (.slice a0_b_3_a a0_b_3_n a0_b_3_c)])] w fun e w' => ∃ v, e = .returned v ∧ R v w' :=
  calls_none Try.wide_mixed (f := 27) (args := [(.agg #[(.int .i64 a0_b_0), (.int .i64 a0_b_1), (.int .i64 a0_b_2), (.slice a0_b_3_a a0_b_3_n a0_b_3_c)])]) Try.func27 rfl rfl (by kernel_rfl) rfl (Eq.mpr (ref03_All_eq a0_b_0 a0_b_1 a0_b_2 a0_b_3_a a0_b_3_n a0_b_3_c R w) h)
def ref03_Records_la1 : LA := ⟨[0, 0, 1, 0, 1, 1], [0, 1, 5], [], 0, []⟩
def ref03_Records_an : List LA := [ref03_Records_la1]
def ref03_Records_v1 (a_0 : Option Addr) (n_0 : Nat) (c_0 : Nat) (a_1 : Option Addr) (n_1 : Nat) (c_1 : Nat) (x_5 : Int) : List Value := [(.slice a_0 n_0 c_0), (.slice a_1 n_1 c_1), (.int .i64 x_5)]
def ref03_Records_m1 : List TB := []
def ref03_Records_L1 (a_0 : Option Addr) (n_0 : Nat) (c_0 : Nat) (a_1 : Option Addr) (n_1 : Nat) (c_1 : Nat) (x_5 : Int) (K1 : Kh) (R : Value → World → Prop) (w : World) : Prop :=
  brB (decide (x_5 < (n_0 : Int))) (
    ixA a_0 n_0 x_5 4 fun q1 =>
    ldBool w q1 fun t2 => ldStr w (Addr.add q1 1) fun s3 => ldBool w (Addr.add q1 2) fun t4 => ldStr w (Addr.add q1 3) fun s5 =>
    ixA a_1 n_1 x_5 4 fun q6 =>
    ldBool w q6 fun t7 => ldStr w (Addr.add q6 1) fun s8 => ldBool w (Addr.add q6 2) fun t9 => ldStr w (Addr.add q6 3) fun s10 =>
    ∃ t11 : Bool, (∀ w', Mod [] w w' → Sem.run Try.prog (do eqGuard .neq 90 (.tmp 20) (.tmp 24) (.agg #[(.bool t2), (.string s3), (.bool t4), (.string s5)]) (.agg #[(.bool t7), (.string s8), (.bool t9), (.string s10)]); Go.binOp .neq 90 (.agg #[(.bool t2), (.string s3), (.bool t4), (.string s5)]) (.agg #[(.bool t7), (.string s8), (.bool t9), (.string s10)])) w' = .ok (.bool t11) w') ∧
    brB t11 (
      ∀ w12, Adv [] [] w w12 →
      R (.bool false) w12)
    (
      ∀ w13, Adv [] [] w w13 →
      K1 (ref03_Records_v1 a_0 n_0 c_0 a_1 n_1 c_1 (IntKind.wrap .i64 (x_5 + 1))) (ref03_Records_m1) w13))
  (
    R (.bool true) w)
theorem ref03_Records_L1_eq (a_0 : Option Addr) (n_0 : Nat) (c_0 : Nat) (a_1 : Option Addr) (n_1 : Nat) (c_1 : Nat) (x_5 : Int) (K1 : Kh) (js : Nat → Value) (R : Value → World → Prop) (w : World) :
    headA ref03_Records_la1 ((dnF Try.prog ref03_Records_an (code Try.f47) 396 [0, 0, 1, 0, 1, 1]) (kthen3 (atA ref03_Records_la1 K1) (kont3 Try.prog ref03_Records_an (code Try.f47) [1, 1, 0, 1, 0] [] (post3 Try.prog Try.f47 [] R)))) (ref03_Records_v1 a_0 n_0 c_0 a_1 n_1 c_1 x_5) js (ref03_Records_m1) w = ref03_Records_L1 a_0 n_0 c_0 a_1 n_1 c_1 x_5 K1 R w := by kernel_rfl
def ref03_Records_K1 (a_0 : Option Addr) (n_0 : Nat) (c_0 : Nat) (a_1 : Option Addr) (n_1 : Nat) (c_1 : Nat) (I : Nat → Int → World → Prop) (m : Nat) (vals : List Value) (mem : List TB) (w : World) : Prop := ∃ m', m' < m ∧ ∃ x_5, vals = (ref03_Records_v1 a_0 n_0 c_0 a_1 n_1 c_1 x_5) ∧ mem = (ref03_Records_m1) ∧ I m' x_5 w
theorem ref03_Records_leaf1 {a_0 : Option Addr} {n_0 : Nat} {c_0 : Nat} {a_1 : Option Addr} {n_1 : Nat} {c_1 : Nat} {I : Nat → Int → World → Prop} {m : Nat} {x_5 : Int} {w : World} (m' : Nat) (h1 : m' < m) (h2 : I m' x_5 w) : ref03_Records_K1 a_0 n_0 c_0 a_1 n_1 c_1 I m (ref03_Records_v1 a_0 n_0 c_0 a_1 n_1 c_1 x_5) (ref03_Records_m1) w := ⟨m', h1, _, rfl, rfl, h2⟩
theorem ref03_Records_rule1 {a_0 : Option Addr} {n_0 : Nat} {c_0 : Nat} {a_1 : Option Addr} {n_1 : Nat} {c_1 : Nat} {x_50 : Int} {R : Value → World → Prop} {w0 : World} (I : Nat → Int → World → Prop) (m0 : Nat) (h0 : I m0 x_50 w0)
    (hr : ∀ (m : Nat) (x_5 : Int) (w : World), I m x_5 w → ref03_Records_L1 a_0 n_0 c_0 a_1 n_1 c_1 x_5 (ref03_Records_K1 a_0 n_0 c_0 a_1 n_1 c_1 I m) R w) :
    loopD3 ref03_Records_la1 (dnF Try.prog ref03_Records_an (code Try.f47) 396 [0, 0, 1, 0, 1, 1]) (kont3 Try.prog ref03_Records_an (code Try.f47) [1, 1, 0, 1, 0] [] (post3 Try.prog Try.f47 [] R)) (ref03_Records_v1 a_0 n_0 c_0 a_1 n_1 c_1 x_50) (ref03_Records_m1) w0 := by
  refine ⟨fun m vals mem w => ∃ x_5, vals = (ref03_Records_v1 a_0 n_0 c_0 a_1 n_1 c_1 x_5) ∧ mem = (ref03_Records_m1) ∧ I m x_5 w, m0, ⟨_, rfl, rfl, h0⟩, ?_⟩
  rintro m vals mem w ⟨x_5, rfl, rfl, hI⟩
  refine ⟨rfl, rfl, fun js => ?_⟩
  have h := hr m x_5 w hI
  rw [← ref03_Records_L1_eq _ _ _ _ _ _ _ _ js] at h
  exact h
/-- stagecoach/stagecoachref03.Records -/
def ref03_Records_T (a0_a_a : Option Addr) (a0_a_n : Nat) (a0_a_c : Nat) (a1_b_a : Option Addr) (a1_b_n : Nat) (a1_b_c : Nat) (R : Value → World → Prop) (w : World) : Prop :=
  brB ((a0_a_n : Int) != (a1_b_n : Int)) (
    R (.bool false) w)
  (
    loopD3 ref03_Records_la1 (dnF Try.prog ref03_Records_an (code Try.f47) 396 [0, 0, 1, 0, 1, 1]) (kont3 Try.prog ref03_Records_an (code Try.f47) [1, 1, 0, 1, 0] [] (post3 Try.prog Try.f47 [] R)) (ref03_Records_v1 a0_a_a a0_a_n a0_a_c a1_b_a a1_b_n a1_b_c 0) (ref03_Records_m1) w)
theorem ref03_Records_eq (a0_a_a : Option Addr) (a0_a_n : Nat) (a0_a_c : Nat) (a1_b_a : Option Addr) (a1_b_n : Nat) (a1_b_c : Nat) (R : Value → World → Prop) (w : World) :
    dnF Try.prog ref03_Records_an (code Try.f47) 400 [] (post3 Try.prog Try.f47 [] R) ⟨args0 0 [(.slice a0_a_a a0_a_n a0_a_c), (.slice a1_b_a a1_b_n a1_b_c)], fun _ => undef⟩ ⟨[], w, [], [], true⟩ = ref03_Records_T a0_a_a a0_a_n a0_a_c a1_b_a a1_b_n a1_b_c R w := by kernel_rfl
theorem ref03_Records_go {a0_a_a : Option Addr} {a0_a_n : Nat} {a0_a_c : Nat} {a1_b_a : Option Addr} {a1_b_n : Nat} {a1_b_c : Nat} {R : Value → World → Prop} {w : World} (h : ref03_Records_T a0_a_a a0_a_n a0_a_c a1_b_a a1_b_n a1_b_c R w) :
    Calls Try.prog 47 #[(.slice a0_a_a a0_a_n a0_a_c), (.slice a1_b_a a1_b_n a1_b_c)] w fun e w' => ∃ v, e = .returned v ∧ R v w' :=
  calls_none Try.wide_mixed (f := 47) (args := [(.slice a0_a_a a0_a_n a0_a_c), (.slice a1_b_a a1_b_n a1_b_c)]) Try.func47 rfl rfl (by kernel_rfl) rfl (Eq.mpr (ref03_Records_eq a0_a_a a0_a_n a0_a_c a1_b_a a1_b_n a1_b_c R w) h)
def ref03_Same_an : List LA := []
/-- stagecoach/stagecoachref03.Same -/
def ref03_Same_T (a0_a_0 : Int) (a0_a_1 : Int) (a0_a_2 : Int) (a0_a_3_a : Option Addr) (a0_a_3_n : Nat) (a0_a_3_c : Nat) (a1_b_0 : Int) (a1_b_1 : Int) (a1_b_2 : Int) (a1_b_3_a : Option Addr) (a1_b_3_n : Nat) (a1_b_3_c : Nat) (R : Value → World → Prop) (w : World) : Prop :=
  ∀ b1, w.heap.size ≤ b1 →
  ∀ b2, w.heap.size ≤ b2 →
  brB (a0_a_0 == a1_b_0) (
    brB (a0_a_1 == a1_b_1) (
      brB (a0_a_2 == a1_b_2) (
        ∀ w3, Adv [] [b2, b1] w w3 →
        Calls Try.prog 47 #[(.slice a0_a_3_a a0_a_3_n a0_a_3_c), (.slice a1_b_3_a a1_b_3_n a1_b_3_c)] w3 fun e w4 => ∃ t5 : Bool, e = .returned (.bool t5) ∧ Keep [b1, b2] w3 w4 ∧
        R (.bool t5) w4)
      (
        ∀ w6, Adv [] [b2, b1] w w6 →
        R (.bool false) w6))
    (
      ∀ w7, Adv [] [b2, b1] w w7 →
      R (.bool false) w7))
  (
    ∀ w8, Adv [] [b2, b1] w w8 →
    R (.bool false) w8)
theorem ref03_Same_eq (a0_a_0 : Int) (a0_a_1 : Int) (a0_a_2 : Int) (a0_a_3_a : Option Addr) (a0_a_3_n : Nat) (a0_a_3_c : Nat) (a1_b_0 : Int) (a1_b_1 : Int) (a1_b_2 : Int) (a1_b_3_a : Option Addr) (a1_b_3_n : Nat) (a1_b_3_c : Nat) (R : Value → World → Prop) (w : World) :
    dnF Try.prog ref03_Same_an (code Try.f32) 400 [] (post3 Try.prog Try.f32 [] R) ⟨args0 0 [(.agg #[(.int .i64 a0_a_0), (.int .i64 a0_a_1), (.int .i64 a0_a_2), (.slice a0_a_3_a a0_a_3_n a0_a_3_c)]), (.agg #[(.int .i64 a1_b_0), (.int .i64 a1_b_1), (.int .i64 a1_b_2), (.slice a1_b_3_a a1_b_3_n a1_b_3_c)])], fun _ => undef⟩ ⟨[], w, [], [], true⟩ = ref03_Same_T a0_a_0 a0_a_1 a0_a_2 a0_a_3_a a0_a_3_n a0_a_3_c a1_b_0 a1_b_1 a1_b_2 a1_b_3_a a1_b_3_n a1_b_3_c R w := by kernel_rfl
theorem ref03_Same_go {a0_a_0 : Int} {a0_a_1 : Int} {a0_a_2 : Int} {a0_a_3_a : Option Addr} {a0_a_3_n : Nat} {a0_a_3_c : Nat} {a1_b_0 : Int} {a1_b_1 : Int} {a1_b_2 : Int} {a1_b_3_a : Option Addr} {a1_b_3_n : Nat} {a1_b_3_c : Nat} {R : Value → World → Prop} {w : World} (h : ref03_Same_T a0_a_0 a0_a_1 a0_a_2 a0_a_3_a a0_a_3_n a0_a_3_c a1_b_0 a1_b_1 a1_b_2 a1_b_3_a a1_b_3_n a1_b_3_c R w) :
    Calls Try.prog 32 #[(.agg #[(.int .i64 a0_a_0), (.int .i64 a0_a_1), (.int .i64 a0_a_2), (.slice a0_a_3_a a0_a_3_n a0_a_3_c)]), (.agg #[(.int .i64 a1_b_0), (.int .i64 a1_b_1), (.int .i64 a1_b_2), (.slice a1_b_3_a a1_b_3_n a1_b_3_c)])] w fun e w' => ∃ v, e = .returned v ∧ R v w' :=
  calls_none Try.wide_mixed (f := 32) (args := [(.agg #[(.int .i64 a0_a_0), (.int .i64 a0_a_1), (.int .i64 a0_a_2), (.slice a0_a_3_a a0_a_3_n a0_a_3_c)]), (.agg #[(.int .i64 a1_b_0), (.int .i64 a1_b_1), (.int .i64 a1_b_2), (.slice a1_b_3_a a1_b_3_n a1_b_3_c)])]) Try.func32 rfl rfl (by kernel_rfl) rfl (Eq.mpr (ref03_Same_eq a0_a_0 a0_a_1 a0_a_2 a0_a_3_a a0_a_3_n a0_a_3_c a1_b_0 a1_b_1 a1_b_2 a1_b_3_a a1_b_3_n a1_b_3_c R w) h)
def ref04_has_an : List LA := []
/-- stagecoach/stagecoachref04.has -/
def ref04_has_T (a0_kind : Int) (R : Value → World → Prop) (w : World) : Prop :=
  al w (.cells #[(.string (⟨#[116, 110]⟩ : ByteArray)), (.string (⟨#[110]⟩ : ByteArray)), (.string (⟨#[112, 98]⟩ : ByteArray)), (.string (⟨#[112, 111, 110]⟩ : ByteArray)), (.string (⟨#[112, 111]⟩ : ByteArray)), (.string (⟨#[112]⟩ : ByteArray)), (.string (⟨#[103, 109, 110, 114, 108]⟩ : ByteArray)), (.string (⟨#[103, 109, 101]⟩ : ByteArray)), (.string (⟨#[103, 109, 101]⟩ : ByteArray)), (.string (⟨#[103, 109, 101]⟩ : ByteArray)), (.string (⟨#[103, 109, 101, 112, 111]⟩ : ByteArray)), (.string (⟨#[103, 112]⟩ : ByteArray)), (.string (⟨#[110]⟩ : ByteArray))] 9) fun b1 w2 =>
  ixA (some ⟨b1, 0, none⟩) 13 a0_kind 1 fun q3 =>
  ldStr w2 q3 fun s4 =>
  R (.string s4) w2
theorem ref04_has_eq (a0_kind : Int) (R : Value → World → Prop) (w : World) :
    dnF Try.prog ref04_has_an (code Try.f21) 400 [] (post3 Try.prog Try.f21 [] R) ⟨args0 0 [(.int .i64 a0_kind)], fun _ => undef⟩ ⟨[], w, [], [], true⟩ = ref04_has_T a0_kind R w := by kernel_rfl
theorem ref04_has_go {a0_kind : Int} {R : Value → World → Prop} {w : World} (h : ref04_has_T a0_kind R w) :
    Calls Try.prog 21 #[(.int .i64 a0_kind)] w fun e w' => ∃ v, e = .returned v ∧ R v w' :=
  calls_none Try.wide_mixed (f := 21) (args := [(.int .i64 a0_kind)]) Try.func21 rfl rfl (by kernel_rfl) rfl (Eq.mpr (ref04_has_eq a0_kind R w) h)
def ref04_among_la1 : LA := ⟨[0, 0, 1, 0, 1], [0, 1, 5], [], 0, []⟩
def ref04_among_an : List LA := [ref04_among_la1]
def ref04_among_v1 (s_0 : ByteArray) (x_1 : Int) (x_5 : Int) : List Value := [(.string s_0), (.int .u8 x_1), (.int .i64 x_5)]
def ref04_among_m1 : List TB := []
def ref04_among_L1 (s_0 : ByteArray) (x_1 : Int) (x_5 : Int) (K1 : Kh) (R : Value → World → Prop) (w : World) : Prop :=
  brB (decide (x_5 < (s_0.size : Int))) (
    ixS s_0 x_5 fun x1 =>
    brB (x1 == x_1) (
      R (.bool true) w)
    (
      K1 (ref04_among_v1 s_0 x_1 (IntKind.wrap .i64 (x_5 + 1))) (ref04_among_m1) w))
  (
    R (.bool false) w)
theorem ref04_among_L1_eq (s_0 : ByteArray) (x_1 : Int) (x_5 : Int) (K1 : Kh) (js : Nat → Value) (R : Value → World → Prop) (w : World) :
    headA ref04_among_la1 ((dnF Try.prog ref04_among_an (code Try.f23) 397 [0, 0, 1, 0, 1]) (kthen3 (atA ref04_among_la1 K1) (kont3 Try.prog ref04_among_an (code Try.f23) [1, 0, 1, 0] [] (post3 Try.prog Try.f23 [] R)))) (ref04_among_v1 s_0 x_1 x_5) js (ref04_among_m1) w = ref04_among_L1 s_0 x_1 x_5 K1 R w := by kernel_rfl
def ref04_among_K1 (s_0 : ByteArray) (x_1 : Int) (I : Nat → Int → World → Prop) (m : Nat) (vals : List Value) (mem : List TB) (w : World) : Prop := ∃ m', m' < m ∧ ∃ x_5, vals = (ref04_among_v1 s_0 x_1 x_5) ∧ mem = (ref04_among_m1) ∧ I m' x_5 w
theorem ref04_among_leaf1 {s_0 : ByteArray} {x_1 : Int} {I : Nat → Int → World → Prop} {m : Nat} {x_5 : Int} {w : World} (m' : Nat) (h1 : m' < m) (h2 : I m' x_5 w) : ref04_among_K1 s_0 x_1 I m (ref04_among_v1 s_0 x_1 x_5) (ref04_among_m1) w := ⟨m', h1, _, rfl, rfl, h2⟩
theorem ref04_among_rule1 {s_0 : ByteArray} {x_1 : Int} {x_50 : Int} {R : Value → World → Prop} {w0 : World} (I : Nat → Int → World → Prop) (m0 : Nat) (h0 : I m0 x_50 w0)
    (hr : ∀ (m : Nat) (x_5 : Int) (w : World), I m x_5 w → ref04_among_L1 s_0 x_1 x_5 (ref04_among_K1 s_0 x_1 I m) R w) :
    loopD3 ref04_among_la1 (dnF Try.prog ref04_among_an (code Try.f23) 397 [0, 0, 1, 0, 1]) (kont3 Try.prog ref04_among_an (code Try.f23) [1, 0, 1, 0] [] (post3 Try.prog Try.f23 [] R)) (ref04_among_v1 s_0 x_1 x_50) (ref04_among_m1) w0 := by
  refine ⟨fun m vals mem w => ∃ x_5, vals = (ref04_among_v1 s_0 x_1 x_5) ∧ mem = (ref04_among_m1) ∧ I m x_5 w, m0, ⟨_, rfl, rfl, h0⟩, ?_⟩
  rintro m vals mem w ⟨x_5, rfl, rfl, hI⟩
  refine ⟨rfl, rfl, fun js => ?_⟩
  have h := hr m x_5 w hI
  rw [← ref04_among_L1_eq _ _ _ _ js] at h
  exact h
/-- stagecoach/stagecoachref04.among -/
def ref04_among_T (a0_s : ByteArray) (a1_c : Int) (R : Value → World → Prop) (w : World) : Prop :=
  loopD3 ref04_among_la1 (dnF Try.prog ref04_among_an (code Try.f23) 397 [0, 0, 1, 0, 1]) (kont3 Try.prog ref04_among_an (code Try.f23) [1, 0, 1, 0] [] (post3 Try.prog Try.f23 [] R)) (ref04_among_v1 a0_s a1_c 0) (ref04_among_m1) w
theorem ref04_among_eq (a0_s : ByteArray) (a1_c : Int) (R : Value → World → Prop) (w : World) :
    dnF Try.prog ref04_among_an (code Try.f23) 400 [] (post3 Try.prog Try.f23 [] R) ⟨args0 0 [(.string a0_s), (.int .u8 a1_c)], fun _ => undef⟩ ⟨[], w, [], [], true⟩ = ref04_among_T a0_s a1_c R w := by kernel_rfl
theorem ref04_among_go {a0_s : ByteArray} {a1_c : Int} {R : Value → World → Prop} {w : World} (h : ref04_among_T a0_s a1_c R w) :
    Calls Try.prog 23 #[(.string a0_s), (.int .u8 a1_c)] w fun e w' => ∃ v, e = .returned v ∧ R v w' :=
  calls_none Try.wide_mixed (f := 23) (args := [(.string a0_s), (.int .u8 a1_c)]) Try.func23 rfl rfl (by kernel_rfl) rfl (Eq.mpr (ref04_among_eq a0_s a1_c R w) h)
def ref04_Less_la1 : LA := ⟨[0, 0, 1, 0, 1], [0, 1, 5], [], 0, []⟩
def ref04_Less_an : List LA := [ref04_Less_la1]
def ref04_Less_v1 (s_0 : ByteArray) (s_1 : ByteArray) (x_5 : Int) : List Value := [(.string s_0), (.string s_1), (.int .i64 x_5)]
def ref04_Less_m1 : List TB := []
def ref04_Less_L1 (s_0 : ByteArray) (s_1 : ByteArray) (x_5 : Int) (K1 : Kh) (R : Value → World → Prop) (w : World) : Prop :=
  brB (decide (x_5 < (s_0.size : Int))) (
    brB (decide (x_5 < (s_1.size : Int))) (
      ixS s_0 x_5 fun x1 =>
      ixS s_1 x_5 fun x2 =>
      brB (x1 != x2) (
        ixS s_0 x_5 fun x3 =>
        ixS s_1 x_5 fun x4 =>
        ∀ w5, Adv [] [] w w5 →
        R (.bool (decide (x3 < x4))) w5)
      (
        ∀ w6, Adv [] [] w w6 →
        K1 (ref04_Less_v1 s_0 s_1 (IntKind.wrap .i64 (x_5 + 1))) (ref04_Less_m1) w6))
    (
      R (.bool (decide ((s_0.size : Int) < (s_1.size : Int)))) w))
  (
    R (.bool (decide ((s_0.size : Int) < (s_1.size : Int)))) w)
theorem ref04_Less_L1_eq (s_0 : ByteArray) (s_1 : ByteArray) (x_5 : Int) (K1 : Kh) (js : Nat → Value) (R : Value → World → Prop) (w : World) :
    headA ref04_Less_la1 ((dnF Try.prog ref04_Less_an (code Try.f43) 397 [0, 0, 1, 0, 1]) (kthen3 (atA ref04_Less_la1 K1) (kont3 Try.prog ref04_Less_an (code Try.f43) [1, 0, 1, 0] [] (post3 Try.prog Try.f43 [] R)))) (ref04_Less_v1 s_0 s_1 x_5) js (ref04_Less_m1) w = ref04_Less_L1 s_0 s_1 x_5 K1 R w := by kernel_rfl
def ref04_Less_K1 (s_0 : ByteArray) (s_1 : ByteArray) (I : Nat → Int → World → Prop) (m : Nat) (vals : List Value) (mem : List TB) (w : World) : Prop := ∃ m', m' < m ∧ ∃ x_5, vals = (ref04_Less_v1 s_0 s_1 x_5) ∧ mem = (ref04_Less_m1) ∧ I m' x_5 w
theorem ref04_Less_leaf1 {s_0 : ByteArray} {s_1 : ByteArray} {I : Nat → Int → World → Prop} {m : Nat} {x_5 : Int} {w : World} (m' : Nat) (h1 : m' < m) (h2 : I m' x_5 w) : ref04_Less_K1 s_0 s_1 I m (ref04_Less_v1 s_0 s_1 x_5) (ref04_Less_m1) w := ⟨m', h1, _, rfl, rfl, h2⟩
theorem ref04_Less_rule1 {s_0 : ByteArray} {s_1 : ByteArray} {x_50 : Int} {R : Value → World → Prop} {w0 : World} (I : Nat → Int → World → Prop) (m0 : Nat) (h0 : I m0 x_50 w0)
    (hr : ∀ (m : Nat) (x_5 : Int) (w : World), I m x_5 w → ref04_Less_L1 s_0 s_1 x_5 (ref04_Less_K1 s_0 s_1 I m) R w) :
    loopD3 ref04_Less_la1 (dnF Try.prog ref04_Less_an (code Try.f43) 397 [0, 0, 1, 0, 1]) (kont3 Try.prog ref04_Less_an (code Try.f43) [1, 0, 1, 0] [] (post3 Try.prog Try.f43 [] R)) (ref04_Less_v1 s_0 s_1 x_50) (ref04_Less_m1) w0 := by
  refine ⟨fun m vals mem w => ∃ x_5, vals = (ref04_Less_v1 s_0 s_1 x_5) ∧ mem = (ref04_Less_m1) ∧ I m x_5 w, m0, ⟨_, rfl, rfl, h0⟩, ?_⟩
  rintro m vals mem w ⟨x_5, rfl, rfl, hI⟩
  refine ⟨rfl, rfl, fun js => ?_⟩
  have h := hr m x_5 w hI
  rw [← ref04_Less_L1_eq _ _ _ _ js] at h
  exact h
/-- stagecoach/stagecoachref04.Less -/
def ref04_Less_T (a0_a : ByteArray) (a1_b : ByteArray) (R : Value → World → Prop) (w : World) : Prop :=
  loopD3 ref04_Less_la1 (dnF Try.prog ref04_Less_an (code Try.f43) 397 [0, 0, 1, 0, 1]) (kont3 Try.prog ref04_Less_an (code Try.f43) [1, 0, 1, 0] [] (post3 Try.prog Try.f43 [] R)) (ref04_Less_v1 a0_a a1_b 0) (ref04_Less_m1) w
theorem ref04_Less_eq (a0_a : ByteArray) (a1_b : ByteArray) (R : Value → World → Prop) (w : World) :
    dnF Try.prog ref04_Less_an (code Try.f43) 400 [] (post3 Try.prog Try.f43 [] R) ⟨args0 0 [(.string a0_a), (.string a1_b)], fun _ => undef⟩ ⟨[], w, [], [], true⟩ = ref04_Less_T a0_a a1_b R w := by kernel_rfl
theorem ref04_Less_go {a0_a : ByteArray} {a1_b : ByteArray} {R : Value → World → Prop} {w : World} (h : ref04_Less_T a0_a a1_b R w) :
    Calls Try.prog 43 #[(.string a0_a), (.string a1_b)] w fun e w' => ∃ v, e = .returned v ∧ R v w' :=
  calls_none Try.wide_mixed (f := 43) (args := [(.string a0_a), (.string a1_b)]) Try.func43 rfl rfl (by kernel_rfl) rfl (Eq.mpr (ref04_Less_eq a0_a a1_b R w) h)
def ref04_names_la1 : LA := ⟨[0, 0, 1, 0, 1, 1], [0, 3], [], 0, []⟩
def ref04_names_an : List LA := [ref04_names_la1]
def ref04_names_v1 (a_0 : Option Addr) (n_0 : Nat) (c_0 : Nat) (x_3 : Int) : List Value := [(.slice a_0 n_0 c_0), (.int .i64 x_3)]
def ref04_names_m1 : List TB := []
def ref04_names_L1 (a_0 : Option Addr) (n_0 : Nat) (c_0 : Nat) (x_3 : Int) (K1 : Kh) (R : Value → World → Prop) (w : World) : Prop :=
  brB (decide (x_3 < (n_0 : Int))) (
    ixA a_0 n_0 x_3 1 fun q1 =>
    ∀ w2, Adv [] [] w w2 →
    ldStr w2 q1 fun s3 =>
    Calls Try.prog 24 #[(.string s3)] w2 fun e w4 => ∃ t5 : Bool, e = .returned (.bool t5) ∧
    brB (!t5) (
      R (.bool false) w4)
    (
      brB (decide (x_3 > 0)) (
        ixA a_0 n_0 (IntKind.wrap .i64 (x_3 - 1)) 1 fun q6 =>
        ldStr w4 q6 fun s7 =>
        ixA a_0 n_0 x_3 1 fun q8 =>
        ldStr w4 q8 fun s9 =>
        Calls Try.prog 43 #[(.string s7), (.string s9)] w4 fun e w10 => ∃ t11 : Bool, e = .returned (.bool t11) ∧
        brB (!t11) (
          R (.bool false) w10)
        (
          K1 (ref04_names_v1 a_0 n_0 c_0 (IntKind.wrap .i64 (x_3 + 1))) (ref04_names_m1) w10))
      (
        K1 (ref04_names_v1 a_0 n_0 c_0 (IntKind.wrap .i64 (x_3 + 1))) (ref04_names_m1) w4)))
  (
    R (.bool true) w)
theorem ref04_names_L1_eq (a_0 : Option Addr) (n_0 : Nat) (c_0 : Nat) (x_3 : Int) (K1 : Kh) (js : Nat → Value) (R : Value → World → Prop) (w : World) :
    headA ref04_names_la1 ((dnF Try.prog ref04_names_an (code Try.f25) 396 [0, 0, 1, 0, 1, 1]) (kthen3 (atA ref04_names_la1 K1) (kont3 Try.prog ref04_names_an (code Try.f25) [1, 1, 0, 1, 0] [] (post3 Try.prog Try.f25 [] R)))) (ref04_names_v1 a_0 n_0 c_0 x_3) js (ref04_names_m1) w = ref04_names_L1 a_0 n_0 c_0 x_3 K1 R w := by kernel_rfl
def ref04_names_K1 (a_0 : Option Addr) (n_0 : Nat) (c_0 : Nat) (I : Nat → Int → World → Prop) (m : Nat) (vals : List Value) (mem : List TB) (w : World) : Prop := ∃ m', m' < m ∧ ∃ x_3, vals = (ref04_names_v1 a_0 n_0 c_0 x_3) ∧ mem = (ref04_names_m1) ∧ I m' x_3 w
theorem ref04_names_leaf1 {a_0 : Option Addr} {n_0 : Nat} {c_0 : Nat} {I : Nat → Int → World → Prop} {m : Nat} {x_3 : Int} {w : World} (m' : Nat) (h1 : m' < m) (h2 : I m' x_3 w) : ref04_names_K1 a_0 n_0 c_0 I m (ref04_names_v1 a_0 n_0 c_0 x_3) (ref04_names_m1) w := ⟨m', h1, _, rfl, rfl, h2⟩
theorem ref04_names_rule1 {a_0 : Option Addr} {n_0 : Nat} {c_0 : Nat} {x_30 : Int} {R : Value → World → Prop} {w0 : World} (I : Nat → Int → World → Prop) (m0 : Nat) (h0 : I m0 x_30 w0)
    (hr : ∀ (m : Nat) (x_3 : Int) (w : World), I m x_3 w → ref04_names_L1 a_0 n_0 c_0 x_3 (ref04_names_K1 a_0 n_0 c_0 I m) R w) :
    loopD3 ref04_names_la1 (dnF Try.prog ref04_names_an (code Try.f25) 396 [0, 0, 1, 0, 1, 1]) (kont3 Try.prog ref04_names_an (code Try.f25) [1, 1, 0, 1, 0] [] (post3 Try.prog Try.f25 [] R)) (ref04_names_v1 a_0 n_0 c_0 x_30) (ref04_names_m1) w0 := by
  refine ⟨fun m vals mem w => ∃ x_3, vals = (ref04_names_v1 a_0 n_0 c_0 x_3) ∧ mem = (ref04_names_m1) ∧ I m x_3 w, m0, ⟨_, rfl, rfl, h0⟩, ?_⟩
  rintro m vals mem w ⟨x_3, rfl, rfl, hI⟩
  refine ⟨rfl, rfl, fun js => ?_⟩
  have h := hr m x_3 w hI
  rw [← ref04_names_L1_eq _ _ _ _ _ js] at h
  exact h
/-- stagecoach/stagecoachref04.names -/
def ref04_names_T (a0_l_a : Option Addr) (a0_l_n : Nat) (a0_l_c : Nat) (R : Value → World → Prop) (w : World) : Prop :=
  brB (decide ((a0_l_n : Int) < 1)) (
    R (.bool false) w)
  (
    brB (decide ((a0_l_n : Int) > 8)) (
      R (.bool false) w)
    (
      loopD3 ref04_names_la1 (dnF Try.prog ref04_names_an (code Try.f25) 396 [0, 0, 1, 0, 1, 1]) (kont3 Try.prog ref04_names_an (code Try.f25) [1, 1, 0, 1, 0] [] (post3 Try.prog Try.f25 [] R)) (ref04_names_v1 a0_l_a a0_l_n a0_l_c 0) (ref04_names_m1) w))
theorem ref04_names_eq (a0_l_a : Option Addr) (a0_l_n : Nat) (a0_l_c : Nat) (R : Value → World → Prop) (w : World) :
    dnF Try.prog ref04_names_an (code Try.f25) 400 [] (post3 Try.prog Try.f25 [] R) ⟨args0 0 [(.slice a0_l_a a0_l_n a0_l_c)], fun _ => undef⟩ ⟨[], w, [], [], true⟩ = ref04_names_T a0_l_a a0_l_n a0_l_c R w := by kernel_rfl
theorem ref04_names_go {a0_l_a : Option Addr} {a0_l_n : Nat} {a0_l_c : Nat} {R : Value → World → Prop} {w : World} (h : ref04_names_T a0_l_a a0_l_n a0_l_c R w) :
    Calls Try.prog 25 #[(.slice a0_l_a a0_l_n a0_l_c)] w fun e w' => ∃ v, e = .returned v ∧ R v w' :=
  calls_none Try.wide_mixed (f := 25) (args := [(.slice a0_l_a a0_l_n a0_l_c)]) Try.func25 rfl rfl (by kernel_rfl) rfl (Eq.mpr (ref04_names_eq a0_l_a a0_l_n a0_l_c R w) h)
def ref04_only_la1 : LA := ⟨[1, 0, 1, 1, 1], [1, 3, 54], [(1, 0, 0)], 1, []⟩
def ref04_only_la2 : LA := ⟨[1, 1, 1, 1], [1, 3], [(1, 0, 0)], 1, []⟩
def ref04_only_la3 : LA := ⟨[1, 0, 1, 1, 1, 1], [1, 3, 82], [(1, 0, 0)], 1, []⟩
def ref04_only_la4 : LA := ⟨[1, 1, 1, 1, 1], [1, 3], [(1, 0, 0)], 1, []⟩
def ref04_only_la5 : LA := ⟨[1, 0, 1, 1, 1, 1, 1], [1, 3, 110], [(1, 0, 0)], 1, []⟩
def ref04_only_la6 : LA := ⟨[1, 1, 1, 1, 1, 1], [1, 3], [(1, 0, 0)], 1, []⟩
def ref04_only_an : List LA := [ref04_only_la1, ref04_only_la2, ref04_only_la3, ref04_only_la4, ref04_only_la5, ref04_only_la6]
def ref04_only_v1 (s_3 : ByteArray) (t_54 : Bool) (bm0 : Nat) : List Value := [(.pointer (some ⟨bm0, 0, none⟩)), (.string s_3), (.bool t_54)]
def ref04_only_m1 (bm0 : Nat) (x_m0_0 : Int) (s_m0_1 : ByteArray) (x_m0_2 : Int) (x_m0_3 : Int) (x_m0_4 : Int) (x_m0_5 : Int) (x_m0_6 : Int) (x_m0_7 : Int) (a_m0_8 : Option Addr) (n_m0_8 : Nat) (c_m0_8 : Nat) (s_m0_9 : ByteArray) (s_m0_10 : ByteArray) (x_m0_11 : Int) (t_m0_12 : Bool) (a_m0_13 : Option Addr) (n_m0_13 : Nat) (c_m0_13 : Nat) : List TB := [⟨bm0, 35, [(.int .i64 x_m0_0), (.string s_m0_1), (.int .i64 x_m0_2), (.int .i64 x_m0_3), (.int .i64 x_m0_4), (.int .i64 x_m0_5), (.int .i64 x_m0_6), (.int .i64 x_m0_7), (.slice a_m0_8 n_m0_8 c_m0_8), (.string s_m0_9), (.string s_m0_10), (.int .i64 x_m0_11), (.bool t_m0_12), (.slice a_m0_13 n_m0_13 c_m0_13)], false⟩]
def ref04_only_v2 (s_3 : ByteArray) (bm0 : Nat) : List Value := [(.pointer (some ⟨bm0, 0, none⟩)), (.string s_3)]
def ref04_only_m2 (bm0 : Nat) (x_m0_0 : Int) (s_m0_1 : ByteArray) (x_m0_2 : Int) (x_m0_3 : Int) (x_m0_4 : Int) (x_m0_5 : Int) (x_m0_6 : Int) (x_m0_7 : Int) (a_m0_8 : Option Addr) (n_m0_8 : Nat) (c_m0_8 : Nat) (s_m0_9 : ByteArray) (s_m0_10 : ByteArray) (x_m0_11 : Int) (t_m0_12 : Bool) (a_m0_13 : Option Addr) (n_m0_13 : Nat) (c_m0_13 : Nat) : List TB := [⟨bm0, 35, [(.int .i64 x_m0_0), (.string s_m0_1), (.int .i64 x_m0_2), (.int .i64 x_m0_3), (.int .i64 x_m0_4), (.int .i64 x_m0_5), (.int .i64 x_m0_6), (.int .i64 x_m0_7), (.slice a_m0_8 n_m0_8 c_m0_8), (.string s_m0_9), (.string s_m0_10), (.int .i64 x_m0_11), (.bool t_m0_12), (.slice a_m0_13 n_m0_13 c_m0_13)], false⟩]
def ref04_only_v3 (s_3 : ByteArray) (t_82 : Bool) (bm0 : Nat) : List Value := [(.pointer (some ⟨bm0, 0, none⟩)), (.string s_3), (.bool t_82)]
def ref04_only_m3 (bm0 : Nat) (x_m0_0 : Int) (s_m0_1 : ByteArray) (x_m0_2 : Int) (x_m0_3 : Int) (x_m0_4 : Int) (x_m0_5 : Int) (x_m0_6 : Int) (x_m0_7 : Int) (a_m0_8 : Option Addr) (n_m0_8 : Nat) (c_m0_8 : Nat) (s_m0_9 : ByteArray) (s_m0_10 : ByteArray) (x_m0_11 : Int) (t_m0_12 : Bool) (a_m0_13 : Option Addr) (n_m0_13 : Nat) (c_m0_13 : Nat) : List TB := [⟨bm0, 35, [(.int .i64 x_m0_0), (.string s_m0_1), (.int .i64 x_m0_2), (.int .i64 x_m0_3), (.int .i64 x_m0_4), (.int .i64 x_m0_5), (.int .i64 x_m0_6), (.int .i64 x_m0_7), (.slice a_m0_8 n_m0_8 c_m0_8), (.string s_m0_9), (.string s_m0_10), (.int .i64 x_m0_11), (.bool t_m0_12), (.slice a_m0_13 n_m0_13 c_m0_13)], false⟩]
def ref04_only_v4 (s_3 : ByteArray) (bm0 : Nat) : List Value := [(.pointer (some ⟨bm0, 0, none⟩)), (.string s_3)]
def ref04_only_m4 (bm0 : Nat) (x_m0_0 : Int) (s_m0_1 : ByteArray) (x_m0_2 : Int) (x_m0_3 : Int) (x_m0_4 : Int) (x_m0_5 : Int) (x_m0_6 : Int) (x_m0_7 : Int) (a_m0_8 : Option Addr) (n_m0_8 : Nat) (c_m0_8 : Nat) (s_m0_9 : ByteArray) (s_m0_10 : ByteArray) (x_m0_11 : Int) (t_m0_12 : Bool) (a_m0_13 : Option Addr) (n_m0_13 : Nat) (c_m0_13 : Nat) : List TB := [⟨bm0, 35, [(.int .i64 x_m0_0), (.string s_m0_1), (.int .i64 x_m0_2), (.int .i64 x_m0_3), (.int .i64 x_m0_4), (.int .i64 x_m0_5), (.int .i64 x_m0_6), (.int .i64 x_m0_7), (.slice a_m0_8 n_m0_8 c_m0_8), (.string s_m0_9), (.string s_m0_10), (.int .i64 x_m0_11), (.bool t_m0_12), (.slice a_m0_13 n_m0_13 c_m0_13)], false⟩]
def ref04_only_v5 (s_3 : ByteArray) (t_110 : Bool) (bm0 : Nat) : List Value := [(.pointer (some ⟨bm0, 0, none⟩)), (.string s_3), (.bool t_110)]
def ref04_only_m5 (bm0 : Nat) (x_m0_0 : Int) (s_m0_1 : ByteArray) (x_m0_2 : Int) (x_m0_3 : Int) (x_m0_4 : Int) (x_m0_5 : Int) (x_m0_6 : Int) (x_m0_7 : Int) (a_m0_8 : Option Addr) (n_m0_8 : Nat) (c_m0_8 : Nat) (s_m0_9 : ByteArray) (s_m0_10 : ByteArray) (x_m0_11 : Int) (t_m0_12 : Bool) (a_m0_13 : Option Addr) (n_m0_13 : Nat) (c_m0_13 : Nat) : List TB := [⟨bm0, 35, [(.int .i64 x_m0_0), (.string s_m0_1), (.int .i64 x_m0_2), (.int .i64 x_m0_3), (.int .i64 x_m0_4), (.int .i64 x_m0_5), (.int .i64 x_m0_6), (.int .i64 x_m0_7), (.slice a_m0_8 n_m0_8 c_m0_8), (.string s_m0_9), (.string s_m0_10), (.int .i64 x_m0_11), (.bool t_m0_12), (.slice a_m0_13 n_m0_13 c_m0_13)], false⟩]
def ref04_only_v6 (s_3 : ByteArray) (bm0 : Nat) : List Value := [(.pointer (some ⟨bm0, 0, none⟩)), (.string s_3)]
def ref04_only_m6 (bm0 : Nat) (x_m0_0 : Int) (s_m0_1 : ByteArray) (x_m0_2 : Int) (x_m0_3 : Int) (x_m0_4 : Int) (x_m0_5 : Int) (x_m0_6 : Int) (x_m0_7 : Int) (a_m0_8 : Option Addr) (n_m0_8 : Nat) (c_m0_8 : Nat) (s_m0_9 : ByteArray) (s_m0_10 : ByteArray) (x_m0_11 : Int) (t_m0_12 : Bool) (a_m0_13 : Option Addr) (n_m0_13 : Nat) (c_m0_13 : Nat) : List TB := [⟨bm0, 35, [(.int .i64 x_m0_0), (.string s_m0_1), (.int .i64 x_m0_2), (.int .i64 x_m0_3), (.int .i64 x_m0_4), (.int .i64 x_m0_5), (.int .i64 x_m0_6), (.int .i64 x_m0_7), (.slice a_m0_8 n_m0_8 c_m0_8), (.string s_m0_9), (.string s_m0_10), (.int .i64 x_m0_11), (.bool t_m0_12), (.slice a_m0_13 n_m0_13 c_m0_13)], false⟩]
def ref04_only_C1 (s_3 : ByteArray) (t_54 : Bool) (bm0 : Nat) (x_m0_0 : Int) (s_m0_1 : ByteArray) (x_m0_2 : Int) (x_m0_3 : Int) (x_m0_4 : Int) (x_m0_5 : Int) (x_m0_6 : Int) (x_m0_7 : Int) (a_m0_8 : Option Addr) (n_m0_8 : Nat) (c_m0_8 : Nat) (s_m0_9 : ByteArray) (s_m0_10 : ByteArray) (x_m0_11 : Int) (t_m0_12 : Bool) (a_m0_13 : Option Addr) (n_m0_13 : Nat) (c_m0_13 : Nat) (R : Value → World → Prop) (w : World) : Prop :=
  brB t_54 (
    R (.bool false) w)
  (
    cutD3 ref04_only_la2 ((dnF Try.prog ref04_only_an (code Try.f22) 396 [1, 1, 1, 1]) (kont3 Try.prog ref04_only_an (code Try.f22) [1, 1, 1] [] (post3 Try.prog Try.f22 [] R))) (ref04_only_v2 s_3 bm0) (ref04_only_m2 bm0 x_m0_0 s_m0_1 x_m0_2 x_m0_3 x_m0_4 x_m0_5 x_m0_6 x_m0_7 a_m0_8 n_m0_8 c_m0_8 s_m0_9 s_m0_10 x_m0_11 t_m0_12 a_m0_13 n_m0_13 c_m0_13) w)
theorem ref04_only_C1_eq (s_3 : ByteArray) (t_54 : Bool) (bm0 : Nat) (x_m0_0 : Int) (s_m0_1 : ByteArray) (x_m0_2 : Int) (x_m0_3 : Int) (x_m0_4 : Int) (x_m0_5 : Int) (x_m0_6 : Int) (x_m0_7 : Int) (a_m0_8 : Option Addr) (n_m0_8 : Nat) (c_m0_8 : Nat) (s_m0_9 : ByteArray) (s_m0_10 : ByteArray) (x_m0_11 : Int) (t_m0_12 : Bool) (a_m0_13 : Option Addr) (n_m0_13 : Nat) (c_m0_13 : Nat) (js : Nat → Value) (R : Value → World → Prop) (w : World) :
    headA ref04_only_la1 ((dnF Try.prog ref04_only_an (code Try.f22) 396 [1, 0, 1, 1, 1]) (kont3 Try.prog ref04_only_an (code Try.f22) [1, 1, 1, 0] [] (post3 Try.prog Try.f22 [] R))) (ref04_only_v1 s_3 t_54 bm0) js (ref04_only_m1 bm0 x_m0_0 s_m0_1 x_m0_2 x_m0_3 x_m0_4 x_m0_5 x_m0_6 x_m0_7 a_m0_8 n_m0_8 c_m0_8 s_m0_9 s_m0_10 x_m0_11 t_m0_12 a_m0_13 n_m0_13 c_m0_13) w = ref04_only_C1 s_3 t_54 bm0 x_m0_0 s_m0_1 x_m0_2 x_m0_3 x_m0_4 x_m0_5 x_m0_6 x_m0_7 a_m0_8 n_m0_8 c_m0_8 s_m0_9 s_m0_10 x_m0_11 t_m0_12 a_m0_13 n_m0_13 c_m0_13 R w := by kernel_rfl
theorem ref04_only_cut1 {s_30 : ByteArray} {t_540 : Bool} {bm00 : Nat} {x_m0_00 : Int} {s_m0_10 : ByteArray} {x_m0_20 : Int} {x_m0_30 : Int} {x_m0_40 : Int} {x_m0_50 : Int} {x_m0_60 : Int} {x_m0_70 : Int} {a_m0_80 : Option Addr} {n_m0_80 : Nat} {c_m0_80 : Nat} {s_m0_90 : ByteArray} {s_m0_100 : ByteArray} {x_m0_110 : Int} {t_m0_120 : Bool} {a_m0_130 : Option Addr} {n_m0_130 : Nat} {c_m0_130 : Nat} {R : Value → World → Prop} {w0 : World} (J : ByteArray → Bool → Nat → Int → ByteArray → Int → Int → Int → Int → Int → Int → Option Addr → Nat → Nat → ByteArray → ByteArray → Int → Bool → Option Addr → Nat → Nat → World → Prop) (h0 : J s_30 t_540 bm00 x_m0_00 s_m0_10 x_m0_20 x_m0_30 x_m0_40 x_m0_50 x_m0_60 x_m0_70 a_m0_80 n_m0_80 c_m0_80 s_m0_90 s_m0_100 x_m0_110 t_m0_120 a_m0_130 n_m0_130 c_m0_130 w0)
    (hr : ∀ (s_3 : ByteArray) (t_54 : Bool) (bm0 : Nat) (x_m0_0 : Int) (s_m0_1 : ByteArray) (x_m0_2 : Int) (x_m0_3 : Int) (x_m0_4 : Int) (x_m0_5 : Int) (x_m0_6 : Int) (x_m0_7 : Int) (a_m0_8 : Option Addr) (n_m0_8 : Nat) (c_m0_8 : Nat) (s_m0_9 : ByteArray) (s_m0_10 : ByteArray) (x_m0_11 : Int) (t_m0_12 : Bool) (a_m0_13 : Option Addr) (n_m0_13 : Nat) (c_m0_13 : Nat) (w : World), J s_3 t_54 bm0 x_m0_0 s_m0_1 x_m0_2 x_m0_3 x_m0_4 x_m0_5 x_m0_6 x_m0_7 a_m0_8 n_m0_8 c_m0_8 s_m0_9 s_m0_10 x_m0_11 t_m0_12 a_m0_13 n_m0_13 c_m0_13 w → ref04_only_C1 s_3 t_54 bm0 x_m0_0 s_m0_1 x_m0_2 x_m0_3 x_m0_4 x_m0_5 x_m0_6 x_m0_7 a_m0_8 n_m0_8 c_m0_8 s_m0_9 s_m0_10 x_m0_11 t_m0_12 a_m0_13 n_m0_13 c_m0_13 R w) :
    cutD3 ref04_only_la1 ((dnF Try.prog ref04_only_an (code Try.f22) 396 [1, 0, 1, 1, 1]) (kont3 Try.prog ref04_only_an (code Try.f22) [1, 1, 1, 0] [] (post3 Try.prog Try.f22 [] R))) (ref04_only_v1 s_30 t_540 bm00) (ref04_only_m1 bm00 x_m0_00 s_m0_10 x_m0_20 x_m0_30 x_m0_40 x_m0_50 x_m0_60 x_m0_70 a_m0_80 n_m0_80 c_m0_80 s_m0_90 s_m0_100 x_m0_110 t_m0_120 a_m0_130 n_m0_130 c_m0_130) w0 := by
  refine ⟨fun vals mem w => ∃ s_3 t_54 bm0 x_m0_0 s_m0_1 x_m0_2 x_m0_3 x_m0_4 x_m0_5 x_m0_6 x_m0_7 a_m0_8 n_m0_8 c_m0_8 s_m0_9 s_m0_10 x_m0_11 t_m0_12 a_m0_13 n_m0_13 c_m0_13, vals = (ref04_only_v1 s_3 t_54 bm0) ∧ mem = (ref04_only_m1 bm0 x_m0_0 s_m0_1 x_m0_2 x_m0_3 x_m0_4 x_m0_5 x_m0_6 x_m0_7 a_m0_8 n_m0_8 c_m0_8 s_m0_9 s_m0_10 x_m0_11 t_m0_12 a_m0_13 n_m0_13 c_m0_13) ∧ J s_3 t_54 bm0 x_m0_0 s_m0_1 x_m0_2 x_m0_3 x_m0_4 x_m0_5 x_m0_6 x_m0_7 a_m0_8 n_m0_8 c_m0_8 s_m0_9 s_m0_10 x_m0_11 t_m0_12 a_m0_13 n_m0_13 c_m0_13 w, ⟨_, _, _, _, _, _, _, _, _, _, _, _, _, _, _, _, _, _, _, _, _, rfl, rfl, h0⟩, ?_⟩
  rintro vals mem w ⟨s_3, t_54, bm0, x_m0_0, s_m0_1, x_m0_2, x_m0_3, x_m0_4, x_m0_5, x_m0_6, x_m0_7, a_m0_8, n_m0_8, c_m0_8, s_m0_9, s_m0_10, x_m0_11, t_m0_12, a_m0_13, n_m0_13, c_m0_13, rfl, rfl, hJ⟩
  refine ⟨rfl, rfl, fun js => ?_⟩
  have h := hr s_3 t_54 bm0 x_m0_0 s_m0_1 x_m0_2 x_m0_3 x_m0_4 x_m0_5 x_m0_6 x_m0_7 a_m0_8 n_m0_8 c_m0_8 s_m0_9 s_m0_10 x_m0_11 t_m0_12 a_m0_13 n_m0_13 c_m0_13 w hJ
  rw [← ref04_only_C1_eq _ _ _ _ _ _ _ _ _ _ _ _ _ _ _ _ _ _ _ _ _ js] at h
  exact h
theorem ref04_only_at1 {s_3 : ByteArray} {t_54 : Bool} {bm0 : Nat} {x_m0_0 : Int} {s_m0_1 : ByteArray} {x_m0_2 : Int} {x_m0_3 : Int} {x_m0_4 : Int} {x_m0_5 : Int} {x_m0_6 : Int} {x_m0_7 : Int} {a_m0_8 : Option Addr} {n_m0_8 : Nat} {c_m0_8 : Nat} {s_m0_9 : ByteArray} {s_m0_10 : ByteArray} {x_m0_11 : Int} {t_m0_12 : Bool} {a_m0_13 : Option Addr} {n_m0_13 : Nat} {c_m0_13 : Nat} {R : Value → World → Prop} {w : World} (h : ref04_only_C1 s_3 t_54 bm0 x_m0_0 s_m0_1 x_m0_2 x_m0_3 x_m0_4 x_m0_5 x_m0_6 x_m0_7 a_m0_8 n_m0_8 c_m0_8 s_m0_9 s_m0_10 x_m0_11 t_m0_12 a_m0_13 n_m0_13 c_m0_13 R w) :
    cutD3 ref04_only_la1 ((dnF Try.prog ref04_only_an (code Try.f22) 396 [1, 0, 1, 1, 1]) (kont3 Try.prog ref04_only_an (code Try.f22) [1, 1, 1, 0] [] (post3 Try.prog Try.f22 [] R))) (ref04_only_v1 s_3 t_54 bm0) (ref04_only_m1 bm0 x_m0_0 s_m0_1 x_m0_2 x_m0_3 x_m0_4 x_m0_5 x_m0_6 x_m0_7 a_m0_8 n_m0_8 c_m0_8 s_m0_9 s_m0_10 x_m0_11 t_m0_12 a_m0_13 n_m0_13 c_m0_13) w :=
  ref04_only_cut1 (fun s_3' t_54' bm0' x_m0_0' s_m0_1' x_m0_2' x_m0_3' x_m0_4' x_m0_5' x_m0_6' x_m0_7' a_m0_8' n_m0_8' c_m0_8' s_m0_9' s_m0_10' x_m0_11' t_m0_12' a_m0_13' n_m0_13' c_m0_13' w' => s_3' = s_3 ∧ t_54' = t_54 ∧ bm0' = bm0 ∧ x_m0_0' = x_m0_0 ∧ s_m0_1' = s_m0_1 ∧ x_m0_2' = x_m0_2 ∧ x_m0_3' = x_m0_3 ∧ x_m0_4' = x_m0_4 ∧ x_m0_5' = x_m0_5 ∧ x_m0_6' = x_m0_6 ∧ x_m0_7' = x_m0_7 ∧ a_m0_8' = a_m0_8 ∧ n_m0_8' = n_m0_8 ∧ c_m0_8' = c_m0_8 ∧ s_m0_9' = s_m0_9 ∧ s_m0_10' = s_m0_10 ∧ x_m0_11' = x_m0_11 ∧ t_m0_12' = t_m0_12 ∧ a_m0_13' = a_m0_13 ∧ n_m0_13' = n_m0_13 ∧ c_m0_13' = c_m0_13 ∧ w' = w) ⟨rfl, rfl, rfl, rfl, rfl, rfl, rfl, rfl, rfl, rfl, rfl, rfl, rfl, rfl, rfl, rfl, rfl, rfl, rfl, rfl, rfl, rfl⟩ (by rintro s_3' t_54' bm0' x_m0_0' s_m0_1' x_m0_2' x_m0_3' x_m0_4' x_m0_5' x_m0_6' x_m0_7' a_m0_8' n_m0_8' c_m0_8' s_m0_9' s_m0_10' x_m0_11' t_m0_12' a_m0_13' n_m0_13' c_m0_13' w' ⟨rfl, rfl, rfl, rfl, rfl, rfl, rfl, rfl, rfl, rfl, rfl, rfl, rfl, rfl, rfl, rfl, rfl, rfl, rfl, rfl, rfl, rfl⟩; exact h)
def ref04_only_C2 (s_3 : ByteArray) (bm0 : Nat) (x_m0_0 : Int) (s_m0_1 : ByteArray) (x_m0_2 : Int) (x_m0_3 : Int) (x_m0_4 : Int) (x_m0_5 : Int) (x_m0_6 : Int) (x_m0_7 : Int) (a_m0_8 : Option Addr) (n_m0_8 : Nat) (c_m0_8 : Nat) (s_m0_9 : ByteArray) (s_m0_10 : ByteArray) (x_m0_11 : Int) (t_m0_12 : Bool) (a_m0_13 : Option Addr) (n_m0_13 : Nat) (c_m0_13 : Nat) (R : Value → World → Prop) (w : World) : Prop :=
  Calls Try.prog 23 #[(.string s_3), (.int .u8 98)] w fun e w9 => ∃ t10 : Bool, e = .returned (.bool t10) ∧ Keep [bm0] w w9 ∧
  brB (!t10) (
    brB (x_m0_5 != 0) (
      cutD3 ref04_only_la3 ((dnF Try.prog ref04_only_an (code Try.f22) 395 [1, 0, 1, 1, 1, 1]) (kont3 Try.prog ref04_only_an (code Try.f22) [1, 1, 1, 1, 0] [] (post3 Try.prog Try.f22 [] R))) (ref04_only_v3 s_3 true bm0) (ref04_only_m3 bm0 x_m0_0 s_m0_1 x_m0_2 x_m0_3 x_m0_4 x_m0_5 x_m0_6 x_m0_7 a_m0_8 n_m0_8 c_m0_8 s_m0_9 s_m0_10 x_m0_11 t_m0_12 a_m0_13 n_m0_13 c_m0_13) w9)
    (
      brB (x_m0_6 != 0) (
        cutD3 ref04_only_la3 ((dnF Try.prog ref04_only_an (code Try.f22) 395 [1, 0, 1, 1, 1, 1]) (kont3 Try.prog ref04_only_an (code Try.f22) [1, 1, 1, 1, 0] [] (post3 Try.prog Try.f22 [] R))) (ref04_only_v3 s_3 true bm0) (ref04_only_m3 bm0 x_m0_0 s_m0_1 x_m0_2 x_m0_3 x_m0_4 x_m0_5 x_m0_6 x_m0_7 a_m0_8 n_m0_8 c_m0_8 s_m0_9 s_m0_10 x_m0_11 t_m0_12 a_m0_13 n_m0_13 c_m0_13) w9)
      (
        brB (x_m0_7 != 0) (
          cutD3 ref04_only_la3 ((dnF Try.prog ref04_only_an (code Try.f22) 395 [1, 0, 1, 1, 1, 1]) (kont3 Try.prog ref04_only_an (code Try.f22) [1, 1, 1, 1, 0] [] (post3 Try.prog Try.f22 [] R))) (ref04_only_v3 s_3 true bm0) (ref04_only_m3 bm0 x_m0_0 s_m0_1 x_m0_2 x_m0_3 x_m0_4 x_m0_5 x_m0_6 x_m0_7 a_m0_8 n_m0_8 c_m0_8 s_m0_9 s_m0_10 x_m0_11 t_m0_12 a_m0_13 n_m0_13 c_m0_13) w9)
        (
          cutD3 ref04_only_la3 ((dnF Try.prog ref04_only_an (code Try.f22) 395 [1, 0, 1, 1, 1, 1]) (kont3 Try.prog ref04_only_an (code Try.f22) [1, 1, 1, 1, 0] [] (post3 Try.prog Try.f22 [] R))) (ref04_only_v3 s_3 (decide ((n_m0_8 : Int) > 0)) bm0) (ref04_only_m3 bm0 x_m0_0 s_m0_1 x_m0_2 x_m0_3 x_m0_4 x_m0_5 x_m0_6 x_m0_7 a_m0_8 n_m0_8 c_m0_8 s_m0_9 s_m0_10 x_m0_11 t_m0_12 a_m0_13 n_m0_13 c_m0_13) w9))))
  (
    cutD3 ref04_only_la3 ((dnF Try.prog ref04_only_an (code Try.f22) 395 [1, 0, 1, 1, 1, 1]) (kont3 Try.prog ref04_only_an (code Try.f22) [1, 1, 1, 1, 0] [] (post3 Try.prog Try.f22 [] R))) (ref04_only_v3 s_3 false bm0) (ref04_only_m3 bm0 x_m0_0 s_m0_1 x_m0_2 x_m0_3 x_m0_4 x_m0_5 x_m0_6 x_m0_7 a_m0_8 n_m0_8 c_m0_8 s_m0_9 s_m0_10 x_m0_11 t_m0_12 a_m0_13 n_m0_13 c_m0_13) w9)
theorem ref04_only_C2_eq (s_3 : ByteArray) (bm0 : Nat) (x_m0_0 : Int) (s_m0_1 : ByteArray) (x_m0_2 : Int) (x_m0_3 : Int) (x_m0_4 : Int) (x_m0_5 : Int) (x_m0_6 : Int) (x_m0_7 : Int) (a_m0_8 : Option Addr) (n_m0_8 : Nat) (c_m0_8 : Nat) (s_m0_9 : ByteArray) (s_m0_10 : ByteArray) (x_m0_11 : Int) (t_m0_12 : Bool) (a_m0_13 : Option Addr) (n_m0_13 : Nat) (c_m0_13 : Nat) (js : Nat → Value) (R : Value → World → Prop) (w : World) :
    headA ref04_only_la2 ((dnF Try.prog ref04_only_an (code Try.f22) 396 [1, 1, 1, 1]) (kont3 Try.prog ref04_only_an (code Try.f22) [1, 1, 1] [] (post3 Try.prog Try.f22 [] R))) (ref04_only_v2 s_3 bm0) js (ref04_only_m2 bm0 x_m0_0 s_m0_1 x_m0_2 x_m0_3 x_m0_4 x_m0_5 x_m0_6 x_m0_7 a_m0_8 n_m0_8 c_m0_8 s_m0_9 s_m0_10 x_m0_11 t_m0_12 a_m0_13 n_m0_13 c_m0_13) w = ref04_only_C2 s_3 bm0 x_m0_0 s_m0_1 x_m0_2 x_m0_3 x_m0_4 x_m0_5 x_m0_6 x_m0_7 a_m0_8 n_m0_8 c_m0_8 s_m0_9 s_m0_10 x_m0_11 t_m0_12 a_m0_13 n_m0_13 c_m0_13 R w := by kernel_rfl
theorem ref04_only_cut2 {s_30 : ByteArray} {bm00 : Nat} {x_m0_00 : Int} {s_m0_10 : ByteArray} {x_m0_20 : Int} {x_m0_30 : Int} {x_m0_40 : Int} {x_m0_50 : Int} {x_m0_60 : Int} {x_m0_70 : Int} {a_m0_80 : Option Addr} {n_m0_80 : Nat} {c_m0_80 : Nat} {s_m0_90 : ByteArray} {s_m0_100 : ByteArray} {x_m0_110 : Int} {t_m0_120 : Bool} {a_m0_130 : Option Addr} {n_m0_130 : Nat} {c_m0_130 : Nat} {R : Value → World → Prop} {w0 : World} (J : ByteArray → Nat → Int → ByteArray → Int → Int → Int → Int → Int → Int → Option Addr → Nat → Nat → ByteArray → ByteArray → Int → Bool → Option Addr → Nat → Nat → World → Prop) (h0 : J s_30 bm00 x_m0_00 s_m0_10 x_m0_20 x_m0_30 x_m0_40 x_m0_50 x_m0_60 x_m0_70 a_m0_80 n_m0_80 c_m0_80 s_m0_90 s_m0_100 x_m0_110 t_m0_120 a_m0_130 n_m0_130 c_m0_130 w0)
    (hr : ∀ (s_3 : ByteArray) (bm0 : Nat) (x_m0_0 : Int) (s_m0_1 : ByteArray) (x_m0_2 : Int) (x_m0_3 : Int) (x_m0_4 : Int) (x_m0_5 : Int) (x_m0_6 : Int) (x_m0_7 : Int) (a_m0_8 : Option Addr) (n_m0_8 : Nat) (c_m0_8 : Nat) (s_m0_9 : ByteArray) (s_m0_10 : ByteArray) (x_m0_11 : Int) (t_m0_12 : Bool) (a_m0_13 : Option Addr) (n_m0_13 : Nat) (c_m0_13 : Nat) (w : World), J s_3 bm0 x_m0_0 s_m0_1 x_m0_2 x_m0_3 x_m0_4 x_m0_5 x_m0_6 x_m0_7 a_m0_8 n_m0_8 c_m0_8 s_m0_9 s_m0_10 x_m0_11 t_m0_12 a_m0_13 n_m0_13 c_m0_13 w → ref04_only_C2 s_3 bm0 x_m0_0 s_m0_1 x_m0_2 x_m0_3 x_m0_4 x_m0_5 x_m0_6 x_m0_7 a_m0_8 n_m0_8 c_m0_8 s_m0_9 s_m0_10 x_m0_11 t_m0_12 a_m0_13 n_m0_13 c_m0_13 R w) :
    cutD3 ref04_only_la2 ((dnF Try.prog ref04_only_an (code Try.f22) 396 [1, 1, 1, 1]) (kont3 Try.prog ref04_only_an (code Try.f22) [1, 1, 1] [] (post3 Try.prog Try.f22 [] R))) (ref04_only_v2 s_30 bm00) (ref04_only_m2 bm00 x_m0_00 s_m0_10 x_m0_20 x_m0_30 x_m0_40 x_m0_50 x_m0_60 x_m0_70 a_m0_80 n_m0_80 c_m0_80 s_m0_90 s_m0_100 x_m0_110 t_m0_120 a_m0_130 n_m0_130 c_m0_130) w0 := by
  refine ⟨fun vals mem w => ∃ s_3 bm0 x_m0_0 s_m0_1 x_m0_2 x_m0_3 x_m0_4 x_m0_5 x_m0_6 x_m0_7 a_m0_8 n_m0_8 c_m0_8 s_m0_9 s_m0_10 x_m0_11 t_m0_12 a_m0_13 n_m0_13 c_m0_13, vals = (ref04_only_v2 s_3 bm0) ∧ mem = (ref04_only_m2 bm0 x_m0_0 s_m0_1 x_m0_2 x_m0_3 x_m0_4 x_m0_5 x_m0_6 x_m0_7 a_m0_8 n_m0_8 c_m0_8 s_m0_9 s_m0_10 x_m0_11 t_m0_12 a_m0_13 n_m0_13 c_m0_13) ∧ J s_3 bm0 x_m0_0 s_m0_1 x_m0_2 x_m0_3 x_m0_4 x_m0_5 x_m0_6 x_m0_7 a_m0_8 n_m0_8 c_m0_8 s_m0_9 s_m0_10 x_m0_11 t_m0_12 a_m0_13 n_m0_13 c_m0_13 w, ⟨_, _, _, _, _, _, _, _, _, _, _, _, _, _, _, _, _, _, _, _, rfl, rfl, h0⟩, ?_⟩
  rintro vals mem w ⟨s_3, bm0, x_m0_0, s_m0_1, x_m0_2, x_m0_3, x_m0_4, x_m0_5, x_m0_6, x_m0_7, a_m0_8, n_m0_8, c_m0_8, s_m0_9, s_m0_10, x_m0_11, t_m0_12, a_m0_13, n_m0_13, c_m0_13, rfl, rfl, hJ⟩
  refine ⟨rfl, rfl, fun js => ?_⟩
  have h := hr s_3 bm0 x_m0_0 s_m0_1 x_m0_2 x_m0_3 x_m0_4 x_m0_5 x_m0_6 x_m0_7 a_m0_8 n_m0_8 c_m0_8 s_m0_9 s_m0_10 x_m0_11 t_m0_12 a_m0_13 n_m0_13 c_m0_13 w hJ
  rw [← ref04_only_C2_eq _ _ _ _ _ _ _ _ _ _ _ _ _ _ _ _ _ _ _ _ js] at h
  exact h
theorem ref04_only_at2 {s_3 : ByteArray} {bm0 : Nat} {x_m0_0 : Int} {s_m0_1 : ByteArray} {x_m0_2 : Int} {x_m0_3 : Int} {x_m0_4 : Int} {x_m0_5 : Int} {x_m0_6 : Int} {x_m0_7 : Int} {a_m0_8 : Option Addr} {n_m0_8 : Nat} {c_m0_8 : Nat} {s_m0_9 : ByteArray} {s_m0_10 : ByteArray} {x_m0_11 : Int} {t_m0_12 : Bool} {a_m0_13 : Option Addr} {n_m0_13 : Nat} {c_m0_13 : Nat} {R : Value → World → Prop} {w : World} (h : ref04_only_C2 s_3 bm0 x_m0_0 s_m0_1 x_m0_2 x_m0_3 x_m0_4 x_m0_5 x_m0_6 x_m0_7 a_m0_8 n_m0_8 c_m0_8 s_m0_9 s_m0_10 x_m0_11 t_m0_12 a_m0_13 n_m0_13 c_m0_13 R w) :
    cutD3 ref04_only_la2 ((dnF Try.prog ref04_only_an (code Try.f22) 396 [1, 1, 1, 1]) (kont3 Try.prog ref04_only_an (code Try.f22) [1, 1, 1] [] (post3 Try.prog Try.f22 [] R))) (ref04_only_v2 s_3 bm0) (ref04_only_m2 bm0 x_m0_0 s_m0_1 x_m0_2 x_m0_3 x_m0_4 x_m0_5 x_m0_6 x_m0_7 a_m0_8 n_m0_8 c_m0_8 s_m0_9 s_m0_10 x_m0_11 t_m0_12 a_m0_13 n_m0_13 c_m0_13) w :=
  ref04_only_cut2 (fun s_3' bm0' x_m0_0' s_m0_1' x_m0_2' x_m0_3' x_m0_4' x_m0_5' x_m0_6' x_m0_7' a_m0_8' n_m0_8' c_m0_8' s_m0_9' s_m0_10' x_m0_11' t_m0_12' a_m0_13' n_m0_13' c_m0_13' w' => s_3' = s_3 ∧ bm0' = bm0 ∧ x_m0_0' = x_m0_0 ∧ s_m0_1' = s_m0_1 ∧ x_m0_2' = x_m0_2 ∧ x_m0_3' = x_m0_3 ∧ x_m0_4' = x_m0_4 ∧ x_m0_5' = x_m0_5 ∧ x_m0_6' = x_m0_6 ∧ x_m0_7' = x_m0_7 ∧ a_m0_8' = a_m0_8 ∧ n_m0_8' = n_m0_8 ∧ c_m0_8' = c_m0_8 ∧ s_m0_9' = s_m0_9 ∧ s_m0_10' = s_m0_10 ∧ x_m0_11' = x_m0_11 ∧ t_m0_12' = t_m0_12 ∧ a_m0_13' = a_m0_13 ∧ n_m0_13' = n_m0_13 ∧ c_m0_13' = c_m0_13 ∧ w' = w) ⟨rfl, rfl, rfl, rfl, rfl, rfl, rfl, rfl, rfl, rfl, rfl, rfl, rfl, rfl, rfl, rfl, rfl, rfl, rfl, rfl, rfl⟩ (by rintro s_3' bm0' x_m0_0' s_m0_1' x_m0_2' x_m0_3' x_m0_4' x_m0_5' x_m0_6' x_m0_7' a_m0_8' n_m0_8' c_m0_8' s_m0_9' s_m0_10' x_m0_11' t_m0_12' a_m0_13' n_m0_13' c_m0_13' w' ⟨rfl, rfl, rfl, rfl, rfl, rfl, rfl, rfl, rfl, rfl, rfl, rfl, rfl, rfl, rfl, rfl, rfl, rfl, rfl, rfl, rfl⟩; exact h)
def ref04_only_C3 (s_3 : ByteArray) (t_82 : Bool) (bm0 : Nat) (x_m0_0 : Int) (s_m0_1 : ByteArray) (x_m0_2 : Int) (x_m0_3 : Int) (x_m0_4 : Int) (x_m0_5 : Int) (x_m0_6 : Int) (x_m0_7 : Int) (a_m0_8 : Option Addr) (n_m0_8 : Nat) (c_m0_8 : Nat) (s_m0_9 : ByteArray) (s_m0_10 : ByteArray) (x_m0_11 : Int) (t_m0_12 : Bool) (a_m0_13 : Option Addr) (n_m0_13 : Nat) (c_m0_13 : Nat) (R : Value → World → Prop) (w : World) : Prop :=
  brB t_82 (
    R (.bool false) w)
  (
    cutD3 ref04_only_la4 ((dnF Try.prog ref04_only_an (code Try.f22) 395 [1, 1, 1, 1, 1]) (kont3 Try.prog ref04_only_an (code Try.f22) [1, 1, 1, 1] [] (post3 Try.prog Try.f22 [] R))) (ref04_only_v4 s_3 bm0) (ref04_only_m4 bm0 x_m0_0 s_m0_1 x_m0_2 x_m0_3 x_m0_4 x_m0_5 x_m0_6 x_m0_7 a_m0_8 n_m0_8 c_m0_8 s_m0_9 s_m0_10 x_m0_11 t_m0_12 a_m0_13 n_m0_13 c_m0_13) w)
theorem ref04_only_C3_eq (s_3 : ByteArray) (t_82 : Bool) (bm0 : Nat) (x_m0_0 : Int) (s_m0_1 : ByteArray) (x_m0_2 : Int) (x_m0_3 : Int) (x_m0_4 : Int) (x_m0_5 : Int) (x_m0_6 : Int) (x_m0_7 : Int) (a_m0_8 : Option Addr) (n_m0_8 : Nat) (c_m0_8 : Nat) (s_m0_9 : ByteArray) (s_m0_10 : ByteArray) (x_m0_11 : Int) (t_m0_12 : Bool) (a_m0_13 : Option Addr) (n_m0_13 : Nat) (c_m0_13 : Nat) (js : Nat → Value) (R : Value → World → Prop) (w : World) :
    headA ref04_only_la3 ((dnF Try.prog ref04_only_an (code Try.f22) 395 [1, 0, 1, 1, 1, 1]) (kont3 Try.prog ref04_only_an (code Try.f22) [1, 1, 1, 1, 0] [] (post3 Try.prog Try.f22 [] R))) (ref04_only_v3 s_3 t_82 bm0) js (ref04_only_m3 bm0 x_m0_0 s_m0_1 x_m0_2 x_m0_3 x_m0_4 x_m0_5 x_m0_6 x_m0_7 a_m0_8 n_m0_8 c_m0_8 s_m0_9 s_m0_10 x_m0_11 t_m0_12 a_m0_13 n_m0_13 c_m0_13) w = ref04_only_C3 s_3 t_82 bm0 x_m0_0 s_m0_1 x_m0_2 x_m0_3 x_m0_4 x_m0_5 x_m0_6 x_m0_7 a_m0_8 n_m0_8 c_m0_8 s_m0_9 s_m0_10 x_m0_11 t_m0_12 a_m0_13 n_m0_13 c_m0_13 R w := by kernel_rfl
theorem ref04_only_cut3 {s_30 : ByteArray} {t_820 : Bool} {bm00 : Nat} {x_m0_00 : Int} {s_m0_10 : ByteArray} {x_m0_20 : Int} {x_m0_30 : Int} {x_m0_40 : Int} {x_m0_50 : Int} {x_m0_60 : Int} {x_m0_70 : Int} {a_m0_80 : Option Addr} {n_m0_80 : Nat} {c_m0_80 : Nat} {s_m0_90 : ByteArray} {s_m0_100 : ByteArray} {x_m0_110 : Int} {t_m0_120 : Bool} {a_m0_130 : Option Addr} {n_m0_130 : Nat} {c_m0_130 : Nat} {R : Value → World → Prop} {w0 : World} (J : ByteArray → Bool → Nat → Int → ByteArray → Int → Int → Int → Int → Int → Int → Option Addr → Nat → Nat → ByteArray → ByteArray → Int → Bool → Option Addr → Nat → Nat → World → Prop) (h0 : J s_30 t_820 bm00 x_m0_00 s_m0_10 x_m0_20 x_m0_30 x_m0_40 x_m0_50 x_m0_60 x_m0_70 a_m0_80 n_m0_80 c_m0_80 s_m0_90 s_m0_100 x_m0_110 t_m0_120 a_m0_130 n_m0_130 c_m0_130 w0)
    (hr : ∀ (s_3 : ByteArray) (t_82 : Bool) (bm0 : Nat) (x_m0_0 : Int) (s_m0_1 : ByteArray) (x_m0_2 : Int) (x_m0_3 : Int) (x_m0_4 : Int) (x_m0_5 : Int) (x_m0_6 : Int) (x_m0_7 : Int) (a_m0_8 : Option Addr) (n_m0_8 : Nat) (c_m0_8 : Nat) (s_m0_9 : ByteArray) (s_m0_10 : ByteArray) (x_m0_11 : Int) (t_m0_12 : Bool) (a_m0_13 : Option Addr) (n_m0_13 : Nat) (c_m0_13 : Nat) (w : World), J s_3 t_82 bm0 x_m0_0 s_m0_1 x_m0_2 x_m0_3 x_m0_4 x_m0_5 x_m0_6 x_m0_7 a_m0_8 n_m0_8 c_m0_8 s_m0_9 s_m0_10 x_m0_11 t_m0_12 a_m0_13 n_m0_13 c_m0_13 w → ref04_only_C3 s_3 t_82 bm0 x_m0_0 s_m0_1 x_m0_2 x_m0_3 x_m0_4 x_m0_5 x_m0_6 x_m0_7 a_m0_8 n_m0_8 c_m0_8 s_m0_9 s_m0_10 x_m0_11 t_m0_12 a_m0_13 n_m0_13 c_m0_13 R w) :
    cutD3 ref04_only_la3 ((dnF Try.prog ref04_only_an (code Try.f22) 395 [1, 0, 1, 1, 1, 1]) (kont3 Try.prog ref04_only_an (code Try.f22) [1, 1, 1, 1, 0] [] (post3 Try.prog Try.f22 [] R))) (ref04_only_v3 s_30 t_820 bm00) (ref04_only_m3 bm00 x_m0_00 s_m0_10 x_m0_20 x_m0_30 x_m0_40 x_m0_50 x_m0_60 x_m0_70 a_m0_80 n_m0_80 c_m0_80 s_m0_90 s_m0_100 x_m0_110 t_m0_120 a_m0_130 n_m0_130 c_m0_130) w0 := by
  refine ⟨fun vals mem w => ∃ s_3 t_82 bm0 x_m0_0 s_m0_1 x_m0_2 x_m0_3 x_m0_4 x_m0_5 x_m0_6 x_m0_7 a_m0_8 n_m0_8 c_m0_8 s_m0_9 s_m0_10 x_m0_11 t_m0_12 a_m0_13 n_m0_13 c_m0_13, vals = (ref04_only_v3 s_3 t_82 bm0) ∧ mem = (ref04_only_m3 bm0 x_m0_0 s_m0_1 x_m0_2 x_m0_3 x_m0_4 x_m0_5 x_m0_6 x_m0_7 a_m0_8 n_m0_8 c_m0_8 s_m0_9 s_m0_10 x_m0_11 t_m0_12 a_m0_13 n_m0_13 c_m0_13) ∧ J s_3 t_82 bm0 x_m0_0 s_m0_1 x_m0_2 x_m0_3 x_m0_4 x_m0_5 x_m0_6 x_m0_7 a_m0_8 n_m0_8 c_m0_8 s_m0_9 s_m0_10 x_m0_11 t_m0_12 a_m0_13 n_m0_13 c_m0_13 w, ⟨_, _, _, _, _, _, _, _, _, _, _, _, _, _, _, _, _, _, _, _, _, rfl, rfl, h0⟩, ?_⟩
  rintro vals mem w ⟨s_3, t_82, bm0, x_m0_0, s_m0_1, x_m0_2, x_m0_3, x_m0_4, x_m0_5, x_m0_6, x_m0_7, a_m0_8, n_m0_8, c_m0_8, s_m0_9, s_m0_10, x_m0_11, t_m0_12, a_m0_13, n_m0_13, c_m0_13, rfl, rfl, hJ⟩
  refine ⟨rfl, rfl, fun js => ?_⟩
  have h := hr s_3 t_82 bm0 x_m0_0 s_m0_1 x_m0_2 x_m0_3 x_m0_4 x_m0_5 x_m0_6 x_m0_7 a_m0_8 n_m0_8 c_m0_8 s_m0_9 s_m0_10 x_m0_11 t_m0_12 a_m0_13 n_m0_13 c_m0_13 w hJ
  rw [← ref04_only_C3_eq _ _ _ _ _ _ _ _ _ _ _ _ _ _ _ _ _ _ _ _ _ js] at h
  exact h
theorem ref04_only_at3 {s_3 : ByteArray} {t_82 : Bool} {bm0 : Nat} {x_m0_0 : Int} {s_m0_1 : ByteArray} {x_m0_2 : Int} {x_m0_3 : Int} {x_m0_4 : Int} {x_m0_5 : Int} {x_m0_6 : Int} {x_m0_7 : Int} {a_m0_8 : Option Addr} {n_m0_8 : Nat} {c_m0_8 : Nat} {s_m0_9 : ByteArray} {s_m0_10 : ByteArray} {x_m0_11 : Int} {t_m0_12 : Bool} {a_m0_13 : Option Addr} {n_m0_13 : Nat} {c_m0_13 : Nat} {R : Value → World → Prop} {w : World} (h : ref04_only_C3 s_3 t_82 bm0 x_m0_0 s_m0_1 x_m0_2 x_m0_3 x_m0_4 x_m0_5 x_m0_6 x_m0_7 a_m0_8 n_m0_8 c_m0_8 s_m0_9 s_m0_10 x_m0_11 t_m0_12 a_m0_13 n_m0_13 c_m0_13 R w) :
    cutD3 ref04_only_la3 ((dnF Try.prog ref04_only_an (code Try.f22) 395 [1, 0, 1, 1, 1, 1]) (kont3 Try.prog ref04_only_an (code Try.f22) [1, 1, 1, 1, 0] [] (post3 Try.prog Try.f22 [] R))) (ref04_only_v3 s_3 t_82 bm0) (ref04_only_m3 bm0 x_m0_0 s_m0_1 x_m0_2 x_m0_3 x_m0_4 x_m0_5 x_m0_6 x_m0_7 a_m0_8 n_m0_8 c_m0_8 s_m0_9 s_m0_10 x_m0_11 t_m0_12 a_m0_13 n_m0_13 c_m0_13) w :=
  ref04_only_cut3 (fun s_3' t_82' bm0' x_m0_0' s_m0_1' x_m0_2' x_m0_3' x_m0_4' x_m0_5' x_m0_6' x_m0_7' a_m0_8' n_m0_8' c_m0_8' s_m0_9' s_m0_10' x_m0_11' t_m0_12' a_m0_13' n_m0_13' c_m0_13' w' => s_3' = s_3 ∧ t_82' = t_82 ∧ bm0' = bm0 ∧ x_m0_0' = x_m0_0 ∧ s_m0_1' = s_m0_1 ∧ x_m0_2' = x_m0_2 ∧ x_m0_3' = x_m0_3 ∧ x_m0_4' = x_m0_4 ∧ x_m0_5' = x_m0_5 ∧ x_m0_6' = x_m0_6 ∧ x_m0_7' = x_m0_7 ∧ a_m0_8' = a_m0_8 ∧ n_m0_8' = n_m0_8 ∧ c_m0_8' = c_m0_8 ∧ s_m0_9' = s_m0_9 ∧ s_m0_10' = s_m0_10 ∧ x_m0_11' = x_m0_11 ∧ t_m0_12' = t_m0_12 ∧ a_m0_13' = a_m0_13 ∧ n_m0_13' = n_m0_13 ∧ c_m0_13' = c_m0_13 ∧ w' = w) ⟨rfl, rfl, rfl, rfl, rfl, rfl, rfl, rfl, rfl, rfl, rfl, rfl, rfl, rfl, rfl, rfl, rfl, rfl, rfl, rfl, rfl, rfl⟩ (by rintro s_3' t_82' bm0' x_m0_0' s_m0_1' x_m0_2' x_m0_3' x_m0_4' x_m0_5' x_m0_6' x_m0_7' a_m0_8' n_m0_8' c_m0_8' s_m0_9' s_m0_10' x_m0_11' t_m0_12' a_m0_13' n_m0_13' c_m0_13' w' ⟨rfl, rfl, rfl, rfl, rfl, rfl, rfl, rfl, rfl, rfl, rfl, rfl, rfl, rfl, rfl, rfl, rfl, rfl, rfl, rfl, rfl, rfl⟩; exact h)
def ref04_only_C4 (s_3 : ByteArray) (bm0 : Nat) (x_m0_0 : Int) (s_m0_1 : ByteArray) (x_m0_2 : Int) (x_m0_3 : Int) (x_m0_4 : Int) (x_m0_5 : Int) (x_m0_6 : Int) (x_m0_7 : Int) (a_m0_8 : Option Addr) (n_m0_8 : Nat) (c_m0_8 : Nat) (s_m0_9 : ByteArray) (s_m0_10 : ByteArray) (x_m0_11 : Int) (t_m0_12 : Bool) (a_m0_13 : Option Addr) (n_m0_13 : Nat) (c_m0_13 : Nat) (R : Value → World → Prop) (w : World) : Prop :=
  Calls Try.prog 23 #[(.string s_3), (.int .u8 103)] w fun e w11 => ∃ t12 : Bool, e = .returned (.bool t12) ∧ Keep [bm0] w w11 ∧
  brB (!t12) (
    brB (!(s_m0_9.toList == (⟨#[]⟩ : ByteArray).toList)) (
      cutD3 ref04_only_la5 ((dnF Try.prog ref04_only_an (code Try.f22) 394 [1, 0, 1, 1, 1, 1, 1]) (kont3 Try.prog ref04_only_an (code Try.f22) [1, 1, 1, 1, 1, 0] [] (post3 Try.prog Try.f22 [] R))) (ref04_only_v5 s_3 true bm0) (ref04_only_m5 bm0 x_m0_0 s_m0_1 x_m0_2 x_m0_3 x_m0_4 x_m0_5 x_m0_6 x_m0_7 a_m0_8 n_m0_8 c_m0_8 s_m0_9 s_m0_10 x_m0_11 t_m0_12 a_m0_13 n_m0_13 c_m0_13) w11)
    (
      Calls Try.prog 23 #[(.string s_3), (.int .u8 109)] w11 fun e w15 => ∃ t16 : Bool, e = .returned (.bool t16) ∧ Keep [bm0] w11 w15 ∧
      brB (!t16) (
        brB (!(s_m0_10.toList == (⟨#[]⟩ : ByteArray).toList)) (
          cutD3 ref04_only_la5 ((dnF Try.prog ref04_only_an (code Try.f22) 394 [1, 0, 1, 1, 1, 1, 1]) (kont3 Try.prog ref04_only_an (code Try.f22) [1, 1, 1, 1, 1, 0] [] (post3 Try.prog Try.f22 [] R))) (ref04_only_v5 s_3 true bm0) (ref04_only_m5 bm0 x_m0_0 s_m0_1 x_m0_2 x_m0_3 x_m0_4 x_m0_5 x_m0_6 x_m0_7 a_m0_8 n_m0_8 c_m0_8 s_m0_9 s_m0_10 x_m0_11 t_m0_12 a_m0_13 n_m0_13 c_m0_13) w15)
        (
          Calls Try.prog 23 #[(.string s_3), (.int .u8 101)] w15 fun e w17 => ∃ t18 : Bool, e = .returned (.bool t18) ∧ Keep [bm0] w15 w17 ∧
          brB (!t18) (
            cutD3 ref04_only_la5 ((dnF Try.prog ref04_only_an (code Try.f22) 394 [1, 0, 1, 1, 1, 1, 1]) (kont3 Try.prog ref04_only_an (code Try.f22) [1, 1, 1, 1, 1, 0] [] (post3 Try.prog Try.f22 [] R))) (ref04_only_v5 s_3 (x_m0_11 != 0) bm0) (ref04_only_m5 bm0 x_m0_0 s_m0_1 x_m0_2 x_m0_3 x_m0_4 x_m0_5 x_m0_6 x_m0_7 a_m0_8 n_m0_8 c_m0_8 s_m0_9 s_m0_10 x_m0_11 t_m0_12 a_m0_13 n_m0_13 c_m0_13) w17)
          (
            cutD3 ref04_only_la5 ((dnF Try.prog ref04_only_an (code Try.f22) 394 [1, 0, 1, 1, 1, 1, 1]) (kont3 Try.prog ref04_only_an (code Try.f22) [1, 1, 1, 1, 1, 0] [] (post3 Try.prog Try.f22 [] R))) (ref04_only_v5 s_3 false bm0) (ref04_only_m5 bm0 x_m0_0 s_m0_1 x_m0_2 x_m0_3 x_m0_4 x_m0_5 x_m0_6 x_m0_7 a_m0_8 n_m0_8 c_m0_8 s_m0_9 s_m0_10 x_m0_11 t_m0_12 a_m0_13 n_m0_13 c_m0_13) w17)))
      (
        Calls Try.prog 23 #[(.string s_3), (.int .u8 101)] w15 fun e w19 => ∃ t20 : Bool, e = .returned (.bool t20) ∧ Keep [bm0] w15 w19 ∧
        brB (!t20) (
          cutD3 ref04_only_la5 ((dnF Try.prog ref04_only_an (code Try.f22) 394 [1, 0, 1, 1, 1, 1, 1]) (kont3 Try.prog ref04_only_an (code Try.f22) [1, 1, 1, 1, 1, 0] [] (post3 Try.prog Try.f22 [] R))) (ref04_only_v5 s_3 (x_m0_11 != 0) bm0) (ref04_only_m5 bm0 x_m0_0 s_m0_1 x_m0_2 x_m0_3 x_m0_4 x_m0_5 x_m0_6 x_m0_7 a_m0_8 n_m0_8 c_m0_8 s_m0_9 s_m0_10 x_m0_11 t_m0_12 a_m0_13 n_m0_13 c_m0_13) w19)
        (
          cutD3 ref04_only_la5 ((dnF Try.prog ref04_only_an (code Try.f22) 394 [1, 0, 1, 1, 1, 1, 1]) (kont3 Try.prog ref04_only_an (code Try.f22) [1, 1, 1, 1, 1, 0] [] (post3 Try.prog Try.f22 [] R))) (ref04_only_v5 s_3 false bm0) (ref04_only_m5 bm0 x_m0_0 s_m0_1 x_m0_2 x_m0_3 x_m0_4 x_m0_5 x_m0_6 x_m0_7 a_m0_8 n_m0_8 c_m0_8 s_m0_9 s_m0_10 x_m0_11 t_m0_12 a_m0_13 n_m0_13 c_m0_13) w19))))
  (
    Calls Try.prog 23 #[(.string s_3), (.int .u8 109)] w11 fun e w21 => ∃ t22 : Bool, e = .returned (.bool t22) ∧ Keep [bm0] w11 w21 ∧
    brB (!t22) (
      brB (!(s_m0_10.toList == (⟨#[]⟩ : ByteArray).toList)) (
        cutD3 ref04_only_la5 ((dnF Try.prog ref04_only_an (code Try.f22) 394 [1, 0, 1, 1, 1, 1, 1]) (kont3 Try.prog ref04_only_an (code Try.f22) [1, 1, 1, 1, 1, 0] [] (post3 Try.prog Try.f22 [] R))) (ref04_only_v5 s_3 true bm0) (ref04_only_m5 bm0 x_m0_0 s_m0_1 x_m0_2 x_m0_3 x_m0_4 x_m0_5 x_m0_6 x_m0_7 a_m0_8 n_m0_8 c_m0_8 s_m0_9 s_m0_10 x_m0_11 t_m0_12 a_m0_13 n_m0_13 c_m0_13) w21)
      (
        Calls Try.prog 23 #[(.string s_3), (.int .u8 101)] w21 fun e w23 => ∃ t24 : Bool, e = .returned (.bool t24) ∧ Keep [bm0] w21 w23 ∧
        brB (!t24) (
          cutD3 ref04_only_la5 ((dnF Try.prog ref04_only_an (code Try.f22) 394 [1, 0, 1, 1, 1, 1, 1]) (kont3 Try.prog ref04_only_an (code Try.f22) [1, 1, 1, 1, 1, 0] [] (post3 Try.prog Try.f22 [] R))) (ref04_only_v5 s_3 (x_m0_11 != 0) bm0) (ref04_only_m5 bm0 x_m0_0 s_m0_1 x_m0_2 x_m0_3 x_m0_4 x_m0_5 x_m0_6 x_m0_7 a_m0_8 n_m0_8 c_m0_8 s_m0_9 s_m0_10 x_m0_11 t_m0_12 a_m0_13 n_m0_13 c_m0_13) w23)
        (
          cutD3 ref04_only_la5 ((dnF Try.prog ref04_only_an (code Try.f22) 394 [1, 0, 1, 1, 1, 1, 1]) (kont3 Try.prog ref04_only_an (code Try.f22) [1, 1, 1, 1, 1, 0] [] (post3 Try.prog Try.f22 [] R))) (ref04_only_v5 s_3 false bm0) (ref04_only_m5 bm0 x_m0_0 s_m0_1 x_m0_2 x_m0_3 x_m0_4 x_m0_5 x_m0_6 x_m0_7 a_m0_8 n_m0_8 c_m0_8 s_m0_9 s_m0_10 x_m0_11 t_m0_12 a_m0_13 n_m0_13 c_m0_13) w23)))
    (
      Calls Try.prog 23 #[(.string s_3), (.int .u8 101)] w21 fun e w25 => ∃ t26 : Bool, e = .returned (.bool t26) ∧ Keep [bm0] w21 w25 ∧
      brB (!t26) (
        cutD3 ref04_only_la5 ((dnF Try.prog ref04_only_an (code Try.f22) 394 [1, 0, 1, 1, 1, 1, 1]) (kont3 Try.prog ref04_only_an (code Try.f22) [1, 1, 1, 1, 1, 0] [] (post3 Try.prog Try.f22 [] R))) (ref04_only_v5 s_3 (x_m0_11 != 0) bm0) (ref04_only_m5 bm0 x_m0_0 s_m0_1 x_m0_2 x_m0_3 x_m0_4 x_m0_5 x_m0_6 x_m0_7 a_m0_8 n_m0_8 c_m0_8 s_m0_9 s_m0_10 x_m0_11 t_m0_12 a_m0_13 n_m0_13 c_m0_13) w25)
      (
        cutD3 ref04_only_la5 ((dnF Try.prog ref04_only_an (code Try.f22) 394 [1, 0, 1, 1, 1, 1, 1]) (kont3 Try.prog ref04_only_an (code Try.f22) [1, 1, 1, 1, 1, 0] [] (post3 Try.prog Try.f22 [] R))) (ref04_only_v5 s_3 false bm0) (ref04_only_m5 bm0 x_m0_0 s_m0_1 x_m0_2 x_m0_3 x_m0_4 x_m0_5 x_m0_6 x_m0_7 a_m0_8 n_m0_8 c_m0_8 s_m0_9 s_m0_10 x_m0_11 t_m0_12 a_m0_13 n_m0_13 c_m0_13) w25)))
theorem ref04_only_C4_eq (s_3 : ByteArray) (bm0 : Nat) (x_m0_0 : Int) (s_m0_1 : ByteArray) (x_m0_2 : Int) (x_m0_3 : Int) (x_m0_4 : Int) (x_m0_5 : Int) (x_m0_6 : Int) (x_m0_7 : Int) (a_m0_8 : Option Addr) (n_m0_8 : Nat) (c_m0_8 : Nat) (s_m0_9 : ByteArray) (s_m0_10 : ByteArray) (x_m0_11 : Int) (t_m0_12 : Bool) (a_m0_13 : Option Addr) (n_m0_13 : Nat) (c_m0_13 : Nat) (js : Nat → Value) (R : Value → World → Prop) (w : World) :
    headA ref04_only_la4 ((dnF Try.prog ref04_only_an (code Try.f22) 395 [1, 1, 1, 1, 1]) (kont3 Try.prog ref04_only_an (code Try.f22) [1, 1, 1, 1] [] (post3 Try.prog Try.f22 [] R))) (ref04_only_v4 s_3 bm0) js (ref04_only_m4 bm0 x_m0_0 s_m0_1 x_m0_2 x_m0_3 x_m0_4 x_m0_5 x_m0_6 x_m0_7 a_m0_8 n_m0_8 c_m0_8 s_m0_9 s_m0_10 x_m0_11 t_m0_12 a_m0_13 n_m0_13 c_m0_13) w = ref04_only_C4 s_3 bm0 x_m0_0 s_m0_1 x_m0_2 x_m0_3 x_m0_4 x_m0_5 x_m0_6 x_m0_7 a_m0_8 n_m0_8 c_m0_8 s_m0_9 s_m0_10 x_m0_11 t_m0_12 a_m0_13 n_m0_13 c_m0_13 R w := by kernel_rfl
theorem ref04_only_cut4 {s_30 : ByteArray} {bm00 : Nat} {x_m0_00 : Int} {s_m0_10 : ByteArray} {x_m0_20 : Int} {x_m0_30 : Int} {x_m0_40 : Int} {x_m0_50 : Int} {x_m0_60 : Int} {x_m0_70 : Int} {a_m0_80 : Option Addr} {n_m0_80 : Nat} {c_m0_80 : Nat} {s_m0_90 : ByteArray} {s_m0_100 : ByteArray} {x_m0_110 : Int} {t_m0_120 : Bool} {a_m0_130 : Option Addr} {n_m0_130 : Nat} {c_m0_130 : Nat} {R : Value → World → Prop} {w0 : World} (J : ByteArray → Nat → Int → ByteArray → Int → Int → Int → Int → Int → Int → Option Addr → Nat → Nat → ByteArray → ByteArray → Int → Bool → Option Addr → Nat → Nat → World → Prop) (h0 : J s_30 bm00 x_m0_00 s_m0_10 x_m0_20 x_m0_30 x_m0_40 x_m0_50 x_m0_60 x_m0_70 a_m0_80 n_m0_80 c_m0_80 s_m0_90 s_m0_100 x_m0_110 t_m0_120 a_m0_130 n_m0_130 c_m0_130 w0)
    (hr : ∀ (s_3 : ByteArray) (bm0 : Nat) (x_m0_0 : Int) (s_m0_1 : ByteArray) (x_m0_2 : Int) (x_m0_3 : Int) (x_m0_4 : Int) (x_m0_5 : Int) (x_m0_6 : Int) (x_m0_7 : Int) (a_m0_8 : Option Addr) (n_m0_8 : Nat) (c_m0_8 : Nat) (s_m0_9 : ByteArray) (s_m0_10 : ByteArray) (x_m0_11 : Int) (t_m0_12 : Bool) (a_m0_13 : Option Addr) (n_m0_13 : Nat) (c_m0_13 : Nat) (w : World), J s_3 bm0 x_m0_0 s_m0_1 x_m0_2 x_m0_3 x_m0_4 x_m0_5 x_m0_6 x_m0_7 a_m0_8 n_m0_8 c_m0_8 s_m0_9 s_m0_10 x_m0_11 t_m0_12 a_m0_13 n_m0_13 c_m0_13 w → ref04_only_C4 s_3 bm0 x_m0_0 s_m0_1 x_m0_2 x_m0_3 x_m0_4 x_m0_5 x_m0_6 x_m0_7 a_m0_8 n_m0_8 c_m0_8 s_m0_9 s_m0_10 x_m0_11 t_m0_12 a_m0_13 n_m0_13 c_m0_13 R w) :
    cutD3 ref04_only_la4 ((dnF Try.prog ref04_only_an (code Try.f22) 395 [1, 1, 1, 1, 1]) (kont3 Try.prog ref04_only_an (code Try.f22) [1, 1, 1, 1] [] (post3 Try.prog Try.f22 [] R))) (ref04_only_v4 s_30 bm00) (ref04_only_m4 bm00 x_m0_00 s_m0_10 x_m0_20 x_m0_30 x_m0_40 x_m0_50 x_m0_60 x_m0_70 a_m0_80 n_m0_80 c_m0_80 s_m0_90 s_m0_100 x_m0_110 t_m0_120 a_m0_130 n_m0_130 c_m0_130) w0 := by
  refine ⟨fun vals mem w => ∃ s_3 bm0 x_m0_0 s_m0_1 x_m0_2 x_m0_3 x_m0_4 x_m0_5 x_m0_6 x_m0_7 a_m0_8 n_m0_8 c_m0_8 s_m0_9 s_m0_10 x_m0_11 t_m0_12 a_m0_13 n_m0_13 c_m0_13, vals = (ref04_only_v4 s_3 bm0) ∧ mem = (ref04_only_m4 bm0 x_m0_0 s_m0_1 x_m0_2 x_m0_3 x_m0_4 x_m0_5 x_m0_6 x_m0_7 a_m0_8 n_m0_8 c_m0_8 s_m0_9 s_m0_10 x_m0_11 t_m0_12 a_m0_13 n_m0_13 c_m0_13) ∧ J s_3 bm0 x_m0_0 s_m0_1 x_m0_2 x_m0_3 x_m0_4 x_m0_5 x_m0_6 x_m0_7 a_m0_8 n_m0_8 c_m0_8 s_m0_9 s_m0_10 x_m0_11 t_m0_12 a_m0_13 n_m0_13 c_m0_13 w, ⟨_, _, _, _, _, _, _, _, _, _, _, _, _, _, _, _, _, _, _, _, rfl, rfl, h0⟩, ?_⟩
  rintro vals mem w ⟨s_3, bm0, x_m0_0, s_m0_1, x_m0_2, x_m0_3, x_m0_4, x_m0_5, x_m0_6, x_m0_7, a_m0_8, n_m0_8, c_m0_8, s_m0_9, s_m0_10, x_m0_11, t_m0_12, a_m0_13, n_m0_13, c_m0_13, rfl, rfl, hJ⟩
  refine ⟨rfl, rfl, fun js => ?_⟩
  have h := hr s_3 bm0 x_m0_0 s_m0_1 x_m0_2 x_m0_3 x_m0_4 x_m0_5 x_m0_6 x_m0_7 a_m0_8 n_m0_8 c_m0_8 s_m0_9 s_m0_10 x_m0_11 t_m0_12 a_m0_13 n_m0_13 c_m0_13 w hJ
  rw [← ref04_only_C4_eq _ _ _ _ _ _ _ _ _ _ _ _ _ _ _ _ _ _ _ _ js] at h
  exact h
theorem ref04_only_at4 {s_3 : ByteArray} {bm0 : Nat} {x_m0_0 : Int} {s_m0_1 : ByteArray} {x_m0_2 : Int} {x_m0_3 : Int} {x_m0_4 : Int} {x_m0_5 : Int} {x_m0_6 : Int} {x_m0_7 : Int} {a_m0_8 : Option Addr} {n_m0_8 : Nat} {c_m0_8 : Nat} {s_m0_9 : ByteArray} {s_m0_10 : ByteArray} {x_m0_11 : Int} {t_m0_12 : Bool} {a_m0_13 : Option Addr} {n_m0_13 : Nat} {c_m0_13 : Nat} {R : Value → World → Prop} {w : World} (h : ref04_only_C4 s_3 bm0 x_m0_0 s_m0_1 x_m0_2 x_m0_3 x_m0_4 x_m0_5 x_m0_6 x_m0_7 a_m0_8 n_m0_8 c_m0_8 s_m0_9 s_m0_10 x_m0_11 t_m0_12 a_m0_13 n_m0_13 c_m0_13 R w) :
    cutD3 ref04_only_la4 ((dnF Try.prog ref04_only_an (code Try.f22) 395 [1, 1, 1, 1, 1]) (kont3 Try.prog ref04_only_an (code Try.f22) [1, 1, 1, 1] [] (post3 Try.prog Try.f22 [] R))) (ref04_only_v4 s_3 bm0) (ref04_only_m4 bm0 x_m0_0 s_m0_1 x_m0_2 x_m0_3 x_m0_4 x_m0_5 x_m0_6 x_m0_7 a_m0_8 n_m0_8 c_m0_8 s_m0_9 s_m0_10 x_m0_11 t_m0_12 a_m0_13 n_m0_13 c_m0_13) w :=
  ref04_only_cut4 (fun s_3' bm0' x_m0_0' s_m0_1' x_m0_2' x_m0_3' x_m0_4' x_m0_5' x_m0_6' x_m0_7' a_m0_8' n_m0_8' c_m0_8' s_m0_9' s_m0_10' x_m0_11' t_m0_12' a_m0_13' n_m0_13' c_m0_13' w' => s_3' = s_3 ∧ bm0' = bm0 ∧ x_m0_0' = x_m0_0 ∧ s_m0_1' = s_m0_1 ∧ x_m0_2' = x_m0_2 ∧ x_m0_3' = x_m0_3 ∧ x_m0_4' = x_m0_4 ∧ x_m0_5' = x_m0_5 ∧ x_m0_6' = x_m0_6 ∧ x_m0_7' = x_m0_7 ∧ a_m0_8' = a_m0_8 ∧ n_m0_8' = n_m0_8 ∧ c_m0_8' = c_m0_8 ∧ s_m0_9' = s_m0_9 ∧ s_m0_10' = s_m0_10 ∧ x_m0_11' = x_m0_11 ∧ t_m0_12' = t_m0_12 ∧ a_m0_13' = a_m0_13 ∧ n_m0_13' = n_m0_13 ∧ c_m0_13' = c_m0_13 ∧ w' = w) ⟨rfl, rfl, rfl, rfl, rfl, rfl, rfl, rfl, rfl, rfl, rfl, rfl, rfl, rfl, rfl, rfl, rfl, rfl, rfl, rfl, rfl⟩ (by rintro s_3' bm0' x_m0_0' s_m0_1' x_m0_2' x_m0_3' x_m0_4' x_m0_5' x_m0_6' x_m0_7' a_m0_8' n_m0_8' c_m0_8' s_m0_9' s_m0_10' x_m0_11' t_m0_12' a_m0_13' n_m0_13' c_m0_13' w' ⟨rfl, rfl, rfl, rfl, rfl, rfl, rfl, rfl, rfl, rfl, rfl, rfl, rfl, rfl, rfl, rfl, rfl, rfl, rfl, rfl, rfl⟩; exact h)
def ref04_only_C5 (s_3 : ByteArray) (t_110 : Bool) (bm0 : Nat) (x_m0_0 : Int) (s_m0_1 : ByteArray) (x_m0_2 : Int) (x_m0_3 : Int) (x_m0_4 : Int) (x_m0_5 : Int) (x_m0_6 : Int) (x_m0_7 : Int) (a_m0_8 : Option Addr) (n_m0_8 : Nat) (c_m0_8 : Nat) (s_m0_9 : ByteArray) (s_m0_10 : ByteArray) (x_m0_11 : Int) (t_m0_12 : Bool) (a_m0_13 : Option Addr) (n_m0_13 : Nat) (c_m0_13 : Nat) (R : Value → World → Prop) (w : World) : Prop :=
  brB t_110 (
    R (.bool false) w)
  (
    cutD3 ref04_only_la6 ((dnF Try.prog ref04_only_an (code Try.f22) 394 [1, 1, 1, 1, 1, 1]) (kont3 Try.prog ref04_only_an (code Try.f22) [1, 1, 1, 1, 1] [] (post3 Try.prog Try.f22 [] R))) (ref04_only_v6 s_3 bm0) (ref04_only_m6 bm0 x_m0_0 s_m0_1 x_m0_2 x_m0_3 x_m0_4 x_m0_5 x_m0_6 x_m0_7 a_m0_8 n_m0_8 c_m0_8 s_m0_9 s_m0_10 x_m0_11 t_m0_12 a_m0_13 n_m0_13 c_m0_13) w)
theorem ref04_only_C5_eq (s_3 : ByteArray) (t_110 : Bool) (bm0 : Nat) (x_m0_0 : Int) (s_m0_1 : ByteArray) (x_m0_2 : Int) (x_m0_3 : Int) (x_m0_4 : Int) (x_m0_5 : Int) (x_m0_6 : Int) (x_m0_7 : Int) (a_m0_8 : Option Addr) (n_m0_8 : Nat) (c_m0_8 : Nat) (s_m0_9 : ByteArray) (s_m0_10 : ByteArray) (x_m0_11 : Int) (t_m0_12 : Bool) (a_m0_13 : Option Addr) (n_m0_13 : Nat) (c_m0_13 : Nat) (js : Nat → Value) (R : Value → World → Prop) (w : World) :
    headA ref04_only_la5 ((dnF Try.prog ref04_only_an (code Try.f22) 394 [1, 0, 1, 1, 1, 1, 1]) (kont3 Try.prog ref04_only_an (code Try.f22) [1, 1, 1, 1, 1, 0] [] (post3 Try.prog Try.f22 [] R))) (ref04_only_v5 s_3 t_110 bm0) js (ref04_only_m5 bm0 x_m0_0 s_m0_1 x_m0_2 x_m0_3 x_m0_4 x_m0_5 x_m0_6 x_m0_7 a_m0_8 n_m0_8 c_m0_8 s_m0_9 s_m0_10 x_m0_11 t_m0_12 a_m0_13 n_m0_13 c_m0_13) w = ref04_only_C5 s_3 t_110 bm0 x_m0_0 s_m0_1 x_m0_2 x_m0_3 x_m0_4 x_m0_5 x_m0_6 x_m0_7 a_m0_8 n_m0_8 c_m0_8 s_m0_9 s_m0_10 x_m0_11 t_m0_12 a_m0_13 n_m0_13 c_m0_13 R w := by kernel_rfl
theorem ref04_only_cut5 {s_30 : ByteArray} {t_1100 : Bool} {bm00 : Nat} {x_m0_00 : Int} {s_m0_10 : ByteArray} {x_m0_20 : Int} {x_m0_30 : Int} {x_m0_40 : Int} {x_m0_50 : Int} {x_m0_60 : Int} {x_m0_70 : Int} {a_m0_80 : Option Addr} {n_m0_80 : Nat} {c_m0_80 : Nat} {s_m0_90 : ByteArray} {s_m0_100 : ByteArray} {x_m0_110 : Int} {t_m0_120 : Bool} {a_m0_130 : Option Addr} {n_m0_130 : Nat} {c_m0_130 : Nat} {R : Value → World → Prop} {w0 : World} (J : ByteArray → Bool → Nat → Int → ByteArray → Int → Int → Int → Int → Int → Int → Option Addr → Nat → Nat → ByteArray → ByteArray → Int → Bool → Option Addr → Nat → Nat → World → Prop) (h0 : J s_30 t_1100 bm00 x_m0_00 s_m0_10 x_m0_20 x_m0_30 x_m0_40 x_m0_50 x_m0_60 x_m0_70 a_m0_80 n_m0_80 c_m0_80 s_m0_90 s_m0_100 x_m0_110 t_m0_120 a_m0_130 n_m0_130 c_m0_130 w0)
    (hr : ∀ (s_3 : ByteArray) (t_110 : Bool) (bm0 : Nat) (x_m0_0 : Int) (s_m0_1 : ByteArray) (x_m0_2 : Int) (x_m0_3 : Int) (x_m0_4 : Int) (x_m0_5 : Int) (x_m0_6 : Int) (x_m0_7 : Int) (a_m0_8 : Option Addr) (n_m0_8 : Nat) (c_m0_8 : Nat) (s_m0_9 : ByteArray) (s_m0_10 : ByteArray) (x_m0_11 : Int) (t_m0_12 : Bool) (a_m0_13 : Option Addr) (n_m0_13 : Nat) (c_m0_13 : Nat) (w : World), J s_3 t_110 bm0 x_m0_0 s_m0_1 x_m0_2 x_m0_3 x_m0_4 x_m0_5 x_m0_6 x_m0_7 a_m0_8 n_m0_8 c_m0_8 s_m0_9 s_m0_10 x_m0_11 t_m0_12 a_m0_13 n_m0_13 c_m0_13 w → ref04_only_C5 s_3 t_110 bm0 x_m0_0 s_m0_1 x_m0_2 x_m0_3 x_m0_4 x_m0_5 x_m0_6 x_m0_7 a_m0_8 n_m0_8 c_m0_8 s_m0_9 s_m0_10 x_m0_11 t_m0_12 a_m0_13 n_m0_13 c_m0_13 R w) :
    cutD3 ref04_only_la5 ((dnF Try.prog ref04_only_an (code Try.f22) 394 [1, 0, 1, 1, 1, 1, 1]) (kont3 Try.prog ref04_only_an (code Try.f22) [1, 1, 1, 1, 1, 0] [] (post3 Try.prog Try.f22 [] R))) (ref04_only_v5 s_30 t_1100 bm00) (ref04_only_m5 bm00 x_m0_00 s_m0_10 x_m0_20 x_m0_30 x_m0_40 x_m0_50 x_m0_60 x_m0_70 a_m0_80 n_m0_80 c_m0_80 s_m0_90 s_m0_100 x_m0_110 t_m0_120 a_m0_130 n_m0_130 c_m0_130) w0 := by
  refine ⟨fun vals mem w => ∃ s_3 t_110 bm0 x_m0_0 s_m0_1 x_m0_2 x_m0_3 x_m0_4 x_m0_5 x_m0_6 x_m0_7 a_m0_8 n_m0_8 c_m0_8 s_m0_9 s_m0_10 x_m0_11 t_m0_12 a_m0_13 n_m0_13 c_m0_13, vals = (ref04_only_v5 s_3 t_110 bm0) ∧ mem = (ref04_only_m5 bm0 x_m0_0 s_m0_1 x_m0_2 x_m0_3 x_m0_4 x_m0_5 x_m0_6 x_m0_7 a_m0_8 n_m0_8 c_m0_8 s_m0_9 s_m0_10 x_m0_11 t_m0_12 a_m0_13 n_m0_13 c_m0_13) ∧ J s_3 t_110 bm0 x_m0_0 s_m0_1 x_m0_2 x_m0_3 x_m0_4 x_m0_5 x_m0_6 x_m0_7 a_m0_8 n_m0_8 c_m0_8 s_m0_9 s_m0_10 x_m0_11 t_m0_12 a_m0_13 n_m0_13 c_m0_13 w, ⟨_, _, _, _, _, _, _, _, _, _, _, _, _, _, _, _, _, _, _, _, _, rfl, rfl, h0⟩, ?_⟩
  rintro vals mem w ⟨s_3, t_110, bm0, x_m0_0, s_m0_1, x_m0_2, x_m0_3, x_m0_4, x_m0_5, x_m0_6, x_m0_7, a_m0_8, n_m0_8, c_m0_8, s_m0_9, s_m0_10, x_m0_11, t_m0_12, a_m0_13, n_m0_13, c_m0_13, rfl, rfl, hJ⟩
  refine ⟨rfl, rfl, fun js => ?_⟩
  have h := hr s_3 t_110 bm0 x_m0_0 s_m0_1 x_m0_2 x_m0_3 x_m0_4 x_m0_5 x_m0_6 x_m0_7 a_m0_8 n_m0_8 c_m0_8 s_m0_9 s_m0_10 x_m0_11 t_m0_12 a_m0_13 n_m0_13 c_m0_13 w hJ
  rw [← ref04_only_C5_eq _ _ _ _ _ _ _ _ _ _ _ _ _ _ _ _ _ _ _ _ _ js] at h
  exact h
theorem ref04_only_at5 {s_3 : ByteArray} {t_110 : Bool} {bm0 : Nat} {x_m0_0 : Int} {s_m0_1 : ByteArray} {x_m0_2 : Int} {x_m0_3 : Int} {x_m0_4 : Int} {x_m0_5 : Int} {x_m0_6 : Int} {x_m0_7 : Int} {a_m0_8 : Option Addr} {n_m0_8 : Nat} {c_m0_8 : Nat} {s_m0_9 : ByteArray} {s_m0_10 : ByteArray} {x_m0_11 : Int} {t_m0_12 : Bool} {a_m0_13 : Option Addr} {n_m0_13 : Nat} {c_m0_13 : Nat} {R : Value → World → Prop} {w : World} (h : ref04_only_C5 s_3 t_110 bm0 x_m0_0 s_m0_1 x_m0_2 x_m0_3 x_m0_4 x_m0_5 x_m0_6 x_m0_7 a_m0_8 n_m0_8 c_m0_8 s_m0_9 s_m0_10 x_m0_11 t_m0_12 a_m0_13 n_m0_13 c_m0_13 R w) :
    cutD3 ref04_only_la5 ((dnF Try.prog ref04_only_an (code Try.f22) 394 [1, 0, 1, 1, 1, 1, 1]) (kont3 Try.prog ref04_only_an (code Try.f22) [1, 1, 1, 1, 1, 0] [] (post3 Try.prog Try.f22 [] R))) (ref04_only_v5 s_3 t_110 bm0) (ref04_only_m5 bm0 x_m0_0 s_m0_1 x_m0_2 x_m0_3 x_m0_4 x_m0_5 x_m0_6 x_m0_7 a_m0_8 n_m0_8 c_m0_8 s_m0_9 s_m0_10 x_m0_11 t_m0_12 a_m0_13 n_m0_13 c_m0_13) w :=
  ref04_only_cut5 (fun s_3' t_110' bm0' x_m0_0' s_m0_1' x_m0_2' x_m0_3' x_m0_4' x_m0_5' x_m0_6' x_m0_7' a_m0_8' n_m0_8' c_m0_8' s_m0_9' s_m0_10' x_m0_11' t_m0_12' a_m0_13' n_m0_13' c_m0_13' w' => s_3' = s_3 ∧ t_110' = t_110 ∧ bm0' = bm0 ∧ x_m0_0' = x_m0_0 ∧ s_m0_1' = s_m0_1 ∧ x_m0_2' = x_m0_2 ∧ x_m0_3' = x_m0_3 ∧ x_m0_4' = x_m0_4 ∧ x_m0_5' = x_m0_5 ∧ x_m0_6' = x_m0_6 ∧ x_m0_7' = x_m0_7 ∧ a_m0_8' = a_m0_8 ∧ n_m0_8' = n_m0_8 ∧ c_m0_8' = c_m0_8 ∧ s_m0_9' = s_m0_9 ∧ s_m0_10' = s_m0_10 ∧ x_m0_11' = x_m0_11 ∧ t_m0_12' = t_m0_12 ∧ a_m0_13' = a_m0_13 ∧ n_m0_13' = n_m0_13 ∧ c_m0_13' = c_m0_13 ∧ w' = w) ⟨rfl, rfl, rfl, rfl, rfl, rfl, rfl, rfl, rfl, rfl, rfl, rfl, rfl, rfl, rfl, rfl, rfl, rfl, rfl, rfl, rfl, rfl⟩ (by rintro s_3' t_110' bm0' x_m0_0' s_m0_1' x_m0_2' x_m0_3' x_m0_4' x_m0_5' x_m0_6' x_m0_7' a_m0_8' n_m0_8' c_m0_8' s_m0_9' s_m0_10' x_m0_11' t_m0_12' a_m0_13' n_m0_13' c_m0_13' w' ⟨rfl, rfl, rfl, rfl, rfl, rfl, rfl, rfl, rfl, rfl, rfl, rfl, rfl, rfl, rfl, rfl, rfl, rfl, rfl, rfl, rfl, rfl⟩; exact h)
def ref04_only_C6 (s_3 : ByteArray) (bm0 : Nat) (x_m0_0 : Int) (s_m0_1 : ByteArray) (x_m0_2 : Int) (x_m0_3 : Int) (x_m0_4 : Int) (x_m0_5 : Int) (x_m0_6 : Int) (x_m0_7 : Int) (a_m0_8 : Option Addr) (n_m0_8 : Nat) (c_m0_8 : Nat) (s_m0_9 : ByteArray) (s_m0_10 : ByteArray) (x_m0_11 : Int) (t_m0_12 : Bool) (a_m0_13 : Option Addr) (n_m0_13 : Nat) (c_m0_13 : Nat) (R : Value → World → Prop) (w : World) : Prop :=
  Calls Try.prog 23 #[(.string s_3), (.int .u8 114)] w fun e w13 => ∃ t14 : Bool, e = .returned (.bool t14) ∧ Keep [bm0] w w13 ∧
  brB t14 (
    R (.bool true) w13)
  (
    brB (!t_m0_12) (
      R (.bool ((n_m0_13 : Int) == 0)) w13)
    (
      R (.bool false) w13))
theorem ref04_only_C6_eq (s_3 : ByteArray) (bm0 : Nat) (x_m0_0 : Int) (s_m0_1 : ByteArray) (x_m0_2 : Int) (x_m0_3 : Int) (x_m0_4 : Int) (x_m0_5 : Int) (x_m0_6 : Int) (x_m0_7 : Int) (a_m0_8 : Option Addr) (n_m0_8 : Nat) (c_m0_8 : Nat) (s_m0_9 : ByteArray) (s_m0_10 : ByteArray) (x_m0_11 : Int) (t_m0_12 : Bool) (a_m0_13 : Option Addr) (n_m0_13 : Nat) (c_m0_13 : Nat) (js : Nat → Value) (R : Value → World → Prop) (w : World) :
    headA ref04_only_la6 ((dnF Try.prog ref04_only_an (code Try.f22) 394 [1, 1, 1, 1, 1, 1]) (kont3 Try.prog ref04_only_an (code Try.f22) [1, 1, 1, 1, 1] [] (post3 Try.prog Try.f22 [] R))) (ref04_only_v6 s_3 bm0) js (ref04_only_m6 bm0 x_m0_0 s_m0_1 x_m0_2 x_m0_3 x_m0_4 x_m0_5 x_m0_6 x_m0_7 a_m0_8 n_m0_8 c_m0_8 s_m0_9 s_m0_10 x_m0_11 t_m0_12 a_m0_13 n_m0_13 c_m0_13) w = ref04_only_C6 s_3 bm0 x_m0_0 s_m0_1 x_m0_2 x_m0_3 x_m0_4 x_m0_5 x_m0_6 x_m0_7 a_m0_8 n_m0_8 c_m0_8 s_m0_9 s_m0_10 x_m0_11 t_m0_12 a_m0_13 n_m0_13 c_m0_13 R w := by kernel_rfl
theorem ref04_only_cut6 {s_30 : ByteArray} {bm00 : Nat} {x_m0_00 : Int} {s_m0_10 : ByteArray} {x_m0_20 : Int} {x_m0_30 : Int} {x_m0_40 : Int} {x_m0_50 : Int} {x_m0_60 : Int} {x_m0_70 : Int} {a_m0_80 : Option Addr} {n_m0_80 : Nat} {c_m0_80 : Nat} {s_m0_90 : ByteArray} {s_m0_100 : ByteArray} {x_m0_110 : Int} {t_m0_120 : Bool} {a_m0_130 : Option Addr} {n_m0_130 : Nat} {c_m0_130 : Nat} {R : Value → World → Prop} {w0 : World} (J : ByteArray → Nat → Int → ByteArray → Int → Int → Int → Int → Int → Int → Option Addr → Nat → Nat → ByteArray → ByteArray → Int → Bool → Option Addr → Nat → Nat → World → Prop) (h0 : J s_30 bm00 x_m0_00 s_m0_10 x_m0_20 x_m0_30 x_m0_40 x_m0_50 x_m0_60 x_m0_70 a_m0_80 n_m0_80 c_m0_80 s_m0_90 s_m0_100 x_m0_110 t_m0_120 a_m0_130 n_m0_130 c_m0_130 w0)
    (hr : ∀ (s_3 : ByteArray) (bm0 : Nat) (x_m0_0 : Int) (s_m0_1 : ByteArray) (x_m0_2 : Int) (x_m0_3 : Int) (x_m0_4 : Int) (x_m0_5 : Int) (x_m0_6 : Int) (x_m0_7 : Int) (a_m0_8 : Option Addr) (n_m0_8 : Nat) (c_m0_8 : Nat) (s_m0_9 : ByteArray) (s_m0_10 : ByteArray) (x_m0_11 : Int) (t_m0_12 : Bool) (a_m0_13 : Option Addr) (n_m0_13 : Nat) (c_m0_13 : Nat) (w : World), J s_3 bm0 x_m0_0 s_m0_1 x_m0_2 x_m0_3 x_m0_4 x_m0_5 x_m0_6 x_m0_7 a_m0_8 n_m0_8 c_m0_8 s_m0_9 s_m0_10 x_m0_11 t_m0_12 a_m0_13 n_m0_13 c_m0_13 w → ref04_only_C6 s_3 bm0 x_m0_0 s_m0_1 x_m0_2 x_m0_3 x_m0_4 x_m0_5 x_m0_6 x_m0_7 a_m0_8 n_m0_8 c_m0_8 s_m0_9 s_m0_10 x_m0_11 t_m0_12 a_m0_13 n_m0_13 c_m0_13 R w) :
    cutD3 ref04_only_la6 ((dnF Try.prog ref04_only_an (code Try.f22) 394 [1, 1, 1, 1, 1, 1]) (kont3 Try.prog ref04_only_an (code Try.f22) [1, 1, 1, 1, 1] [] (post3 Try.prog Try.f22 [] R))) (ref04_only_v6 s_30 bm00) (ref04_only_m6 bm00 x_m0_00 s_m0_10 x_m0_20 x_m0_30 x_m0_40 x_m0_50 x_m0_60 x_m0_70 a_m0_80 n_m0_80 c_m0_80 s_m0_90 s_m0_100 x_m0_110 t_m0_120 a_m0_130 n_m0_130 c_m0_130) w0 := by
  refine ⟨fun vals mem w => ∃ s_3 bm0 x_m0_0 s_m0_1 x_m0_2 x_m0_3 x_m0_4 x_m0_5 x_m0_6 x_m0_7 a_m0_8 n_m0_8 c_m0_8 s_m0_9 s_m0_10 x_m0_11 t_m0_12 a_m0_13 n_m0_13 c_m0_13, vals = (ref04_only_v6 s_3 bm0) ∧ mem = (ref04_only_m6 bm0 x_m0_0 s_m0_1 x_m0_2 x_m0_3 x_m0_4 x_m0_5 x_m0_6 x_m0_7 a_m0_8 n_m0_8 c_m0_8 s_m0_9 s_m0_10 x_m0_11 t_m0_12 a_m0_13 n_m0_13 c_m0_13) ∧ J s_3 bm0 x_m0_0 s_m0_1 x_m0_2 x_m0_3 x_m0_4 x_m0_5 x_m0_6 x_m0_7 a_m0_8 n_m0_8 c_m0_8 s_m0_9 s_m0_10 x_m0_11 t_m0_12 a_m0_13 n_m0_13 c_m0_13 w, ⟨_, _, _, _, _, _, _, _, _, _, _, _, _, _, _, _, _, _, _, _, rfl, rfl, h0⟩, ?_⟩
  rintro vals mem w ⟨s_3, bm0, x_m0_0, s_m0_1, x_m0_2, x_m0_3, x_m0_4, x_m0_5, x_m0_6, x_m0_7, a_m0_8, n_m0_8, c_m0_8, s_m0_9, s_m0_10, x_m0_11, t_m0_12, a_m0_13, n_m0_13, c_m0_13, rfl, rfl, hJ⟩
  refine ⟨rfl, rfl, fun js => ?_⟩
  have h := hr s_3 bm0 x_m0_0 s_m0_1 x_m0_2 x_m0_3 x_m0_4 x_m0_5 x_m0_6 x_m0_7 a_m0_8 n_m0_8 c_m0_8 s_m0_9 s_m0_10 x_m0_11 t_m0_12 a_m0_13 n_m0_13 c_m0_13 w hJ
  rw [← ref04_only_C6_eq _ _ _ _ _ _ _ _ _ _ _ _ _ _ _ _ _ _ _ _ js] at h
  exact h
theorem ref04_only_at6 {s_3 : ByteArray} {bm0 : Nat} {x_m0_0 : Int} {s_m0_1 : ByteArray} {x_m0_2 : Int} {x_m0_3 : Int} {x_m0_4 : Int} {x_m0_5 : Int} {x_m0_6 : Int} {x_m0_7 : Int} {a_m0_8 : Option Addr} {n_m0_8 : Nat} {c_m0_8 : Nat} {s_m0_9 : ByteArray} {s_m0_10 : ByteArray} {x_m0_11 : Int} {t_m0_12 : Bool} {a_m0_13 : Option Addr} {n_m0_13 : Nat} {c_m0_13 : Nat} {R : Value → World → Prop} {w : World} (h : ref04_only_C6 s_3 bm0 x_m0_0 s_m0_1 x_m0_2 x_m0_3 x_m0_4 x_m0_5 x_m0_6 x_m0_7 a_m0_8 n_m0_8 c_m0_8 s_m0_9 s_m0_10 x_m0_11 t_m0_12 a_m0_13 n_m0_13 c_m0_13 R w) :
    cutD3 ref04_only_la6 ((dnF Try.prog ref04_only_an (code Try.f22) 394 [1, 1, 1, 1, 1, 1]) (kont3 Try.prog ref04_only_an (code Try.f22) [1, 1, 1, 1, 1] [] (post3 Try.prog Try.f22 [] R))) (ref04_only_v6 s_3 bm0) (ref04_only_m6 bm0 x_m0_0 s_m0_1 x_m0_2 x_m0_3 x_m0_4 x_m0_5 x_m0_6 x_m0_7 a_m0_8 n_m0_8 c_m0_8 s_m0_9 s_m0_10 x_m0_11 t_m0_12 a_m0_13 n_m0_13 c_m0_13) w :=
  ref04_only_cut6 (fun s_3' bm0' x_m0_0' s_m0_1' x_m0_2' x_m0_3' x_m0_4' x_m0_5' x_m0_6' x_m0_7' a_m0_8' n_m0_8' c_m0_8' s_m0_9' s_m0_10' x_m0_11' t_m0_12' a_m0_13' n_m0_13' c_m0_13' w' => s_3' = s_3 ∧ bm0' = bm0 ∧ x_m0_0' = x_m0_0 ∧ s_m0_1' = s_m0_1 ∧ x_m0_2' = x_m0_2 ∧ x_m0_3' = x_m0_3 ∧ x_m0_4' = x_m0_4 ∧ x_m0_5' = x_m0_5 ∧ x_m0_6' = x_m0_6 ∧ x_m0_7' = x_m0_7 ∧ a_m0_8' = a_m0_8 ∧ n_m0_8' = n_m0_8 ∧ c_m0_8' = c_m0_8 ∧ s_m0_9' = s_m0_9 ∧ s_m0_10' = s_m0_10 ∧ x_m0_11' = x_m0_11 ∧ t_m0_12' = t_m0_12 ∧ a_m0_13' = a_m0_13 ∧ n_m0_13' = n_m0_13 ∧ c_m0_13' = c_m0_13 ∧ w' = w) ⟨rfl, rfl, rfl, rfl, rfl, rfl, rfl, rfl, rfl, rfl, rfl, rfl, rfl, rfl, rfl, rfl, rfl, rfl, rfl, rfl, rfl⟩ (by rintro s_3' bm0' x_m0_0' s_m0_1' x_m0_2' x_m0_3' x_m0_4' x_m0_5' x_m0_6' x_m0_7' a_m0_8' n_m0_8' c_m0_8' s_m0_9' s_m0_10' x_m0_11' t_m0_12' a_m0_13' n_m0_13' c_m0_13' w' ⟨rfl, rfl, rfl, rfl, rfl, rfl, rfl, rfl, rfl, rfl, rfl, rfl, rfl, rfl, rfl, rfl, rfl, rfl, rfl, rfl, rfl⟩; exact h)
/-- stagecoach/stagecoachref04.only -/
def ref04_only_T (a0_o_0 : Int) (a0_o_1 : ByteArray) (a0_o_2 : Int) (a0_o_3 : Int) (a0_o_4 : Int) (a0_o_5 : Int) (a0_o_6 : Int) (a0_o_7 : Int) (a0_o_8_a : Option Addr) (a0_o_8_n : Nat) (a0_o_8_c : Nat) (a0_o_9 : ByteArray) (a0_o_10 : ByteArray) (a0_o_11 : Int) (a0_o_12 : Bool) (a0_o_13_a : Option Addr) (a0_o_13_n : Nat) (a0_o_13_c : Nat) (R : Value → World → Prop) (w : World) : Prop :=
  ∀ b1, w.heap.size ≤ b1 →
  ∀ w2, Adv [] [b1] w w2 →
  Calls Try.prog 21 #[(.int .i64 a0_o_0)] w2 fun e w3 => ∃ s4 : ByteArray, e = .returned (.string s4) ∧ Keep [b1] w2 w3 ∧
  Calls Try.prog 23 #[(.string s4), (.int .u8 112)] w3 fun e w5 => ∃ t6 : Bool, e = .returned (.bool t6) ∧ Keep [b1] w3 w5 ∧
  Calls Try.prog 23 #[(.string s4), (.int .u8 116)] w5 fun e w7 => ∃ t8 : Bool, e = .returned (.bool t8) ∧ Keep [b1] w5 w7 ∧
  brB (!t6) (
    brB (!t8) (
      brB (!(a0_o_1.toList == (⟨#[]⟩ : ByteArray).toList)) (
        cutD3 ref04_only_la1 ((dnF Try.prog ref04_only_an (code Try.f22) 396 [1, 0, 1, 1, 1]) (kont3 Try.prog ref04_only_an (code Try.f22) [1, 1, 1, 0] [] (post3 Try.prog Try.f22 [] R))) (ref04_only_v1 s4 true b1) (ref04_only_m1 b1 a0_o_0 a0_o_1 a0_o_2 a0_o_3 a0_o_4 a0_o_5 a0_o_6 a0_o_7 a0_o_8_a a0_o_8_n a0_o_8_c a0_o_9 a0_o_10 a0_o_11 a0_o_12 a0_o_13_a a0_o_13_n a0_o_13_c) w7)
      (
        brB (!t6) (
          brB (a0_o_2 != 0) (
            cutD3 ref04_only_la1 ((dnF Try.prog ref04_only_an (code Try.f22) 396 [1, 0, 1, 1, 1]) (kont3 Try.prog ref04_only_an (code Try.f22) [1, 1, 1, 0] [] (post3 Try.prog Try.f22 [] R))) (ref04_only_v1 s4 true b1) (ref04_only_m1 b1 a0_o_0 a0_o_1 a0_o_2 a0_o_3 a0_o_4 a0_o_5 a0_o_6 a0_o_7 a0_o_8_a a0_o_8_n a0_o_8_c a0_o_9 a0_o_10 a0_o_11 a0_o_12 a0_o_13_a a0_o_13_n a0_o_13_c) w7)
          (
            Calls Try.prog 23 #[(.string s4), (.int .u8 110)] w7 fun e w27 => ∃ t28 : Bool, e = .returned (.bool t28) ∧ Keep [b1] w7 w27 ∧
            brB (!t28) (
              brB (a0_o_3 != 0) (
                cutD3 ref04_only_la1 ((dnF Try.prog ref04_only_an (code Try.f22) 396 [1, 0, 1, 1, 1]) (kont3 Try.prog ref04_only_an (code Try.f22) [1, 1, 1, 0] [] (post3 Try.prog Try.f22 [] R))) (ref04_only_v1 s4 true b1) (ref04_only_m1 b1 a0_o_0 a0_o_1 a0_o_2 a0_o_3 a0_o_4 a0_o_5 a0_o_6 a0_o_7 a0_o_8_a a0_o_8_n a0_o_8_c a0_o_9 a0_o_10 a0_o_11 a0_o_12 a0_o_13_a a0_o_13_n a0_o_13_c) w27)
              (
                Calls Try.prog 23 #[(.string s4), (.int .u8 111)] w27 fun e w29 => ∃ t30 : Bool, e = .returned (.bool t30) ∧ Keep [b1] w27 w29 ∧
                brB (!t30) (
                  cutD3 ref04_only_la1 ((dnF Try.prog ref04_only_an (code Try.f22) 396 [1, 0, 1, 1, 1]) (kont3 Try.prog ref04_only_an (code Try.f22) [1, 1, 1, 0] [] (post3 Try.prog Try.f22 [] R))) (ref04_only_v1 s4 (a0_o_4 != 0) b1) (ref04_only_m1 b1 a0_o_0 a0_o_1 a0_o_2 a0_o_3 a0_o_4 a0_o_5 a0_o_6 a0_o_7 a0_o_8_a a0_o_8_n a0_o_8_c a0_o_9 a0_o_10 a0_o_11 a0_o_12 a0_o_13_a a0_o_13_n a0_o_13_c) w29)
                (
                  cutD3 ref04_only_la1 ((dnF Try.prog ref04_only_an (code Try.f22) 396 [1, 0, 1, 1, 1]) (kont3 Try.prog ref04_only_an (code Try.f22) [1, 1, 1, 0] [] (post3 Try.prog Try.f22 [] R))) (ref04_only_v1 s4 false b1) (ref04_only_m1 b1 a0_o_0 a0_o_1 a0_o_2 a0_o_3 a0_o_4 a0_o_5 a0_o_6 a0_o_7 a0_o_8_a a0_o_8_n a0_o_8_c a0_o_9 a0_o_10 a0_o_11 a0_o_12 a0_o_13_a a0_o_13_n a0_o_13_c) w29)))
            (
              Calls Try.prog 23 #[(.string s4), (.int .u8 111)] w27 fun e w31 => ∃ t32 : Bool, e = .returned (.bool t32) ∧ Keep [b1] w27 w31 ∧
              brB (!t32) (
                cutD3 ref04_only_la1 ((dnF Try.prog ref04_only_an (code Try.f22) 396 [1, 0, 1, 1, 1]) (kont3 Try.prog ref04_only_an (code Try.f22) [1, 1, 1, 0] [] (post3 Try.prog Try.f22 [] R))) (ref04_only_v1 s4 (a0_o_4 != 0) b1) (ref04_only_m1 b1 a0_o_0 a0_o_1 a0_o_2 a0_o_3 a0_o_4 a0_o_5 a0_o_6 a0_o_7 a0_o_8_a a0_o_8_n a0_o_8_c a0_o_9 a0_o_10 a0_o_11 a0_o_12 a0_o_13_a a0_o_13_n a0_o_13_c) w31)
              (
                cutD3 ref04_only_la1 ((dnF Try.prog ref04_only_an (code Try.f22) 396 [1, 0, 1, 1, 1]) (kont3 Try.prog ref04_only_an (code Try.f22) [1, 1, 1, 0] [] (post3 Try.prog Try.f22 [] R))) (ref04_only_v1 s4 false b1) (ref04_only_m1 b1 a0_o_0 a0_o_1 a0_o_2 a0_o_3 a0_o_4 a0_o_5 a0_o_6 a0_o_7 a0_o_8_a a0_o_8_n a0_o_8_c a0_o_9 a0_o_10 a0_o_11 a0_o_12 a0_o_13_a a0_o_13_n a0_o_13_c) w31))))
        (
          Calls Try.prog 23 #[(.string s4), (.int .u8 110)] w7 fun e w33 => ∃ t34 : Bool, e = .returned (.bool t34) ∧ Keep [b1] w7 w33 ∧
          brB (!t34) (
            brB (a0_o_3 != 0) (
              cutD3 ref04_only_la1 ((dnF Try.prog ref04_only_an (code Try.f22) 396 [1, 0, 1, 1, 1]) (kont3 Try.prog ref04_only_an (code Try.f22) [1, 1, 1, 0] [] (post3 Try.prog Try.f22 [] R))) (ref04_only_v1 s4 true b1) (ref04_only_m1 b1 a0_o_0 a0_o_1 a0_o_2 a0_o_3 a0_o_4 a0_o_5 a0_o_6 a0_o_7 a0_o_8_a a0_o_8_n a0_o_8_c a0_o_9 a0_o_10 a0_o_11 a0_o_12 a0_o_13_a a0_o_13_n a0_o_13_c) w33)
            (
              Calls Try.prog 23 #[(.string s4), (.int .u8 111)] w33 fun e w35 => ∃ t36 : Bool, e = .returned (.bool t36) ∧ Keep [b1] w33 w35 ∧
              brB (!t36) (
                cutD3 ref04_only_la1 ((dnF Try.prog ref04_only_an (code Try.f22) 396 [1, 0, 1, 1, 1]) (kont3 Try.prog ref04_only_an (code Try.f22) [1, 1, 1, 0] [] (post3 Try.prog Try.f22 [] R))) (ref04_only_v1 s4 (a0_o_4 != 0) b1) (ref04_only_m1 b1 a0_o_0 a0_o_1 a0_o_2 a0_o_3 a0_o_4 a0_o_5 a0_o_6 a0_o_7 a0_o_8_a a0_o_8_n a0_o_8_c a0_o_9 a0_o_10 a0_o_11 a0_o_12 a0_o_13_a a0_o_13_n a0_o_13_c) w35)
              (
                cutD3 ref04_only_la1 ((dnF Try.prog ref04_only_an (code Try.f22) 396 [1, 0, 1, 1, 1]) (kont3 Try.prog ref04_only_an (code Try.f22) [1, 1, 1, 0] [] (post3 Try.prog Try.f22 [] R))) (ref04_only_v1 s4 false b1) (ref04_only_m1 b1 a0_o_0 a0_o_1 a0_o_2 a0_o_3 a0_o_4 a0_o_5 a0_o_6 a0_o_7 a0_o_8_a a0_o_8_n a0_o_8_c a0_o_9 a0_o_10 a0_o_11 a0_o_12 a0_o_13_a a0_o_13_n a0_o_13_c) w35)))
          (
            Calls Try.prog 23 #[(.string s4), (.int .u8 111)] w33 fun e w37 => ∃ t38 : Bool, e = .returned (.bool t38) ∧ Keep [b1] w33 w37 ∧
            brB (!t38) (
              cutD3 ref04_only_la1 ((dnF Try.prog ref04_only_an (code Try.f22) 396 [1, 0, 1, 1, 1]) (kont3 Try.prog ref04_only_an (code Try.f22) [1, 1, 1, 0] [] (post3 Try.prog Try.f22 [] R))) (ref04_only_v1 s4 (a0_o_4 != 0) b1) (ref04_only_m1 b1 a0_o_0 a0_o_1 a0_o_2 a0_o_3 a0_o_4 a0_o_5 a0_o_6 a0_o_7 a0_o_8_a a0_o_8_n a0_o_8_c a0_o_9 a0_o_10 a0_o_11 a0_o_12 a0_o_13_a a0_o_13_n a0_o_13_c) w37)
            (
              cutD3 ref04_only_la1 ((dnF Try.prog ref04_only_an (code Try.f22) 396 [1, 0, 1, 1, 1]) (kont3 Try.prog ref04_only_an (code Try.f22) [1, 1, 1, 0] [] (post3 Try.prog Try.f22 [] R))) (ref04_only_v1 s4 false b1) (ref04_only_m1 b1 a0_o_0 a0_o_1 a0_o_2 a0_o_3 a0_o_4 a0_o_5 a0_o_6 a0_o_7 a0_o_8_a a0_o_8_n a0_o_8_c a0_o_9 a0_o_10 a0_o_11 a0_o_12 a0_o_13_a a0_o_13_n a0_o_13_c) w37)))))
    (
      brB (!t6) (
        brB (a0_o_2 != 0) (
          cutD3 ref04_only_la1 ((dnF Try.prog ref04_only_an (code Try.f22) 396 [1, 0, 1, 1, 1]) (kont3 Try.prog ref04_only_an (code Try.f22) [1, 1, 1, 0] [] (post3 Try.prog Try.f22 [] R))) (ref04_only_v1 s4 true b1) (ref04_only_m1 b1 a0_o_0 a0_o_1 a0_o_2 a0_o_3 a0_o_4 a0_o_5 a0_o_6 a0_o_7 a0_o_8_a a0_o_8_n a0_o_8_c a0_o_9 a0_o_10 a0_o_11 a0_o_12 a0_o_13_a a0_o_13_n a0_o_13_c) w7)
        (
          Calls Try.prog 23 #[(.string s4), (.int .u8 110)] w7 fun e w39 => ∃ t40 : Bool, e = .returned (.bool t40) ∧ Keep [b1] w7 w39 ∧
          brB (!t40) (
            brB (a0_o_3 != 0) (
              cutD3 ref04_only_la1 ((dnF Try.prog ref04_only_an (code Try.f22) 396 [1, 0, 1, 1, 1]) (kont3 Try.prog ref04_only_an (code Try.f22) [1, 1, 1, 0] [] (post3 Try.prog Try.f22 [] R))) (ref04_only_v1 s4 true b1) (ref04_only_m1 b1 a0_o_0 a0_o_1 a0_o_2 a0_o_3 a0_o_4 a0_o_5 a0_o_6 a0_o_7 a0_o_8_a a0_o_8_n a0_o_8_c a0_o_9 a0_o_10 a0_o_11 a0_o_12 a0_o_13_a a0_o_13_n a0_o_13_c) w39)
            (
              Calls Try.prog 23 #[(.string s4), (.int .u8 111)] w39 fun e w41 => ∃ t42 : Bool, e = .returned (.bool t42) ∧ Keep [b1] w39 w41 ∧
              brB (!t42) (
                cutD3 ref04_only_la1 ((dnF Try.prog ref04_only_an (code Try.f22) 396 [1, 0, 1, 1, 1]) (kont3 Try.prog ref04_only_an (code Try.f22) [1, 1, 1, 0] [] (post3 Try.prog Try.f22 [] R))) (ref04_only_v1 s4 (a0_o_4 != 0) b1) (ref04_only_m1 b1 a0_o_0 a0_o_1 a0_o_2 a0_o_3 a0_o_4 a0_o_5 a0_o_6 a0_o_7 a0_o_8_a a0_o_8_n a0_o_8_c a0_o_9 a0_o_10 a0_o_11 a0_o_12 a0_o_13_a a0_o_13_n a0_o_13_c) w41)
              (
                cutD3 ref04_only_la1 ((dnF Try.prog ref04_only_an (code Try.f22) 396 [1, 0, 1, 1, 1]) (kont3 Try.prog ref04_only_an (code Try.f22) [1, 1, 1, 0] [] (post3 Try.prog Try.f22 [] R))) (ref04_only_v1 s4 false b1) (ref04_only_m1 b1 a0_o_0 a0_o_1 a0_o_2 a0_o_3 a0_o_4 a0_o_5 a0_o_6 a0_o_7 a0_o_8_a a0_o_8_n a0_o_8_c a0_o_9 a0_o_10 a0_o_11 a0_o_12 a0_o_13_a a0_o_13_n a0_o_13_c) w41)))
          (
            Calls Try.prog 23 #[(.string s4), (.int .u8 111)] w39 fun e w43 => ∃ t44 : Bool, e = .returned (.bool t44) ∧ Keep [b1] w39 w43 ∧
            brB (!t44) (
              cutD3 ref04_only_la1 ((dnF Try.prog ref04_only_an (code Try.f22) 396 [1, 0, 1, 1, 1]) (kont3 Try.prog ref04_only_an (code Try.f22) [1, 1, 1, 0] [] (post3 Try.prog Try.f22 [] R))) (ref04_only_v1 s4 (a0_o_4 != 0) b1) (ref04_only_m1 b1 a0_o_0 a0_o_1 a0_o_2 a0_o_3 a0_o_4 a0_o_5 a0_o_6 a0_o_7 a0_o_8_a a0_o_8_n a0_o_8_c a0_o_9 a0_o_10 a0_o_11 a0_o_12 a0_o_13_a a0_o_13_n a0_o_13_c) w43)
            (
              cutD3 ref04_only_la1 ((dnF Try.prog ref04_only_an (code Try.f22) 396 [1, 0, 1, 1, 1]) (kont3 Try.prog ref04_only_an (code Try.f22) [1, 1, 1, 0] [] (post3 Try.prog Try.f22 [] R))) (ref04_only_v1 s4 false b1) (ref04_only_m1 b1 a0_o_0 a0_o_1 a0_o_2 a0_o_3 a0_o_4 a0_o_5 a0_o_6 a0_o_7 a0_o_8_a a0_o_8_n a0_o_8_c a0_o_9 a0_o_10 a0_o_11 a0_o_12 a0_o_13_a a0_o_13_n a0_o_13_c) w43))))
      (
        Calls Try.prog 23 #[(.string s4), (.int .u8 110)] w7 fun e w45 => ∃ t46 : Bool, e = .returned (.bool t46) ∧ Keep [b1] w7 w45 ∧
        brB (!t46) (
          brB (a0_o_3 != 0) (
            cutD3 ref04_only_la1 ((dnF Try.prog ref04_only_an (code Try.f22) 396 [1, 0, 1, 1, 1]) (kont3 Try.prog ref04_only_an (code Try.f22) [1, 1, 1, 0] [] (post3 Try.prog Try.f22 [] R))) (ref04_only_v1 s4 true b1) (ref04_only_m1 b1 a0_o_0 a0_o_1 a0_o_2 a0_o_3 a0_o_4 a0_o_5 a0_o_6 a0_o_7 a0_o_8_a a0_o_8_n a0_o_8_c a0_o_9 a0_o_10 a0_o_11 a0_o_12 a0_o_13_a a0_o_13_n a0_o_13_c) w45)
          (
            Calls Try.prog 23 #[(.string s4), (.int .u8 111)] w45 fun e w47 => ∃ t48 : Bool, e = .returned (.bool t48) ∧ Keep [b1] w45 w47 ∧
            brB (!t48) (
              cutD3 ref04_only_la1 ((dnF Try.prog ref04_only_an (code Try.f22) 396 [1, 0, 1, 1, 1]) (kont3 Try.prog ref04_only_an (code Try.f22) [1, 1, 1, 0] [] (post3 Try.prog Try.f22 [] R))) (ref04_only_v1 s4 (a0_o_4 != 0) b1) (ref04_only_m1 b1 a0_o_0 a0_o_1 a0_o_2 a0_o_3 a0_o_4 a0_o_5 a0_o_6 a0_o_7 a0_o_8_a a0_o_8_n a0_o_8_c a0_o_9 a0_o_10 a0_o_11 a0_o_12 a0_o_13_a a0_o_13_n a0_o_13_c) w47)
            (
              cutD3 ref04_only_la1 ((dnF Try.prog ref04_only_an (code Try.f22) 396 [1, 0, 1, 1, 1]) (kont3 Try.prog ref04_only_an (code Try.f22) [1, 1, 1, 0] [] (post3 Try.prog Try.f22 [] R))) (ref04_only_v1 s4 false b1) (ref04_only_m1 b1 a0_o_0 a0_o_1 a0_o_2 a0_o_3 a0_o_4 a0_o_5 a0_o_6 a0_o_7 a0_o_8_a a0_o_8_n a0_o_8_c a0_o_9 a0_o_10 a0_o_11 a0_o_12 a0_o_13_a a0_o_13_n a0_o_13_c) w47)))
        (
          Calls Try.prog 23 #[(.string s4), (.int .u8 111)] w45 fun e w49 => ∃ t50 : Bool, e = .returned (.bool t50) ∧ Keep [b1] w45 w49 ∧
          brB (!t50) (
            cutD3 ref04_only_la1 ((dnF Try.prog ref04_only_an (code Try.f22) 396 [1, 0, 1, 1, 1]) (kont3 Try.prog ref04_only_an (code Try.f22) [1, 1, 1, 0] [] (post3 Try.prog Try.f22 [] R))) (ref04_only_v1 s4 (a0_o_4 != 0) b1) (ref04_only_m1 b1 a0_o_0 a0_o_1 a0_o_2 a0_o_3 a0_o_4 a0_o_5 a0_o_6 a0_o_7 a0_o_8_a a0_o_8_n a0_o_8_c a0_o_9 a0_o_10 a0_o_11 a0_o_12 a0_o_13_a a0_o_13_n a0_o_13_c) w49)
          (
            cutD3 ref04_only_la1 ((dnF Try.prog ref04_only_an (code Try.f22) 396 [1, 0, 1, 1, 1]) (kont3 Try.prog ref04_only_an (code Try.f22) [1, 1, 1, 0] [] (post3 Try.prog Try.f22 [] R))) (ref04_only_v1 s4 false b1) (ref04_only_m1 b1 a0_o_0 a0_o_1 a0_o_2 a0_o_3 a0_o_4 a0_o_5 a0_o_6 a0_o_7 a0_o_8_a a0_o_8_n a0_o_8_c a0_o_9 a0_o_10 a0_o_11 a0_o_12 a0_o_13_a a0_o_13_n a0_o_13_c) w49)))))
  (
    brB (!t6) (
      brB (a0_o_2 != 0) (
        cutD3 ref04_only_la1 ((dnF Try.prog ref04_only_an (code Try.f22) 396 [1, 0, 1, 1, 1]) (kont3 Try.prog ref04_only_an (code Try.f22) [1, 1, 1, 0] [] (post3 Try.prog Try.f22 [] R))) (ref04_only_v1 s4 true b1) (ref04_only_m1 b1 a0_o_0 a0_o_1 a0_o_2 a0_o_3 a0_o_4 a0_o_5 a0_o_6 a0_o_7 a0_o_8_a a0_o_8_n a0_o_8_c a0_o_9 a0_o_10 a0_o_11 a0_o_12 a0_o_13_a a0_o_13_n a0_o_13_c) w7)
      (
        Calls Try.prog 23 #[(.string s4), (.int .u8 110)] w7 fun e w51 => ∃ t52 : Bool, e = .returned (.bool t52) ∧ Keep [b1] w7 w51 ∧
        brB (!t52) (
          brB (a0_o_3 != 0) (
            cutD3 ref04_only_la1 ((dnF Try.prog ref04_only_an (code Try.f22) 396 [1, 0, 1, 1, 1]) (kont3 Try.prog ref04_only_an (code Try.f22) [1, 1, 1, 0] [] (post3 Try.prog Try.f22 [] R))) (ref04_only_v1 s4 true b1) (ref04_only_m1 b1 a0_o_0 a0_o_1 a0_o_2 a0_o_3 a0_o_4 a0_o_5 a0_o_6 a0_o_7 a0_o_8_a a0_o_8_n a0_o_8_c a0_o_9 a0_o_10 a0_o_11 a0_o_12 a0_o_13_a a0_o_13_n a0_o_13_c) w51)
          (
            Calls Try.prog 23 #[(.string s4), (.int .u8 111)] w51 fun e w53 => ∃ t54 : Bool, e = .returned (.bool t54) ∧ Keep [b1] w51 w53 ∧
            brB (!t54) (
              cutD3 ref04_only_la1 ((dnF Try.prog ref04_only_an (code Try.f22) 396 [1, 0, 1, 1, 1]) (kont3 Try.prog ref04_only_an (code Try.f22) [1, 1, 1, 0] [] (post3 Try.prog Try.f22 [] R))) (ref04_only_v1 s4 (a0_o_4 != 0) b1) (ref04_only_m1 b1 a0_o_0 a0_o_1 a0_o_2 a0_o_3 a0_o_4 a0_o_5 a0_o_6 a0_o_7 a0_o_8_a a0_o_8_n a0_o_8_c a0_o_9 a0_o_10 a0_o_11 a0_o_12 a0_o_13_a a0_o_13_n a0_o_13_c) w53)
            (
              cutD3 ref04_only_la1 ((dnF Try.prog ref04_only_an (code Try.f22) 396 [1, 0, 1, 1, 1]) (kont3 Try.prog ref04_only_an (code Try.f22) [1, 1, 1, 0] [] (post3 Try.prog Try.f22 [] R))) (ref04_only_v1 s4 false b1) (ref04_only_m1 b1 a0_o_0 a0_o_1 a0_o_2 a0_o_3 a0_o_4 a0_o_5 a0_o_6 a0_o_7 a0_o_8_a a0_o_8_n a0_o_8_c a0_o_9 a0_o_10 a0_o_11 a0_o_12 a0_o_13_a a0_o_13_n a0_o_13_c) w53)))
        (
          Calls Try.prog 23 #[(.string s4), (.int .u8 111)] w51 fun e w55 => ∃ t56 : Bool, e = .returned (.bool t56) ∧ Keep [b1] w51 w55 ∧
          brB (!t56) (
            cutD3 ref04_only_la1 ((dnF Try.prog ref04_only_an (code Try.f22) 396 [1, 0, 1, 1, 1]) (kont3 Try.prog ref04_only_an (code Try.f22) [1, 1, 1, 0] [] (post3 Try.prog Try.f22 [] R))) (ref04_only_v1 s4 (a0_o_4 != 0) b1) (ref04_only_m1 b1 a0_o_0 a0_o_1 a0_o_2 a0_o_3 a0_o_4 a0_o_5 a0_o_6 a0_o_7 a0_o_8_a a0_o_8_n a0_o_8_c a0_o_9 a0_o_10 a0_o_11 a0_o_12 a0_o_13_a a0_o_13_n a0_o_13_c) w55)
          (
            cutD3 ref04_only_la1 ((dnF Try.prog ref04_only_an (code Try.f22) 396 [1, 0, 1, 1, 1]) (kont3 Try.prog ref04_only_an (code Try.f22) [1, 1, 1, 0] [] (post3 Try.prog Try.f22 [] R))) (ref04_only_v1 s4 false b1) (ref04_only_m1 b1 a0_o_0 a0_o_1 a0_o_2 a0_o_3 a0_o_4 a0_o_5 a0_o_6 a0_o_7 a0_o_8_a a0_o_8_n a0_o_8_c a0_o_9 a0_o_10 a0_o_11 a0_o_12 a0_o_13_a a0_o_13_n a0_o_13_c) w55))))
    (
      Calls Try.prog 23 #[(.string s4), (.int .u8 110)] w7 fun e w57 => ∃ t58 : Bool, e = .returned (.bool t58) ∧ Keep [b1] w7 w57 ∧
      brB (!t58) (
        brB (a0_o_3 != 0) (
          cutD3 ref04_only_la1 ((dnF Try.prog ref04_only_an (code Try.f22) 396 [1, 0, 1, 1, 1]) (kont3 Try.prog ref04_only_an (code Try.f22) [1, 1, 1, 0] [] (post3 Try.prog Try.f22 [] R))) (ref04_only_v1 s4 true b1) (ref04_only_m1 b1 a0_o_0 a0_o_1 a0_o_2 a0_o_3 a0_o_4 a0_o_5 a0_o_6 a0_o_7 a0_o_8_a a0_o_8_n a0_o_8_c a0_o_9 a0_o_10 a0_o_11 a0_o_12 a0_o_13_a a0_o_13_n a0_o_13_c) w57)
        (
          Calls Try.prog 23 #[(.string s4), (.int .u8 111)] w57 fun e w59 => ∃ t60 : Bool, e = .returned (.bool t60) ∧ Keep [b1] w57 w59 ∧
          brB (!t60) (
            cutD3 ref04_only_la1 ((dnF Try.prog ref04_only_an (code Try.f22) 396 [1, 0, 1, 1, 1]) (kont3 Try.prog ref04_only_an (code Try.f22) [1, 1, 1, 0] [] (post3 Try.prog Try.f22 [] R))) (ref04_only_v1 s4 (a0_o_4 != 0) b1) (ref04_only_m1 b1 a0_o_0 a0_o_1 a0_o_2 a0_o_3 a0_o_4 a0_o_5 a0_o_6 a0_o_7 a0_o_8_a a0_o_8_n a0_o_8_c a0_o_9 a0_o_10 a0_o_11 a0_o_12 a0_o_13_a a0_o_13_n a0_o_13_c) w59)
          (
            cutD3 ref04_only_la1 ((dnF Try.prog ref04_only_an (code Try.f22) 396 [1, 0, 1, 1, 1]) (kont3 Try.prog ref04_only_an (code Try.f22) [1, 1, 1, 0] [] (post3 Try.prog Try.f22 [] R))) (ref04_only_v1 s4 false b1) (ref04_only_m1 b1 a0_o_0 a0_o_1 a0_o_2 a0_o_3 a0_o_4 a0_o_5 a0_o_6 a0_o_7 a0_o_8_a a0_o_8_n a0_o_8_c a0_o_9 a0_o_10 a0_o_11 a0_o_12 a0_o_13_a a0_o_13_n a0_o_13_c) w59)))
      (
        Calls Try.prog 23 #[(.string s4), (.int .u8 111)] w57 fun e w61 => ∃ t62 : Bool, e = .returned (.bool t62) ∧ Keep [b1] w57 w61 ∧
        brB (!t62) (
          cutD3 ref04_only_la1 ((dnF Try.prog ref04_only_an (code Try.f22) 396 [1, 0, 1, 1, 1]) (kont3 Try.prog ref04_only_an (code Try.f22) [1, 1, 1, 0] [] (post3 Try.prog Try.f22 [] R))) (ref04_only_v1 s4 (a0_o_4 != 0) b1) (ref04_only_m1 b1 a0_o_0 a0_o_1 a0_o_2 a0_o_3 a0_o_4 a0_o_5 a0_o_6 a0_o_7 a0_o_8_a a0_o_8_n a0_o_8_c a0_o_9 a0_o_10 a0_o_11 a0_o_12 a0_o_13_a a0_o_13_n a0_o_13_c) w61)
        (
          cutD3 ref04_only_la1 ((dnF Try.prog ref04_only_an (code Try.f22) 396 [1, 0, 1, 1, 1]) (kont3 Try.prog ref04_only_an (code Try.f22) [1, 1, 1, 0] [] (post3 Try.prog Try.f22 [] R))) (ref04_only_v1 s4 false b1) (ref04_only_m1 b1 a0_o_0 a0_o_1 a0_o_2 a0_o_3 a0_o_4 a0_o_5 a0_o_6 a0_o_7 a0_o_8_a a0_o_8_n a0_o_8_c a0_o_9 a0_o_10 a0_o_11 a0_o_12 a0_o_13_a a0_o_13_n a0_o_13_c) w61))))
theorem ref04_only_eq (a0_o_0 : Int) (a0_o_1 : ByteArray) (a0_o_2 : Int) (a0_o_3 : Int) (a0_o_4 : Int) (a0_o_5 : Int) (a0_o_6 : Int) (a0_o_7 : Int) (a0_o_8_a : Option Addr) (a0_o_8_n : Nat) (a0_o_8_c : Nat) (a0_o_9 : ByteArray) (a0_o_10 : ByteArray) (a0_o_11 : Int) (a0_o_12 : Bool) (a0_o_13_a : Option Addr) (a0_o_13_n : Nat) (a0_o_13_c : Nat) (R : Value → World → Prop) (w : World) :
    dnF Try.prog ref04_only_an (code Try.f22) 400 [] (post3 Try.prog Try.f22 [] R) ⟨args0 0 [(.agg #[(.int .i64 a0_o_0), (.string a0_o_1), (.int .i64 a0_o_2), (.int .i64 a0_o_3), (.int .i64 a0_o_4), (.int .i64 a0_o_5), (.int .i64 a0_o_6), (.int .i64 a0_o_7), (.slice a0_o_8_a a0_o_8_n a0_o_8_c), (.string a0_o_9), (.string a0_o_10), (.int .i64 a0_o_11), (.bool a0_o_12), (.slice a0_o_13_a a0_o_13_n a0_o_13_c)])], fun _ => undef⟩ ⟨[], w, [], [], true⟩ = ref04_only_T a0_o_0 a0_o_1 a0_o_2 a0_o_3 a0_o_4 a0_o_5 a0_o_6 a0_o_7 a0_o_8_a a0_o_8_n a0_o_8_c a0_o_9 a0_o_10 a0_o_11 a0_o_12 a0_o_13_a a0_o_13_n a0_o_13_c R w := by kernel_rfl
theorem ref04_only_go {a0_o_0 : Int} {a0_o_1 : ByteArray} {a0_o_2 : Int} {a0_o_3 : Int} {a0_o_4 : Int} {a0_o_5 : Int} {a0_o_6 : Int} {a0_o_7 : Int} {a0_o_8_a : Option Addr} {a0_o_8_n : Nat} {a0_o_8_c : Nat} {a0_o_9 : ByteArray} {a0_o_10 : ByteArray} {a0_o_11 : Int} {a0_o_12 : Bool} {a0_o_13_a : Option Addr} {a0_o_13_n : Nat} {a0_o_13_c : Nat} {R : Value → World → Prop} {w : World} (h : ref04_only_T a0_o_0 a0_o_1 a0_o_2 a0_o_3 a0_o_4 a0_o_5 a0_o_6 a0_o_7 a0_o_8_a a0_o_8_n a0_o_8_c a0_o_9 a0_o_10 a0_o_11 a0_o_12 a0_o_13_a a0_o_13_n a0_o_13_c R w) :
    Calls Try.prog 22 #[(.agg #[(.int .i64 a0_o_0), (.string a0_o_1), (.int .i64 a0_o_2), (.int .i64 a0_o_3), (.int .i64 a0_o_4), (.int .i64 a0_o_5), (.int .i64 a0_o_6), (.int .i64 a0_o_7), (.slice a0_o_8_a a0_o_8_n a0_o_8_c), (.string a0_o_9), (.string a0_o_10), (.int .i64 a0_o_11), (.bool a0_o_12), (.slice a0_o_13_a a0_o_13_n a0_o_13_c)])] w fun e w' => ∃ v, e = .returned v ∧ R v w' :=
  calls_none Try.wide_mixed (f := 22) (args := [(.agg #[(.int .i64 a0_o_0), (.string a0_o_1), (.int .i64 a0_o_2), (.int .i64 a0_o_3), (.int .i64 a0_o_4), (.int .i64 a0_o_5), (.int .i64 a0_o_6), (.int .i64 a0_o_7), (.slice a0_o_8_a a0_o_8_n a0_o_8_c), (.string a0_o_9), (.string a0_o_10), (.int .i64 a0_o_11), (.bool a0_o_12), (.slice a0_o_13_a a0_o_13_n a0_o_13_c)])]) Try.func22 rfl rfl (by kernel_rfl) rfl (Eq.mpr (ref04_only_eq a0_o_0 a0_o_1 a0_o_2 a0_o_3 a0_o_4 a0_o_5 a0_o_6 a0_o_7 a0_o_8_a a0_o_8_n a0_o_8_c a0_o_9 a0_o_10 a0_o_11 a0_o_12 a0_o_13_a a0_o_13_n a0_o_13_c R w) h)
def ref04_Check_la1 : LA := ⟨[1, 1, 1, 1], [1], [(1, 0, 0)], 1, []⟩
def ref04_Check_an : List LA := [ref04_Check_la1]
def ref04_Check_v1 (bm0 : Nat) : List Value := [(.pointer (some ⟨bm0, 0, none⟩))]
def ref04_Check_m1 (bm0 : Nat) (x_m0_0 : Int) (s_m0_1 : ByteArray) (x_m0_2 : Int) (x_m0_3 : Int) (x_m0_4 : Int) (x_m0_5 : Int) (x_m0_6 : Int) (x_m0_7 : Int) (a_m0_8 : Option Addr) (n_m0_8 : Nat) (c_m0_8 : Nat) (s_m0_9 : ByteArray) (s_m0_10 : ByteArray) (x_m0_11 : Int) (t_m0_12 : Bool) (a_m0_13 : Option Addr) (n_m0_13 : Nat) (c_m0_13 : Nat) : List TB := [⟨bm0, 35, [(.int .i64 x_m0_0), (.string s_m0_1), (.int .i64 x_m0_2), (.int .i64 x_m0_3), (.int .i64 x_m0_4), (.int .i64 x_m0_5), (.int .i64 x_m0_6), (.int .i64 x_m0_7), (.slice a_m0_8 n_m0_8 c_m0_8), (.string s_m0_9), (.string s_m0_10), (.int .i64 x_m0_11), (.bool t_m0_12), (.slice a_m0_13 n_m0_13 c_m0_13)], false⟩]
def ref04_Check_C1 (bm0 : Nat) (x_m0_0 : Int) (s_m0_1 : ByteArray) (x_m0_2 : Int) (x_m0_3 : Int) (x_m0_4 : Int) (x_m0_5 : Int) (x_m0_6 : Int) (x_m0_7 : Int) (a_m0_8 : Option Addr) (n_m0_8 : Nat) (c_m0_8 : Nat) (s_m0_9 : ByteArray) (s_m0_10 : ByteArray) (x_m0_11 : Int) (t_m0_12 : Bool) (a_m0_13 : Option Addr) (n_m0_13 : Nat) (c_m0_13 : Nat) (R : Value → World → Prop) (w : World) : Prop :=
  Calls Try.prog 26 #[(.int .i64 x_m0_2)] w fun e w25 => ∃ t26 : Bool, e = .returned (.bool t26) ∧ Keep [bm0] w w25 ∧
  brB (!t26) (
    R (.int .i64 1) w25)
  (
    Calls Try.prog 26 #[(.int .i64 x_m0_3)] w25 fun e w27 => ∃ t28 : Bool, e = .returned (.bool t28) ∧ Keep [bm0] w25 w27 ∧
    brB (!t28) (
      R (.int .i64 1) w27)
    (
      Calls Try.prog 26 #[(.int .i64 x_m0_4)] w27 fun e w29 => ∃ t30 : Bool, e = .returned (.bool t30) ∧ Keep [bm0] w27 w29 ∧
      brB (!t30) (
        R (.int .i64 1) w29)
      (
        Calls Try.prog 26 #[(.int .i64 x_m0_11)] w29 fun e w31 => ∃ t32 : Bool, e = .returned (.bool t32) ∧ Keep [bm0] w29 w31 ∧
        brB (!t32) (
          R (.int .i64 1) w31)
        (
          brB (x_m0_0 == 2) (
            Calls Try.prog 27 #[(.agg #[(.int .i64 x_m0_5), (.int .i64 x_m0_6), (.int .i64 x_m0_7), (.slice a_m0_8 n_m0_8 c_m0_8)])] w31 fun e w33 => ∃ x34 : Int, e = .returned (.int .i64 x34) ∧ Keep [bm0] w31 w33 ∧
            R (.int .i64 x34) w33)
          (
            R (.int .i64 0) w31)))))
theorem ref04_Check_C1_eq (bm0 : Nat) (x_m0_0 : Int) (s_m0_1 : ByteArray) (x_m0_2 : Int) (x_m0_3 : Int) (x_m0_4 : Int) (x_m0_5 : Int) (x_m0_6 : Int) (x_m0_7 : Int) (a_m0_8 : Option Addr) (n_m0_8 : Nat) (c_m0_8 : Nat) (s_m0_9 : ByteArray) (s_m0_10 : ByteArray) (x_m0_11 : Int) (t_m0_12 : Bool) (a_m0_13 : Option Addr) (n_m0_13 : Nat) (c_m0_13 : Nat) (js : Nat → Value) (R : Value → World → Prop) (w : World) :
    headA ref04_Check_la1 ((dnF Try.prog ref04_Check_an (code Try.f8) 396 [1, 1, 1, 1]) (kont3 Try.prog ref04_Check_an (code Try.f8) [1, 1, 1] [] (post3 Try.prog Try.f8 [] R))) (ref04_Check_v1 bm0) js (ref04_Check_m1 bm0 x_m0_0 s_m0_1 x_m0_2 x_m0_3 x_m0_4 x_m0_5 x_m0_6 x_m0_7 a_m0_8 n_m0_8 c_m0_8 s_m0_9 s_m0_10 x_m0_11 t_m0_12 a_m0_13 n_m0_13 c_m0_13) w = ref04_Check_C1 bm0 x_m0_0 s_m0_1 x_m0_2 x_m0_3 x_m0_4 x_m0_5 x_m0_6 x_m0_7 a_m0_8 n_m0_8 c_m0_8 s_m0_9 s_m0_10 x_m0_11 t_m0_12 a_m0_13 n_m0_13 c_m0_13 R w := by kernel_rfl
theorem ref04_Check_cut1 {bm00 : Nat} {x_m0_00 : Int} {s_m0_10 : ByteArray} {x_m0_20 : Int} {x_m0_30 : Int} {x_m0_40 : Int} {x_m0_50 : Int} {x_m0_60 : Int} {x_m0_70 : Int} {a_m0_80 : Option Addr} {n_m0_80 : Nat} {c_m0_80 : Nat} {s_m0_90 : ByteArray} {s_m0_100 : ByteArray} {x_m0_110 : Int} {t_m0_120 : Bool} {a_m0_130 : Option Addr} {n_m0_130 : Nat} {c_m0_130 : Nat} {R : Value → World → Prop} {w0 : World} (J : Nat → Int → ByteArray → Int → Int → Int → Int → Int → Int → Option Addr → Nat → Nat → ByteArray → ByteArray → Int → Bool → Option Addr → Nat → Nat → World → Prop) (h0 : J bm00 x_m0_00 s_m0_10 x_m0_20 x_m0_30 x_m0_40 x_m0_50 x_m0_60 x_m0_70 a_m0_80 n_m0_80 c_m0_80 s_m0_90 s_m0_100 x_m0_110 t_m0_120 a_m0_130 n_m0_130 c_m0_130 w0)
    (hr : ∀ (bm0 : Nat) (x_m0_0 : Int) (s_m0_1 : ByteArray) (x_m0_2 : Int) (x_m0_3 : Int) (x_m0_4 : Int) (x_m0_5 : Int) (x_m0_6 : Int) (x_m0_7 : Int) (a_m0_8 : Option Addr) (n_m0_8 : Nat) (c_m0_8 : Nat) (s_m0_9 : ByteArray) (s_m0_10 : ByteArray) (x_m0_11 : Int) (t_m0_12 : Bool) (a_m0_13 : Option Addr) (n_m0_13 : Nat) (c_m0_13 : Nat) (w : World), J bm0 x_m0_0 s_m0_1 x_m0_2 x_m0_3 x_m0_4 x_m0_5 x_m0_6 x_m0_7 a_m0_8 n_m0_8 c_m0_8 s_m0_9 s_m0_10 x_m0_11 t_m0_12 a_m0_13 n_m0_13 c_m0_13 w → ref04_Check_C1 bm0 x_m0_0 s_m0_1 x_m0_2 x_m0_3 x_m0_4 x_m0_5 x_m0_6 x_m0_7 a_m0_8 n_m0_8 c_m0_8 s_m0_9 s_m0_10 x_m0_11 t_m0_12 a_m0_13 n_m0_13 c_m0_13 R w) :
    cutD3 ref04_Check_la1 ((dnF Try.prog ref04_Check_an (code Try.f8) 396 [1, 1, 1, 1]) (kont3 Try.prog ref04_Check_an (code Try.f8) [1, 1, 1] [] (post3 Try.prog Try.f8 [] R))) (ref04_Check_v1 bm00) (ref04_Check_m1 bm00 x_m0_00 s_m0_10 x_m0_20 x_m0_30 x_m0_40 x_m0_50 x_m0_60 x_m0_70 a_m0_80 n_m0_80 c_m0_80 s_m0_90 s_m0_100 x_m0_110 t_m0_120 a_m0_130 n_m0_130 c_m0_130) w0 := by
  refine ⟨fun vals mem w => ∃ bm0 x_m0_0 s_m0_1 x_m0_2 x_m0_3 x_m0_4 x_m0_5 x_m0_6 x_m0_7 a_m0_8 n_m0_8 c_m0_8 s_m0_9 s_m0_10 x_m0_11 t_m0_12 a_m0_13 n_m0_13 c_m0_13, vals = (ref04_Check_v1 bm0) ∧ mem = (ref04_Check_m1 bm0 x_m0_0 s_m0_1 x_m0_2 x_m0_3 x_m0_4 x_m0_5 x_m0_6 x_m0_7 a_m0_8 n_m0_8 c_m0_8 s_m0_9 s_m0_10 x_m0_11 t_m0_12 a_m0_13 n_m0_13 c_m0_13) ∧ J bm0 x_m0_0 s_m0_1 x_m0_2 x_m0_3 x_m0_4 x_m0_5 x_m0_6 x_m0_7 a_m0_8 n_m0_8 c_m0_8 s_m0_9 s_m0_10 x_m0_11 t_m0_12 a_m0_13 n_m0_13 c_m0_13 w, ⟨_, _, _, _, _, _, _, _, _, _, _, _, _, _, _, _, _, _, _, rfl, rfl, h0⟩, ?_⟩
  rintro vals mem w ⟨bm0, x_m0_0, s_m0_1, x_m0_2, x_m0_3, x_m0_4, x_m0_5, x_m0_6, x_m0_7, a_m0_8, n_m0_8, c_m0_8, s_m0_9, s_m0_10, x_m0_11, t_m0_12, a_m0_13, n_m0_13, c_m0_13, rfl, rfl, hJ⟩
  refine ⟨rfl, rfl, fun js => ?_⟩
  have h := hr bm0 x_m0_0 s_m0_1 x_m0_2 x_m0_3 x_m0_4 x_m0_5 x_m0_6 x_m0_7 a_m0_8 n_m0_8 c_m0_8 s_m0_9 s_m0_10 x_m0_11 t_m0_12 a_m0_13 n_m0_13 c_m0_13 w hJ
  rw [← ref04_Check_C1_eq _ _ _ _ _ _ _ _ _ _ _ _ _ _ _ _ _ _ _ js] at h
  exact h
theorem ref04_Check_at1 {bm0 : Nat} {x_m0_0 : Int} {s_m0_1 : ByteArray} {x_m0_2 : Int} {x_m0_3 : Int} {x_m0_4 : Int} {x_m0_5 : Int} {x_m0_6 : Int} {x_m0_7 : Int} {a_m0_8 : Option Addr} {n_m0_8 : Nat} {c_m0_8 : Nat} {s_m0_9 : ByteArray} {s_m0_10 : ByteArray} {x_m0_11 : Int} {t_m0_12 : Bool} {a_m0_13 : Option Addr} {n_m0_13 : Nat} {c_m0_13 : Nat} {R : Value → World → Prop} {w : World} (h : ref04_Check_C1 bm0 x_m0_0 s_m0_1 x_m0_2 x_m0_3 x_m0_4 x_m0_5 x_m0_6 x_m0_7 a_m0_8 n_m0_8 c_m0_8 s_m0_9 s_m0_10 x_m0_11 t_m0_12 a_m0_13 n_m0_13 c_m0_13 R w) :
    cutD3 ref04_Check_la1 ((dnF Try.prog ref04_Check_an (code Try.f8) 396 [1, 1, 1, 1]) (kont3 Try.prog ref04_Check_an (code Try.f8) [1, 1, 1] [] (post3 Try.prog Try.f8 [] R))) (ref04_Check_v1 bm0) (ref04_Check_m1 bm0 x_m0_0 s_m0_1 x_m0_2 x_m0_3 x_m0_4 x_m0_5 x_m0_6 x_m0_7 a_m0_8 n_m0_8 c_m0_8 s_m0_9 s_m0_10 x_m0_11 t_m0_12 a_m0_13 n_m0_13 c_m0_13) w :=
  ref04_Check_cut1 (fun bm0' x_m0_0' s_m0_1' x_m0_2' x_m0_3' x_m0_4' x_m0_5' x_m0_6' x_m0_7' a_m0_8' n_m0_8' c_m0_8' s_m0_9' s_m0_10' x_m0_11' t_m0_12' a_m0_13' n_m0_13' c_m0_13' w' => bm0' = bm0 ∧ x_m0_0' = x_m0_0 ∧ s_m0_1' = s_m0_1 ∧ x_m0_2' = x_m0_2 ∧ x_m0_3' = x_m0_3 ∧ x_m0_4' = x_m0_4 ∧ x_m0_5' = x_m0_5 ∧ x_m0_6' = x_m0_6 ∧ x_m0_7' = x_m0_7 ∧ a_m0_8' = a_m0_8 ∧ n_m0_8' = n_m0_8 ∧ c_m0_8' = c_m0_8 ∧ s_m0_9' = s_m0_9 ∧ s_m0_10' = s_m0_10 ∧ x_m0_11' = x_m0_11 ∧ t_m0_12' = t_m0_12 ∧ a_m0_13' = a_m0_13 ∧ n_m0_13' = n_m0_13 ∧ c_m0_13' = c_m0_13 ∧ w' = w) ⟨rfl, rfl, rfl, rfl, rfl, rfl, rfl, rfl, rfl, rfl, rfl, rfl, rfl, rfl, rfl, rfl, rfl, rfl, rfl, rfl⟩ (by rintro bm0' x_m0_0' s_m0_1' x_m0_2' x_m0_3' x_m0_4' x_m0_5' x_m0_6' x_m0_7' a_m0_8' n_m0_8' c_m0_8' s_m0_9' s_m0_10' x_m0_11' t_m0_12' a_m0_13' n_m0_13' c_m0_13' w' ⟨rfl, rfl, rfl, rfl, rfl, rfl, rfl, rfl, rfl, rfl, rfl, rfl, rfl, rfl, rfl, rfl, rfl, rfl, rfl, rfl⟩; exact h)
/-- stagecoach/stagecoachref04.Check -/
def ref04_Check_T (a0_o_0 : Int) (a0_o_1 : ByteArray) (a0_o_2 : Int) (a0_o_3 : Int) (a0_o_4 : Int) (a0_o_5 : Int) (a0_o_6 : Int) (a0_o_7 : Int) (a0_o_8_a : Option Addr) (a0_o_8_n : Nat) (a0_o_8_c : Nat) (a0_o_9 : ByteArray) (a0_o_10 : ByteArray) (a0_o_11 : Int) (a0_o_12 : Bool) (a0_o_13_a : Option Addr) (a0_o_13_n : Nat) (a0_o_13_c : Nat) (R : Value → World → Prop) (w : World) : Prop :=
  ∀ b1, w.heap.size ≤ b1 →
  brB (decide (a0_o_0 < 0)) (
    ∀ w2, Adv [] [b1] w w2 →
    R (.int .i64 41) w2)
  (
    brB (decide (a0_o_0 > 12)) (
      ∀ w3, Adv [] [b1] w w3 →
      R (.int .i64 41) w3)
    (
      ∀ w4, Adv [] [b1] w w4 →
      Calls Try.prog 21 #[(.int .i64 a0_o_0)] w4 fun e w5 => ∃ s6 : ByteArray, e = .returned (.string s6) ∧ Keep [b1] w4 w5 ∧
      Calls Try.prog 22 #[(.agg #[(.int .i64 a0_o_0), (.string a0_o_1), (.int .i64 a0_o_2), (.int .i64 a0_o_3), (.int .i64 a0_o_4), (.int .i64 a0_o_5), (.int .i64 a0_o_6), (.int .i64 a0_o_7), (.slice a0_o_8_a a0_o_8_n a0_o_8_c), (.string a0_o_9), (.string a0_o_10), (.int .i64 a0_o_11), (.bool a0_o_12), (.slice a0_o_13_a a0_o_13_n a0_o_13_c)])] w5 fun e w7 => ∃ t8 : Bool, e = .returned (.bool t8) ∧ Keep [b1] w5 w7 ∧
      brB (!t8) (
        R (.int .i64 40) w7)
      (
        Calls Try.prog 23 #[(.string s6), (.int .u8 112)] w7 fun e w9 => ∃ t10 : Bool, e = .returned (.bool t10) ∧ Keep [b1] w7 w9 ∧
        brB t10 (
          Calls Try.prog 24 #[(.string a0_o_1)] w9 fun e w11 => ∃ t12 : Bool, e = .returned (.bool t12) ∧ Keep [b1] w9 w11 ∧
          brB (!t12) (
            R (.int .i64 40) w11)
          (
            Calls Try.prog 23 #[(.string s6), (.int .u8 103)] w11 fun e w13 => ∃ t14 : Bool, e = .returned (.bool t14) ∧ Keep [b1] w11 w13 ∧
            brB t14 (
              Calls Try.prog 24 #[(.string a0_o_9)] w13 fun e w15 => ∃ t16 : Bool, e = .returned (.bool t16) ∧ Keep [b1] w13 w15 ∧
              brB (!t16) (
                R (.int .i64 40) w15)
              (
                Calls Try.prog 23 #[(.string s6), (.int .u8 109)] w15 fun e w17 => ∃ t18 : Bool, e = .returned (.bool t18) ∧ Keep [b1] w15 w17 ∧
                brB t18 (
                  Calls Try.prog 24 #[(.string a0_o_10)] w17 fun e w19 => ∃ t20 : Bool, e = .returned (.bool t20) ∧ Keep [b1] w17 w19 ∧
                  brB (!t20) (
                    R (.int .i64 40) w19)
                  (
                    Calls Try.prog 23 #[(.string s6), (.int .u8 108)] w19 fun e w21 => ∃ t22 : Bool, e = .returned (.bool t22) ∧ Keep [b1] w19 w21 ∧
                    brB t22 (
                      Calls Try.prog 25 #[(.slice a0_o_13_a a0_o_13_n a0_o_13_c)] w21 fun e w23 => ∃ t24 : Bool, e = .returned (.bool t24) ∧ Keep [b1] w21 w23 ∧
                      brB (!t24) (
                        R (.int .i64 40) w23)
                      (
                        cutD3 ref04_Check_la1 ((dnF Try.prog ref04_Check_an (code Try.f8) 396 [1, 1, 1, 1]) (kont3 Try.prog ref04_Check_an (code Try.f8) [1, 1, 1] [] (post3 Try.prog Try.f8 [] R))) (ref04_Check_v1 b1) (ref04_Check_m1 b1 a0_o_0 a0_o_1 a0_o_2 a0_o_3 a0_o_4 a0_o_5 a0_o_6 a0_o_7 a0_o_8_a a0_o_8_n a0_o_8_c a0_o_9 a0_o_10 a0_o_11 a0_o_12 a0_o_13_a a0_o_13_n a0_o_13_c) w23))
                    (
                      cutD3 ref04_Check_la1 ((dnF Try.prog ref04_Check_an (code Try.f8) 396 [1, 1, 1, 1]) (kont3 Try.prog ref04_Check_an (code Try.f8) [1, 1, 1] [] (post3 Try.prog Try.f8 [] R))) (ref04_Check_v1 b1) (ref04_Check_m1 b1 a0_o_0 a0_o_1 a0_o_2 a0_o_3 a0_o_4 a0_o_5 a0_o_6 a0_o_7 a0_o_8_a a0_o_8_n a0_o_8_c a0_o_9 a0_o_10 a0_o_11 a0_o_12 a0_o_13_a a0_o_13_n a0_o_13_c) w21)))
                (
                  Calls Try.prog 23 #[(.string s6), (.int .u8 108)] w17 fun e w35 => ∃ t36 : Bool, e = .returned (.bool t36) ∧ Keep [b1] w17 w35 ∧
                  brB t36 (
                    Calls Try.prog 25 #[(.slice a0_o_13_a a0_o_13_n a0_o_13_c)] w35 fun e w37 => ∃ t38 : Bool, e = .returned (.bool t38) ∧ Keep [b1] w35 w37 ∧
                    brB (!t38) (
                      R (.int .i64 40) w37)
                    (
                      cutD3 ref04_Check_la1 ((dnF Try.prog ref04_Check_an (code Try.f8) 396 [1, 1, 1, 1]) (kont3 Try.prog ref04_Check_an (code Try.f8) [1, 1, 1] [] (post3 Try.prog Try.f8 [] R))) (ref04_Check_v1 b1) (ref04_Check_m1 b1 a0_o_0 a0_o_1 a0_o_2 a0_o_3 a0_o_4 a0_o_5 a0_o_6 a0_o_7 a0_o_8_a a0_o_8_n a0_o_8_c a0_o_9 a0_o_10 a0_o_11 a0_o_12 a0_o_13_a a0_o_13_n a0_o_13_c) w37))
                  (
                    cutD3 ref04_Check_la1 ((dnF Try.prog ref04_Check_an (code Try.f8) 396 [1, 1, 1, 1]) (kont3 Try.prog ref04_Check_an (code Try.f8) [1, 1, 1] [] (post3 Try.prog Try.f8 [] R))) (ref04_Check_v1 b1) (ref04_Check_m1 b1 a0_o_0 a0_o_1 a0_o_2 a0_o_3 a0_o_4 a0_o_5 a0_o_6 a0_o_7 a0_o_8_a a0_o_8_n a0_o_8_c a0_o_9 a0_o_10 a0_o_11 a0_o_12 a0_o_13_a a0_o_13_n a0_o_13_c) w35))))
            (
              Calls Try.prog 23 #[(.string s6), (.int .u8 109)] w13 fun e w39 => ∃ t40 : Bool, e = .returned (.bool t40) ∧ Keep [b1] w13 w39 ∧
              brB t40 (
                Calls Try.prog 24 #[(.string a0_o_10)] w39 fun e w41 => ∃ t42 : Bool, e = .returned (.bool t42) ∧ Keep [b1] w39 w41 ∧
                brB (!t42) (
                  R (.int .i64 40) w41)
                (
                  Calls Try.prog 23 #[(.string s6), (.int .u8 108)] w41 fun e w43 => ∃ t44 : Bool, e = .returned (.bool t44) ∧ Keep [b1] w41 w43 ∧
                  brB t44 (
                    Calls Try.prog 25 #[(.slice a0_o_13_a a0_o_13_n a0_o_13_c)] w43 fun e w45 => ∃ t46 : Bool, e = .returned (.bool t46) ∧ Keep [b1] w43 w45 ∧
                    brB (!t46) (
                      R (.int .i64 40) w45)
                    (
                      cutD3 ref04_Check_la1 ((dnF Try.prog ref04_Check_an (code Try.f8) 396 [1, 1, 1, 1]) (kont3 Try.prog ref04_Check_an (code Try.f8) [1, 1, 1] [] (post3 Try.prog Try.f8 [] R))) (ref04_Check_v1 b1) (ref04_Check_m1 b1 a0_o_0 a0_o_1 a0_o_2 a0_o_3 a0_o_4 a0_o_5 a0_o_6 a0_o_7 a0_o_8_a a0_o_8_n a0_o_8_c a0_o_9 a0_o_10 a0_o_11 a0_o_12 a0_o_13_a a0_o_13_n a0_o_13_c) w45))
                  (
                    cutD3 ref04_Check_la1 ((dnF Try.prog ref04_Check_an (code Try.f8) 396 [1, 1, 1, 1]) (kont3 Try.prog ref04_Check_an (code Try.f8) [1, 1, 1] [] (post3 Try.prog Try.f8 [] R))) (ref04_Check_v1 b1) (ref04_Check_m1 b1 a0_o_0 a0_o_1 a0_o_2 a0_o_3 a0_o_4 a0_o_5 a0_o_6 a0_o_7 a0_o_8_a a0_o_8_n a0_o_8_c a0_o_9 a0_o_10 a0_o_11 a0_o_12 a0_o_13_a a0_o_13_n a0_o_13_c) w43)))
              (
                Calls Try.prog 23 #[(.string s6), (.int .u8 108)] w39 fun e w47 => ∃ t48 : Bool, e = .returned (.bool t48) ∧ Keep [b1] w39 w47 ∧
                brB t48 (
                  Calls Try.prog 25 #[(.slice a0_o_13_a a0_o_13_n a0_o_13_c)] w47 fun e w49 => ∃ t50 : Bool, e = .returned (.bool t50) ∧ Keep [b1] w47 w49 ∧
                  brB (!t50) (
                    R (.int .i64 40) w49)
                  (
                    cutD3 ref04_Check_la1 ((dnF Try.prog ref04_Check_an (code Try.f8) 396 [1, 1, 1, 1]) (kont3 Try.prog ref04_Check_an (code Try.f8) [1, 1, 1] [] (post3 Try.prog Try.f8 [] R))) (ref04_Check_v1 b1) (ref04_Check_m1 b1 a0_o_0 a0_o_1 a0_o_2 a0_o_3 a0_o_4 a0_o_5 a0_o_6 a0_o_7 a0_o_8_a a0_o_8_n a0_o_8_c a0_o_9 a0_o_10 a0_o_11 a0_o_12 a0_o_13_a a0_o_13_n a0_o_13_c) w49))
                (
                  cutD3 ref04_Check_la1 ((dnF Try.prog ref04_Check_an (code Try.f8) 396 [1, 1, 1, 1]) (kont3 Try.prog ref04_Check_an (code Try.f8) [1, 1, 1] [] (post3 Try.prog Try.f8 [] R))) (ref04_Check_v1 b1) (ref04_Check_m1 b1 a0_o_0 a0_o_1 a0_o_2 a0_o_3 a0_o_4 a0_o_5 a0_o_6 a0_o_7 a0_o_8_a a0_o_8_n a0_o_8_c a0_o_9 a0_o_10 a0_o_11 a0_o_12 a0_o_13_a a0_o_13_n a0_o_13_c) w47)))))
        (
          Calls Try.prog 23 #[(.string s6), (.int .u8 116)] w9 fun e w51 => ∃ t52 : Bool, e = .returned (.bool t52) ∧ Keep [b1] w9 w51 ∧
          brB t52 (
            Calls Try.prog 24 #[(.string a0_o_1)] w51 fun e w53 => ∃ t54 : Bool, e = .returned (.bool t54) ∧ Keep [b1] w51 w53 ∧
            brB (!t54) (
              R (.int .i64 40) w53)
            (
              Calls Try.prog 23 #[(.string s6), (.int .u8 103)] w53 fun e w55 => ∃ t56 : Bool, e = .returned (.bool t56) ∧ Keep [b1] w53 w55 ∧
              brB t56 (
                Calls Try.prog 24 #[(.string a0_o_9)] w55 fun e w57 => ∃ t58 : Bool, e = .returned (.bool t58) ∧ Keep [b1] w55 w57 ∧
                brB (!t58) (
                  R (.int .i64 40) w57)
                (
                  Calls Try.prog 23 #[(.string s6), (.int .u8 109)] w57 fun e w59 => ∃ t60 : Bool, e = .returned (.bool t60) ∧ Keep [b1] w57 w59 ∧
                  brB t60 (
                    Calls Try.prog 24 #[(.string a0_o_10)] w59 fun e w61 => ∃ t62 : Bool, e = .returned (.bool t62) ∧ Keep [b1] w59 w61 ∧
                    brB (!t62) (
                      R (.int .i64 40) w61)
                    (
                      Calls Try.prog 23 #[(.string s6), (.int .u8 108)] w61 fun e w63 => ∃ t64 : Bool, e = .returned (.bool t64) ∧ Keep [b1] w61 w63 ∧
                      brB t64 (
                        Calls Try.prog 25 #[(.slice a0_o_13_a a0_o_13_n a0_o_13_c)] w63 fun e w65 => ∃ t66 : Bool, e = .returned (.bool t66) ∧ Keep [b1] w63 w65 ∧
                        brB (!t66) (
                          R (.int .i64 40) w65)
                        (
                          cutD3 ref04_Check_la1 ((dnF Try.prog ref04_Check_an (code Try.f8) 396 [1, 1, 1, 1]) (kont3 Try.prog ref04_Check_an (code Try.f8) [1, 1, 1] [] (post3 Try.prog Try.f8 [] R))) (ref04_Check_v1 b1) (ref04_Check_m1 b1 a0_o_0 a0_o_1 a0_o_2 a0_o_3 a0_o_4 a0_o_5 a0_o_6 a0_o_7 a0_o_8_a a0_o_8_n a0_o_8_c a0_o_9 a0_o_10 a0_o_11 a0_o_12 a0_o_13_a a0_o_13_n a0_o_13_c) w65))
                      (
                        cutD3 ref04_Check_la1 ((dnF Try.prog ref04_Check_an (code Try.f8) 396 [1, 1, 1, 1]) (kont3 Try.prog ref04_Check_an (code Try.f8) [1, 1, 1] [] (post3 Try.prog Try.f8 [] R))) (ref04_Check_v1 b1) (ref04_Check_m1 b1 a0_o_0 a0_o_1 a0_o_2 a0_o_3 a0_o_4 a0_o_5 a0_o_6 a0_o_7 a0_o_8_a a0_o_8_n a0_o_8_c a0_o_9 a0_o_10 a0_o_11 a0_o_12 a0_o_13_a a0_o_13_n a0_o_13_c) w63)))
                  (
                    Calls Try.prog 23 #[(.string s6), (.int .u8 108)] w59 fun e w67 => ∃ t68 : Bool, e = .returned (.bool t68) ∧ Keep [b1] w59 w67 ∧
                    brB t68 (
                      Calls Try.prog 25 #[(.slice a0_o_13_a a0_o_13_n a0_o_13_c)] w67 fun e w69 => ∃ t70 : Bool, e = .returned (.bool t70) ∧ Keep [b1] w67 w69 ∧
                      brB (!t70) (
                        R (.int .i64 40) w69)
                      (
                        cutD3 ref04_Check_la1 ((dnF Try.prog ref04_Check_an (code Try.f8) 396 [1, 1, 1, 1]) (kont3 Try.prog ref04_Check_an (code Try.f8) [1, 1, 1] [] (post3 Try.prog Try.f8 [] R))) (ref04_Check_v1 b1) (ref04_Check_m1 b1 a0_o_0 a0_o_1 a0_o_2 a0_o_3 a0_o_4 a0_o_5 a0_o_6 a0_o_7 a0_o_8_a a0_o_8_n a0_o_8_c a0_o_9 a0_o_10 a0_o_11 a0_o_12 a0_o_13_a a0_o_13_n a0_o_13_c) w69))
                    (
                      cutD3 ref04_Check_la1 ((dnF Try.prog ref04_Check_an (code Try.f8) 396 [1, 1, 1, 1]) (kont3 Try.prog ref04_Check_an (code Try.f8) [1, 1, 1] [] (post3 Try.prog Try.f8 [] R))) (ref04_Check_v1 b1) (ref04_Check_m1 b1 a0_o_0 a0_o_1 a0_o_2 a0_o_3 a0_o_4 a0_o_5 a0_o_6 a0_o_7 a0_o_8_a a0_o_8_n a0_o_8_c a0_o_9 a0_o_10 a0_o_11 a0_o_12 a0_o_13_a a0_o_13_n a0_o_13_c) w67))))
              (
                Calls Try.prog 23 #[(.string s6), (.int .u8 109)] w55 fun e w71 => ∃ t72 : Bool, e = .returned (.bool t72) ∧ Keep [b1] w55 w71 ∧
                brB t72 (
                  Calls Try.prog 24 #[(.string a0_o_10)] w71 fun e w73 => ∃ t74 : Bool, e = .returned (.bool t74) ∧ Keep [b1] w71 w73 ∧
                  brB (!t74) (
                    R (.int .i64 40) w73)
                  (
                    Calls Try.prog 23 #[(.string s6), (.int .u8 108)] w73 fun e w75 => ∃ t76 : Bool, e = .returned (.bool t76) ∧ Keep [b1] w73 w75 ∧
                    brB t76 (
                      Calls Try.prog 25 #[(.slice a0_o_13_a a0_o_13_n a0_o_13_c)] w75 fun e w77 => ∃ t78 : Bool, e = .returned (.bool t78) ∧ Keep [b1] w75 w77 ∧
                      brB (!t78) (
                        R (.int .i64 40) w77)
                      (
                        cutD3 ref04_Check_la1 ((dnF Try.prog ref04_Check_an (code Try.f8) 396 [1, 1, 1, 1]) (kont3 Try.prog ref04_Check_an (code Try.f8) [1, 1, 1] [] (post3 Try.prog Try.f8 [] R))) (ref04_Check_v1 b1) (ref04_Check_m1 b1 a0_o_0 a0_o_1 a0_o_2 a0_o_3 a0_o_4 a0_o_5 a0_o_6 a0_o_7 a0_o_8_a a0_o_8_n a0_o_8_c a0_o_9 a0_o_10 a0_o_11 a0_o_12 a0_o_13_a a0_o_13_n a0_o_13_c) w77))
                    (
                      cutD3 ref04_Check_la1 ((dnF Try.prog ref04_Check_an (code Try.f8) 396 [1, 1, 1, 1]) (kont3 Try.prog ref04_Check_an (code Try.f8) [1, 1, 1] [] (post3 Try.prog Try.f8 [] R))) (ref04_Check_v1 b1) (ref04_Check_m1 b1 a0_o_0 a0_o_1 a0_o_2 a0_o_3 a0_o_4 a0_o_5 a0_o_6 a0_o_7 a0_o_8_a a0_o_8_n a0_o_8_c a0_o_9 a0_o_10 a0_o_11 a0_o_12 a0_o_13_a a0_o_13_n a0_o_13_c) w75)))
                (
                  Calls Try.prog 23 #[(.string s6), (.int .u8 108)] w71 fun e w79 => ∃ t80 : Bool, e = .returned (.bool t80) ∧ Keep [b1] w71 w79 ∧
                  brB t80 (
                    Calls Try.prog 25 #[(.slice a0_o_13_a a0_o_13_n a0_o_13_c)] w79 fun e w81 => ∃ t82 : Bool, e = .returned (.bool t82) ∧ Keep [b1] w79 w81 ∧
                    brB (!t82) (
                      R (.int .i64 40) w81)
                    (
                      cutD3 ref04_Check_la1 ((dnF Try.prog ref04_Check_an (code Try.f8) 396 [1, 1, 1, 1]) (kont3 Try.prog ref04_Check_an (code Try.f8) [1, 1, 1] [] (post3 Try.prog Try.f8 [] R))) (ref04_Check_v1 b1) (ref04_Check_m1 b1 a0_o_0 a0_o_1 a0_o_2 a0_o_3 a0_o_4 a0_o_5 a0_o_6 a0_o_7 a0_o_8_a a0_o_8_n a0_o_8_c a0_o_9 a0_o_10 a0_o_11 a0_o_12 a0_o_13_a a0_o_13_n a0_o_13_c) w81))
                  (
                    cutD3 ref04_Check_la1 ((dnF Try.prog ref04_Check_an (code Try.f8) 396 [1, 1, 1, 1]) (kont3 Try.prog ref04_Check_an (code Try.f8) [1, 1, 1] [] (post3 Try.prog Try.f8 [] R))) (ref04_Check_v1 b1) (ref04_Check_m1 b1 a0_o_0 a0_o_1 a0_o_2 a0_o_3 a0_o_4 a0_o_5 a0_o_6 a0_o_7 a0_o_8_a a0_o_8_n a0_o_8_c a0_o_9 a0_o_10 a0_o_11 a0_o_12 a0_o_13_a a0_o_13_n a0_o_13_c) w79)))))
          (
            Calls Try.prog 23 #[(.string s6), (.int .u8 103)] w51 fun e w83 => ∃ t84 : Bool, e = .returned (.bool t84) ∧ Keep [b1] w51 w83 ∧
            brB t84 (
              Calls Try.prog 24 #[(.string a0_o_9)] w83 fun e w85 => ∃ t86 : Bool, e = .returned (.bool t86) ∧ Keep [b1] w83 w85 ∧
              brB (!t86) (
                R (.int .i64 40) w85)
              (
                Calls Try.prog 23 #[(.string s6), (.int .u8 109)] w85 fun e w87 => ∃ t88 : Bool, e = .returned (.bool t88) ∧ Keep [b1] w85 w87 ∧
                brB t88 (
                  Calls Try.prog 24 #[(.string a0_o_10)] w87 fun e w89 => ∃ t90 : Bool, e = .returned (.bool t90) ∧ Keep [b1] w87 w89 ∧
                  brB (!t90) (
                    R (.int .i64 40) w89)
                  (
                    Calls Try.prog 23 #[(.string s6), (.int .u8 108)] w89 fun e w91 => ∃ t92 : Bool, e = .returned (.bool t92) ∧ Keep [b1] w89 w91 ∧
                    brB t92 (
                      Calls Try.prog 25 #[(.slice a0_o_13_a a0_o_13_n a0_o_13_c)] w91 fun e w93 => ∃ t94 : Bool, e = .returned (.bool t94) ∧ Keep [b1] w91 w93 ∧
                      brB (!t94) (
                        R (.int .i64 40) w93)
                      (
                        cutD3 ref04_Check_la1 ((dnF Try.prog ref04_Check_an (code Try.f8) 396 [1, 1, 1, 1]) (kont3 Try.prog ref04_Check_an (code Try.f8) [1, 1, 1] [] (post3 Try.prog Try.f8 [] R))) (ref04_Check_v1 b1) (ref04_Check_m1 b1 a0_o_0 a0_o_1 a0_o_2 a0_o_3 a0_o_4 a0_o_5 a0_o_6 a0_o_7 a0_o_8_a a0_o_8_n a0_o_8_c a0_o_9 a0_o_10 a0_o_11 a0_o_12 a0_o_13_a a0_o_13_n a0_o_13_c) w93))
                    (
                      cutD3 ref04_Check_la1 ((dnF Try.prog ref04_Check_an (code Try.f8) 396 [1, 1, 1, 1]) (kont3 Try.prog ref04_Check_an (code Try.f8) [1, 1, 1] [] (post3 Try.prog Try.f8 [] R))) (ref04_Check_v1 b1) (ref04_Check_m1 b1 a0_o_0 a0_o_1 a0_o_2 a0_o_3 a0_o_4 a0_o_5 a0_o_6 a0_o_7 a0_o_8_a a0_o_8_n a0_o_8_c a0_o_9 a0_o_10 a0_o_11 a0_o_12 a0_o_13_a a0_o_13_n a0_o_13_c) w91)))
                (
                  Calls Try.prog 23 #[(.string s6), (.int .u8 108)] w87 fun e w95 => ∃ t96 : Bool, e = .returned (.bool t96) ∧ Keep [b1] w87 w95 ∧
                  brB t96 (
                    Calls Try.prog 25 #[(.slice a0_o_13_a a0_o_13_n a0_o_13_c)] w95 fun e w97 => ∃ t98 : Bool, e = .returned (.bool t98) ∧ Keep [b1] w95 w97 ∧
                    brB (!t98) (
                      R (.int .i64 40) w97)
                    (
                      cutD3 ref04_Check_la1 ((dnF Try.prog ref04_Check_an (code Try.f8) 396 [1, 1, 1, 1]) (kont3 Try.prog ref04_Check_an (code Try.f8) [1, 1, 1] [] (post3 Try.prog Try.f8 [] R))) (ref04_Check_v1 b1) (ref04_Check_m1 b1 a0_o_0 a0_o_1 a0_o_2 a0_o_3 a0_o_4 a0_o_5 a0_o_6 a0_o_7 a0_o_8_a a0_o_8_n a0_o_8_c a0_o_9 a0_o_10 a0_o_11 a0_o_12 a0_o_13_a a0_o_13_n a0_o_13_c) w97))
                  (
                    cutD3 ref04_Check_la1 ((dnF Try.prog ref04_Check_an (code Try.f8) 396 [1, 1, 1, 1]) (kont3 Try.prog ref04_Check_an (code Try.f8) [1, 1, 1] [] (post3 Try.prog Try.f8 [] R))) (ref04_Check_v1 b1) (ref04_Check_m1 b1 a0_o_0 a0_o_1 a0_o_2 a0_o_3 a0_o_4 a0_o_5 a0_o_6 a0_o_7 a0_o_8_a a0_o_8_n a0_o_8_c a0_o_9 a0_o_10 a0_o_11 a0_o_12 a0_o_13_a a0_o_13_n a0_o_13_c) w95))))
            (
              Calls Try.prog 23 #[(.string s6), (.int .u8 109)] w83 fun e w99 => ∃ t100 : Bool, e = .returned (.bool t100) ∧ Keep [b1] w83 w99 ∧
              brB t100 (
                Calls Try.prog 24 #[(.string a0_o_10)] w99 fun e w101 => ∃ t102 : Bool, e = .returned (.bool t102) ∧ Keep [b1] w99 w101 ∧
                brB (!t102) (
                  R (.int .i64 40) w101)
                (
                  Calls Try.prog 23 #[(.string s6), (.int .u8 108)] w101 fun e w103 => ∃ t104 : Bool, e = .returned (.bool t104) ∧ Keep [b1] w101 w103 ∧
                  brB t104 (
                    Calls Try.prog 25 #[(.slice a0_o_13_a a0_o_13_n a0_o_13_c)] w103 fun e w105 => ∃ t106 : Bool, e = .returned (.bool t106) ∧ Keep [b1] w103 w105 ∧
                    brB (!t106) (
                      R (.int .i64 40) w105)
                    (
                      cutD3 ref04_Check_la1 ((dnF Try.prog ref04_Check_an (code Try.f8) 396 [1, 1, 1, 1]) (kont3 Try.prog ref04_Check_an (code Try.f8) [1, 1, 1] [] (post3 Try.prog Try.f8 [] R))) (ref04_Check_v1 b1) (ref04_Check_m1 b1 a0_o_0 a0_o_1 a0_o_2 a0_o_3 a0_o_4 a0_o_5 a0_o_6 a0_o_7 a0_o_8_a a0_o_8_n a0_o_8_c a0_o_9 a0_o_10 a0_o_11 a0_o_12 a0_o_13_a a0_o_13_n a0_o_13_c) w105))
                  (
                    cutD3 ref04_Check_la1 ((dnF Try.prog ref04_Check_an (code Try.f8) 396 [1, 1, 1, 1]) (kont3 Try.prog ref04_Check_an (code Try.f8) [1, 1, 1] [] (post3 Try.prog Try.f8 [] R))) (ref04_Check_v1 b1) (ref04_Check_m1 b1 a0_o_0 a0_o_1 a0_o_2 a0_o_3 a0_o_4 a0_o_5 a0_o_6 a0_o_7 a0_o_8_a a0_o_8_n a0_o_8_c a0_o_9 a0_o_10 a0_o_11 a0_o_12 a0_o_13_a a0_o_13_n a0_o_13_c) w103)))
              (
                Calls Try.prog 23 #[(.string s6), (.int .u8 108)] w99 fun e w107 => ∃ t108 : Bool, e = .returned (.bool t108) ∧ Keep [b1] w99 w107 ∧
                brB t108 (
                  Calls Try.prog 25 #[(.slice a0_o_13_a a0_o_13_n a0_o_13_c)] w107 fun e w109 => ∃ t110 : Bool, e = .returned (.bool t110) ∧ Keep [b1] w107 w109 ∧
                  brB (!t110) (
                    R (.int .i64 40) w109)
                  (
                    cutD3 ref04_Check_la1 ((dnF Try.prog ref04_Check_an (code Try.f8) 396 [1, 1, 1, 1]) (kont3 Try.prog ref04_Check_an (code Try.f8) [1, 1, 1] [] (post3 Try.prog Try.f8 [] R))) (ref04_Check_v1 b1) (ref04_Check_m1 b1 a0_o_0 a0_o_1 a0_o_2 a0_o_3 a0_o_4 a0_o_5 a0_o_6 a0_o_7 a0_o_8_a a0_o_8_n a0_o_8_c a0_o_9 a0_o_10 a0_o_11 a0_o_12 a0_o_13_a a0_o_13_n a0_o_13_c) w109))
                (
                  cutD3 ref04_Check_la1 ((dnF Try.prog ref04_Check_an (code Try.f8) 396 [1, 1, 1, 1]) (kont3 Try.prog ref04_Check_an (code Try.f8) [1, 1, 1] [] (post3 Try.prog Try.f8 [] R))) (ref04_Check_v1 b1) (ref04_Check_m1 b1 a0_o_0 a0_o_1 a0_o_2 a0_o_3 a0_o_4 a0_o_5 a0_o_6 a0_o_7 a0_o_8_a a0_o_8_n a0_o_8_c a0_o_9 a0_o_10 a0_o_11 a0_o_12 a0_o_13_a a0_o_13_n a0_o_13_c) w107))))))))
theorem ref04_Check_eq (a0_o_0 : Int) (a0_o_1 : ByteArray) (a0_o_2 : Int) (a0_o_3 : Int) (a0_o_4 : Int) (a0_o_5 : Int) (a0_o_6 : Int) (a0_o_7 : Int) (a0_o_8_a : Option Addr) (a0_o_8_n : Nat) (a0_o_8_c : Nat) (a0_o_9 : ByteArray) (a0_o_10 : ByteArray) (a0_o_11 : Int) (a0_o_12 : Bool) (a0_o_13_a : Option Addr) (a0_o_13_n : Nat) (a0_o_13_c : Nat) (R : Value → World → Prop) (w : World) :
    dnF Try.prog ref04_Check_an (code Try.f8) 400 [] (post3 Try.prog Try.f8 [] R) ⟨args0 0 [(.agg #[(.int .i64 a0_o_0), (.string a0_o_1), (.int .i64 a0_o_2), (.int .i64 a0_o_3), (.int .i64 a0_o_4), (.int .i64 a0_o_5), (.int .i64 a0_o_6), (.int .i64 a0_o_7), (.slice a0_o_8_a a0_o_8_n a0_o_8_c), (.string a0_o_9), (.string a0_o_10), (.int .i64 a0_o_11), (.bool a0_o_12), (.slice a0_o_13_a a0_o_13_n a0_o_13_c)])], fun _ => undef⟩ ⟨[], w, [], [], true⟩ = ref04_Check_T a0_o_0 a0_o_1 a0_o_2 a0_o_3 a0_o_4 a0_o_5 a0_o_6 a0_o_7 a0_o_8_a a0_o_8_n a0_o_8_c a0_o_9 a0_o_10 a0_o_11 a0_o_12 a0_o_13_a a0_o_13_n a0_o_13_c R w := by kernel_rfl
theorem ref04_Check_go {a0_o_0 : Int} {a0_o_1 : ByteArray} {a0_o_2 : Int} {a0_o_3 : Int} {a0_o_4 : Int} {a0_o_5 : Int} {a0_o_6 : Int} {a0_o_7 : Int} {a0_o_8_a : Option Addr} {a0_o_8_n : Nat} {a0_o_8_c : Nat} {a0_o_9 : ByteArray} {a0_o_10 : ByteArray} {a0_o_11 : Int} {a0_o_12 : Bool} {a0_o_13_a : Option Addr} {a0_o_13_n : Nat} {a0_o_13_c : Nat} {R : Value → World → Prop} {w : World} (h : ref04_Check_T a0_o_0 a0_o_1 a0_o_2 a0_o_3 a0_o_4 a0_o_5 a0_o_6 a0_o_7 a0_o_8_a a0_o_8_n a0_o_8_c a0_o_9 a0_o_10 a0_o_11 a0_o_12 a0_o_13_a a0_o_13_n a0_o_13_c R w) :
    Calls Try.prog 8 #[(.agg #[(.int .i64 a0_o_0), (.string a0_o_1), (.int .i64 a0_o_2), (.int .i64 a0_o_3), (.int .i64 a0_o_4), (.int .i64 a0_o_5), (.int .i64 a0_o_6), (.int .i64 a0_o_7), (.slice a0_o_8_a a0_o_8_n a0_o_8_c), (.string a0_o_9), (.string a0_o_10), (.int .i64 a0_o_11), (.bool a0_o_12), (.slice a0_o_13_a a0_o_13_n a0_o_13_c)])] w fun e w' => ∃ v, e = .returned v ∧ R v w' :=
  calls_none Try.wide_mixed (f := 8) (args := [(.agg #[(.int .i64 a0_o_0), (.string a0_o_1), (.int .i64 a0_o_2), (.int .i64 a0_o_3), (.int .i64 a0_o_4), (.int .i64 a0_o_5), (.int .i64 a0_o_6), (.int .i64 a0_o_7), (.slice a0_o_8_a a0_o_8_n a0_o_8_c), (.string a0_o_9), (.string a0_o_10), (.int .i64 a0_o_11), (.bool a0_o_12), (.slice a0_o_13_a a0_o_13_n a0_o_13_c)])]) Try.func8 rfl rfl (by kernel_rfl) rfl (Eq.mpr (ref04_Check_eq a0_o_0 a0_o_1 a0_o_2 a0_o_3 a0_o_4 a0_o_5 a0_o_6 a0_o_7 a0_o_8_a a0_o_8_n a0_o_8_c a0_o_9 a0_o_10 a0_o_11 a0_o_12 a0_o_13_a a0_o_13_n a0_o_13_c R w) h)
def ref04_Texts_la1 : LA := ⟨[0, 0, 1, 0, 1, 1], [0, 1, 5], [], 0, []⟩
def ref04_Texts_an : List LA := [ref04_Texts_la1]
def ref04_Texts_v1 (a_0 : Option Addr) (n_0 : Nat) (c_0 : Nat) (a_1 : Option Addr) (n_1 : Nat) (c_1 : Nat) (x_5 : Int) : List Value := [(.slice a_0 n_0 c_0), (.slice a_1 n_1 c_1), (.int .i64 x_5)]
def ref04_Texts_m1 : List TB := []
def ref04_Texts_L1 (a_0 : Option Addr) (n_0 : Nat) (c_0 : Nat) (a_1 : Option Addr) (n_1 : Nat) (c_1 : Nat) (x_5 : Int) (K1 : Kh) (R : Value → World → Prop) (w : World) : Prop :=
  brB (decide (x_5 < (n_0 : Int))) (
    ixA a_0 n_0 x_5 1 fun q1 =>
    ldStr w q1 fun s2 =>
    ixA a_1 n_1 x_5 1 fun q3 =>
    ldStr w q3 fun s4 =>
    brB (!(s2.toList == s4.toList)) (
      ∀ w5, Adv [] [] w w5 →
      R (.bool false) w5)
    (
      ∀ w6, Adv [] [] w w6 →
      K1 (ref04_Texts_v1 a_0 n_0 c_0 a_1 n_1 c_1 (IntKind.wrap .i64 (x_5 + 1))) (ref04_Texts_m1) w6))
  (
    R (.bool true) w)
theorem ref04_Texts_L1_eq (a_0 : Option Addr) (n_0 : Nat) (c_0 : Nat) (a_1 : Option Addr) (n_1 : Nat) (c_1 : Nat) (x_5 : Int) (K1 : Kh) (js : Nat → Value) (R : Value → World → Prop) (w : World) :
    headA ref04_Texts_la1 ((dnF Try.prog ref04_Texts_an (code Try.f33) 396 [0, 0, 1, 0, 1, 1]) (kthen3 (atA ref04_Texts_la1 K1) (kont3 Try.prog ref04_Texts_an (code Try.f33) [1, 1, 0, 1, 0] [] (post3 Try.prog Try.f33 [] R)))) (ref04_Texts_v1 a_0 n_0 c_0 a_1 n_1 c_1 x_5) js (ref04_Texts_m1) w = ref04_Texts_L1 a_0 n_0 c_0 a_1 n_1 c_1 x_5 K1 R w := by kernel_rfl
def ref04_Texts_K1 (a_0 : Option Addr) (n_0 : Nat) (c_0 : Nat) (a_1 : Option Addr) (n_1 : Nat) (c_1 : Nat) (I : Nat → Int → World → Prop) (m : Nat) (vals : List Value) (mem : List TB) (w : World) : Prop := ∃ m', m' < m ∧ ∃ x_5, vals = (ref04_Texts_v1 a_0 n_0 c_0 a_1 n_1 c_1 x_5) ∧ mem = (ref04_Texts_m1) ∧ I m' x_5 w
theorem ref04_Texts_leaf1 {a_0 : Option Addr} {n_0 : Nat} {c_0 : Nat} {a_1 : Option Addr} {n_1 : Nat} {c_1 : Nat} {I : Nat → Int → World → Prop} {m : Nat} {x_5 : Int} {w : World} (m' : Nat) (h1 : m' < m) (h2 : I m' x_5 w) : ref04_Texts_K1 a_0 n_0 c_0 a_1 n_1 c_1 I m (ref04_Texts_v1 a_0 n_0 c_0 a_1 n_1 c_1 x_5) (ref04_Texts_m1) w := ⟨m', h1, _, rfl, rfl, h2⟩
theorem ref04_Texts_rule1 {a_0 : Option Addr} {n_0 : Nat} {c_0 : Nat} {a_1 : Option Addr} {n_1 : Nat} {c_1 : Nat} {x_50 : Int} {R : Value → World → Prop} {w0 : World} (I : Nat → Int → World → Prop) (m0 : Nat) (h0 : I m0 x_50 w0)
    (hr : ∀ (m : Nat) (x_5 : Int) (w : World), I m x_5 w → ref04_Texts_L1 a_0 n_0 c_0 a_1 n_1 c_1 x_5 (ref04_Texts_K1 a_0 n_0 c_0 a_1 n_1 c_1 I m) R w) :
    loopD3 ref04_Texts_la1 (dnF Try.prog ref04_Texts_an (code Try.f33) 396 [0, 0, 1, 0, 1, 1]) (kont3 Try.prog ref04_Texts_an (code Try.f33) [1, 1, 0, 1, 0] [] (post3 Try.prog Try.f33 [] R)) (ref04_Texts_v1 a_0 n_0 c_0 a_1 n_1 c_1 x_50) (ref04_Texts_m1) w0 := by
  refine ⟨fun m vals mem w => ∃ x_5, vals = (ref04_Texts_v1 a_0 n_0 c_0 a_1 n_1 c_1 x_5) ∧ mem = (ref04_Texts_m1) ∧ I m x_5 w, m0, ⟨_, rfl, rfl, h0⟩, ?_⟩
  rintro m vals mem w ⟨x_5, rfl, rfl, hI⟩
  refine ⟨rfl, rfl, fun js => ?_⟩
  have h := hr m x_5 w hI
  rw [← ref04_Texts_L1_eq _ _ _ _ _ _ _ _ js] at h
  exact h
/-- stagecoach/stagecoachref04.Texts -/
def ref04_Texts_T (a0_a_a : Option Addr) (a0_a_n : Nat) (a0_a_c : Nat) (a1_b_a : Option Addr) (a1_b_n : Nat) (a1_b_c : Nat) (R : Value → World → Prop) (w : World) : Prop :=
  brB ((a0_a_n : Int) != (a1_b_n : Int)) (
    R (.bool false) w)
  (
    loopD3 ref04_Texts_la1 (dnF Try.prog ref04_Texts_an (code Try.f33) 396 [0, 0, 1, 0, 1, 1]) (kont3 Try.prog ref04_Texts_an (code Try.f33) [1, 1, 0, 1, 0] [] (post3 Try.prog Try.f33 [] R)) (ref04_Texts_v1 a0_a_a a0_a_n a0_a_c a1_b_a a1_b_n a1_b_c 0) (ref04_Texts_m1) w)
theorem ref04_Texts_eq (a0_a_a : Option Addr) (a0_a_n : Nat) (a0_a_c : Nat) (a1_b_a : Option Addr) (a1_b_n : Nat) (a1_b_c : Nat) (R : Value → World → Prop) (w : World) :
    dnF Try.prog ref04_Texts_an (code Try.f33) 400 [] (post3 Try.prog Try.f33 [] R) ⟨args0 0 [(.slice a0_a_a a0_a_n a0_a_c), (.slice a1_b_a a1_b_n a1_b_c)], fun _ => undef⟩ ⟨[], w, [], [], true⟩ = ref04_Texts_T a0_a_a a0_a_n a0_a_c a1_b_a a1_b_n a1_b_c R w := by kernel_rfl
theorem ref04_Texts_go {a0_a_a : Option Addr} {a0_a_n : Nat} {a0_a_c : Nat} {a1_b_a : Option Addr} {a1_b_n : Nat} {a1_b_c : Nat} {R : Value → World → Prop} {w : World} (h : ref04_Texts_T a0_a_a a0_a_n a0_a_c a1_b_a a1_b_n a1_b_c R w) :
    Calls Try.prog 33 #[(.slice a0_a_a a0_a_n a0_a_c), (.slice a1_b_a a1_b_n a1_b_c)] w fun e w' => ∃ v, e = .returned v ∧ R v w' :=
  calls_none Try.wide_mixed (f := 33) (args := [(.slice a0_a_a a0_a_n a0_a_c), (.slice a1_b_a a1_b_n a1_b_c)]) Try.func33 rfl rfl (by kernel_rfl) rfl (Eq.mpr (ref04_Texts_eq a0_a_a a0_a_n a0_a_c a1_b_a a1_b_n a1_b_c R w) h)
def ref04_Same_an : List LA := []
/-- stagecoach/stagecoachref04.Same -/
def ref04_Same_T (a0_a_0 : Int) (a0_a_1 : ByteArray) (a0_a_2 : Int) (a0_a_3 : Int) (a0_a_4 : Int) (a0_a_5 : Int) (a0_a_6 : Int) (a0_a_7 : Int) (a0_a_8_a : Option Addr) (a0_a_8_n : Nat) (a0_a_8_c : Nat) (a0_a_9 : ByteArray) (a0_a_10 : ByteArray) (a0_a_11 : Int) (a0_a_12 : Bool) (a0_a_13_a : Option Addr) (a0_a_13_n : Nat) (a0_a_13_c : Nat) (a1_b_0 : Int) (a1_b_1 : ByteArray) (a1_b_2 : Int) (a1_b_3 : Int) (a1_b_4 : Int) (a1_b_5 : Int) (a1_b_6 : Int) (a1_b_7 : Int) (a1_b_8_a : Option Addr) (a1_b_8_n : Nat) (a1_b_8_c : Nat) (a1_b_9 : ByteArray) (a1_b_10 : ByteArray) (a1_b_11 : Int) (a1_b_12 : Bool) (a1_b_13_a : Option Addr) (a1_b_13_n : Nat) (a1_b_13_c : Nat) (R : Value → World → Prop) (w : World) : Prop :=
  ∀ b1, w.heap.size ≤ b1 →
  ∀ b2, w.heap.size ≤ b2 →
  brB (a0_a_0 == a1_b_0) (
    ∀ w3, Adv [] [b2, b1] w w3 →
    ∃ t4 : Bool, (∀ w', Mod [] w3 w' → Sem.run Try.prog (do eqGuard .eql 29 (.tmp 12) (.tmp 14) (.agg #[(.string a0_a_1), (.int .i64 a0_a_2)]) (.agg #[(.string a1_b_1), (.int .i64 a1_b_2)]); Go.binOp .eql 29 (.agg #[(.string a0_a_1), (.int .i64 a0_a_2)]) (.agg #[(.string a1_b_1), (.int .i64 a1_b_2)])) w' = .ok (.bool t4) w') ∧
    brB t4 (
      brB (a0_a_3 == a1_b_3) (
        brB (a0_a_4 == a1_b_4) (
          Calls Try.prog 32 #[(.agg #[(.int .i64 a0_a_5), (.int .i64 a0_a_6), (.int .i64 a0_a_7), (.slice a0_a_8_a a0_a_8_n a0_a_8_c)]), (.agg #[(.int .i64 a1_b_5), (.int .i64 a1_b_6), (.int .i64 a1_b_7), (.slice a1_b_8_a a1_b_8_n a1_b_8_c)])] w3 fun e w5 => ∃ t6 : Bool, e = .returned (.bool t6) ∧ Keep [b1, b2] w3 w5 ∧
          brB t6 (
            brB (a0_a_9.toList == a1_b_9.toList) (
              brB (a0_a_10.toList == a1_b_10.toList) (
                brB (a0_a_11 == a1_b_11) (
                  brB (a0_a_12 == a1_b_12) (
                    Calls Try.prog 33 #[(.slice a0_a_13_a a0_a_13_n a0_a_13_c), (.slice a1_b_13_a a1_b_13_n a1_b_13_c)] w5 fun e w7 => ∃ t8 : Bool, e = .returned (.bool t8) ∧ Keep [b1, b2] w5 w7 ∧
                    R (.bool t8) w7)
                  (
                    R (.bool false) w5))
                (
                  R (.bool false) w5))
              (
                R (.bool false) w5))
            (
              R (.bool false) w5))
          (
            R (.bool false) w5))
        (
          R (.bool false) w3))
      (
        R (.bool false) w3))
    (
      R (.bool false) w3))
  (
    ∀ w9, Adv [] [b2, b1] w w9 →
    R (.bool false) w9)
theorem ref04_Same_eq (a0_a_0 : Int) (a0_a_1 : ByteArray) (a0_a_2 : Int) (a0_a_3 : Int) (a0_a_4 : Int) (a0_a_5 : Int) (a0_a_6 : Int) (a0_a_7 : Int) (a0_a_8_a : Option Addr) (a0_a_8_n : Nat) (a0_a_8_c : Nat) (a0_a_9 : ByteArray) (a0_a_10 : ByteArray) (a0_a_11 : Int) (a0_a_12 : Bool) (a0_a_13_a : Option Addr) (a0_a_13_n : Nat) (a0_a_13_c : Nat) (a1_b_0 : Int) (a1_b_1 : ByteArray) (a1_b_2 : Int) (a1_b_3 : Int) (a1_b_4 : Int) (a1_b_5 : Int) (a1_b_6 : Int) (a1_b_7 : Int) (a1_b_8_a : Option Addr) (a1_b_8_n : Nat) (a1_b_8_c : Nat) (a1_b_9 : ByteArray) (a1_b_10 : ByteArray) (a1_b_11 : Int) (a1_b_12 : Bool) (a1_b_13_a : Option Addr) (a1_b_13_n : Nat) (a1_b_13_c : Nat) (R : Value → World → Prop) (w : World) :
    dnF Try.prog ref04_Same_an (code Try.f10) 400 [] (post3 Try.prog Try.f10 [] R) ⟨args0 0 [(.agg #[(.int .i64 a0_a_0), (.string a0_a_1), (.int .i64 a0_a_2), (.int .i64 a0_a_3), (.int .i64 a0_a_4), (.int .i64 a0_a_5), (.int .i64 a0_a_6), (.int .i64 a0_a_7), (.slice a0_a_8_a a0_a_8_n a0_a_8_c), (.string a0_a_9), (.string a0_a_10), (.int .i64 a0_a_11), (.bool a0_a_12), (.slice a0_a_13_a a0_a_13_n a0_a_13_c)]), (.agg #[(.int .i64 a1_b_0), (.string a1_b_1), (.int .i64 a1_b_2), (.int .i64 a1_b_3), (.int .i64 a1_b_4), (.int .i64 a1_b_5), (.int .i64 a1_b_6), (.int .i64 a1_b_7), (.slice a1_b_8_a a1_b_8_n a1_b_8_c), (.string a1_b_9), (.string a1_b_10), (.int .i64 a1_b_11), (.bool a1_b_12), (.slice a1_b_13_a a1_b_13_n a1_b_13_c)])], fun _ => undef⟩ ⟨[], w, [], [], true⟩ = ref04_Same_T a0_a_0 a0_a_1 a0_a_2 a0_a_3 a0_a_4 a0_a_5 a0_a_6 a0_a_7 a0_a_8_a a0_a_8_n a0_a_8_c a0_a_9 a0_a_10 a0_a_11 a0_a_12 a0_a_13_a a0_a_13_n a0_a_13_c a1_b_0 a1_b_1 a1_b_2 a1_b_3 a1_b_4 a1_b_5 a1_b_6 a1_b_7 a1_b_8_a a1_b_8_n a1_b_8_c a1_b_9 a1_b_10 a1_b_11 a1_b_12 a1_b_13_a a1_b_13_n a1_b_13_c R w := by kernel_rfl
theorem ref04_Same_go {a0_a_0 : Int} {a0_a_1 : ByteArray} {a0_a_2 : Int} {a0_a_3 : Int} {a0_a_4 : Int} {a0_a_5 : Int} {a0_a_6 : Int} {a0_a_7 : Int} {a0_a_8_a : Option Addr} {a0_a_8_n : Nat} {a0_a_8_c : Nat} {a0_a_9 : ByteArray} {a0_a_10 : ByteArray} {a0_a_11 : Int} {a0_a_12 : Bool} {a0_a_13_a : Option Addr} {a0_a_13_n : Nat} {a0_a_13_c : Nat} {a1_b_0 : Int} {a1_b_1 : ByteArray} {a1_b_2 : Int} {a1_b_3 : Int} {a1_b_4 : Int} {a1_b_5 : Int} {a1_b_6 : Int} {a1_b_7 : Int} {a1_b_8_a : Option Addr} {a1_b_8_n : Nat} {a1_b_8_c : Nat} {a1_b_9 : ByteArray} {a1_b_10 : ByteArray} {a1_b_11 : Int} {a1_b_12 : Bool} {a1_b_13_a : Option Addr} {a1_b_13_n : Nat} {a1_b_13_c : Nat} {R : Value → World → Prop} {w : World} (h : ref04_Same_T a0_a_0 a0_a_1 a0_a_2 a0_a_3 a0_a_4 a0_a_5 a0_a_6 a0_a_7 a0_a_8_a a0_a_8_n a0_a_8_c a0_a_9 a0_a_10 a0_a_11 a0_a_12 a0_a_13_a a0_a_13_n a0_a_13_c a1_b_0 a1_b_1 a1_b_2 a1_b_3 a1_b_4 a1_b_5 a1_b_6 a1_b_7 a1_b_8_a a1_b_8_n a1_b_8_c a1_b_9 a1_b_10 a1_b_11 a1_b_12 a1_b_13_a a1_b_13_n a1_b_13_c R w) :
    Calls Try.prog 10 #[(.agg #[(.int .i64 a0_a_0), (.string a0_a_1), (.int .i64 a0_a_2), (.int .i64 a0_a_3), (.int .i64 a0_a_4), (.int .i64 a0_a_5), (.int .i64 a0_a_6), (.int .i64 a0_a_7), (.slice a0_a_8_a a0_a_8_n a0_a_8_c), (.string a0_a_9), (.string a0_a_10), (.int .i64 a0_a_11), (.bool a0_a_12), (.slice a0_a_13_a a0_a_13_n a0_a_13_c)]), (.agg #[(.int .i64 a1_b_0), (.string a1_b_1), (.int .i64 a1_b_2), (.int .i64 a1_b_3), (.int .i64 a1_b_4), (.int .i64 a1_b_5), (.int .i64 a1_b_6), (.int .i64 a1_b_7), (.slice a1_b_8_a a1_b_8_n a1_b_8_c), (.string a1_b_9), (.string a1_b_10), (.int .i64 a1_b_11), (.bool a1_b_12), (.slice a1_b_13_a a1_b_13_n a1_b_13_c)])] w fun e w' => ∃ v, e = .returned v ∧ R v w' :=
  calls_none Try.wide_mixed (f := 10) (args := [(.agg #[(.int .i64 a0_a_0), (.string a0_a_1), (.int .i64 a0_a_2), (.int .i64 a0_a_3), (.int .i64 a0_a_4), (.int .i64 a0_a_5), (.int .i64 a0_a_6), (.int .i64 a0_a_7), (.slice a0_a_8_a a0_a_8_n a0_a_8_c), (.string a0_a_9), (.string a0_a_10), (.int .i64 a0_a_11), (.bool a0_a_12), (.slice a0_a_13_a a0_a_13_n a0_a_13_c)]), (.agg #[(.int .i64 a1_b_0), (.string a1_b_1), (.int .i64 a1_b_2), (.int .i64 a1_b_3), (.int .i64 a1_b_4), (.int .i64 a1_b_5), (.int .i64 a1_b_6), (.int .i64 a1_b_7), (.slice a1_b_8_a a1_b_8_n a1_b_8_c), (.string a1_b_9), (.string a1_b_10), (.int .i64 a1_b_11), (.bool a1_b_12), (.slice a1_b_13_a a1_b_13_n a1_b_13_c)])]) Try.func10 rfl rfl (by kernel_rfl) rfl (Eq.mpr (ref04_Same_eq a0_a_0 a0_a_1 a0_a_2 a0_a_3 a0_a_4 a0_a_5 a0_a_6 a0_a_7 a0_a_8_a a0_a_8_n a0_a_8_c a0_a_9 a0_a_10 a0_a_11 a0_a_12 a0_a_13_a a0_a_13_n a0_a_13_c a1_b_0 a1_b_1 a1_b_2 a1_b_3 a1_b_4 a1_b_5 a1_b_6 a1_b_7 a1_b_8_a a1_b_8_n a1_b_8_c a1_b_9 a1_b_10 a1_b_11 a1_b_12 a1_b_13_a a1_b_13_n a1_b_13_c R w) h)
def request_batches_an : List LA := []
/-- stagecoach/request.batches -/
def request_batches_T (a0_a_0 : Int) (a0_a_1 : Int) (a0_a_2 : Int) (a0_a_3_a : Option Addr) (a0_a_3_n : Nat) (a0_a_3_c : Nat) (a1_b_0 : Int) (a1_b_1 : Int) (a1_b_2 : Int) (a1_b_3_a : Option Addr) (a1_b_3_n : Nat) (a1_b_3_c : Nat) (R : Value → World → Prop) (w : World) : Prop :=
  ∀ b1, w.heap.size ≤ b1 →
  ∀ b2, w.heap.size ≤ b2 →
  brB (a0_a_0 == a1_b_0) (
    brB (a0_a_1 == a1_b_1) (
      brB (a0_a_2 == a1_b_2) (
        ∀ w3, Adv [] [b2, b1] w w3 →
        Calls Try.prog 72 #[(.slice a0_a_3_a a0_a_3_n a0_a_3_c), (.slice a1_b_3_a a1_b_3_n a1_b_3_c)] w3 fun e w4 => ∃ t5 : Bool, e = .returned (.bool t5) ∧ Keep [b1, b2] w3 w4 ∧
        R (.bool t5) w4)
      (
        ∀ w6, Adv [] [b2, b1] w w6 →
        R (.bool false) w6))
    (
      ∀ w7, Adv [] [b2, b1] w w7 →
      R (.bool false) w7))
  (
    ∀ w8, Adv [] [b2, b1] w w8 →
    R (.bool false) w8)
theorem request_batches_eq (a0_a_0 : Int) (a0_a_1 : Int) (a0_a_2 : Int) (a0_a_3_a : Option Addr) (a0_a_3_n : Nat) (a0_a_3_c : Nat) (a1_b_0 : Int) (a1_b_1 : Int) (a1_b_2 : Int) (a1_b_3_a : Option Addr) (a1_b_3_n : Nat) (a1_b_3_c : Nat) (R : Value → World → Prop) (w : World) :
    dnF Try.prog request_batches_an (code Try.f60) 400 [] (post3 Try.prog Try.f60 [] R) ⟨args0 0 [(.agg #[(.int .i64 a0_a_0), (.int .i64 a0_a_1), (.int .i64 a0_a_2), (.slice a0_a_3_a a0_a_3_n a0_a_3_c)]), (.agg #[(.int .i64 a1_b_0), (.int .i64 a1_b_1), (.int .i64 a1_b_2), (.slice a1_b_3_a a1_b_3_n a1_b_3_c)])], fun _ => undef⟩ ⟨[], w, [], [], true⟩ = request_batches_T a0_a_0 a0_a_1 a0_a_2 a0_a_3_a a0_a_3_n a0_a_3_c a1_b_0 a1_b_1 a1_b_2 a1_b_3_a a1_b_3_n a1_b_3_c R w := by kernel_rfl
theorem request_batches_go {a0_a_0 : Int} {a0_a_1 : Int} {a0_a_2 : Int} {a0_a_3_a : Option Addr} {a0_a_3_n : Nat} {a0_a_3_c : Nat} {a1_b_0 : Int} {a1_b_1 : Int} {a1_b_2 : Int} {a1_b_3_a : Option Addr} {a1_b_3_n : Nat} {a1_b_3_c : Nat} {R : Value → World → Prop} {w : World} (h : request_batches_T a0_a_0 a0_a_1 a0_a_2 a0_a_3_a a0_a_3_n a0_a_3_c a1_b_0 a1_b_1 a1_b_2 a1_b_3_a a1_b_3_n a1_b_3_c R w) :
    Calls Try.prog 60 #[(.agg #[(.int .i64 a0_a_0), (.int .i64 a0_a_1), (.int .i64 a0_a_2), (.slice a0_a_3_a a0_a_3_n a0_a_3_c)]), (.agg #[(.int .i64 a1_b_0), (.int .i64 a1_b_1), (.int .i64 a1_b_2), (.slice a1_b_3_a a1_b_3_n a1_b_3_c)])] w fun e w' => ∃ v, e = .returned v ∧ R v w' :=
  calls_none Try.wide_mixed (f := 60) (args := [(.agg #[(.int .i64 a0_a_0), (.int .i64 a0_a_1), (.int .i64 a0_a_2), (.slice a0_a_3_a a0_a_3_n a0_a_3_c)]), (.agg #[(.int .i64 a1_b_0), (.int .i64 a1_b_1), (.int .i64 a1_b_2), (.slice a1_b_3_a a1_b_3_n a1_b_3_c)])]) Try.func60 rfl rfl (by kernel_rfl) rfl (Eq.mpr (request_batches_eq a0_a_0 a0_a_1 a0_a_2 a0_a_3_a a0_a_3_n a0_a_3_c a1_b_0 a1_b_1 a1_b_2 a1_b_3_a a1_b_3_n a1_b_3_c R w) h)
def request_Same_an : List LA := []
/-- stagecoach/request.Same -/
def request_Same_T (a0_a_0 : Int) (a0_a_1 : ByteArray) (a0_a_2 : Int) (a0_a_3 : Int) (a0_a_4 : Int) (a0_a_5 : Int) (a0_a_6 : Int) (a0_a_7 : Int) (a0_a_8_a : Option Addr) (a0_a_8_n : Nat) (a0_a_8_c : Nat) (a0_a_9 : ByteArray) (a0_a_10 : ByteArray) (a0_a_11 : Int) (a0_a_12 : Bool) (a0_a_13_a : Option Addr) (a0_a_13_n : Nat) (a0_a_13_c : Nat) (a1_b_0 : Int) (a1_b_1 : ByteArray) (a1_b_2 : Int) (a1_b_3 : Int) (a1_b_4 : Int) (a1_b_5 : Int) (a1_b_6 : Int) (a1_b_7 : Int) (a1_b_8_a : Option Addr) (a1_b_8_n : Nat) (a1_b_8_c : Nat) (a1_b_9 : ByteArray) (a1_b_10 : ByteArray) (a1_b_11 : Int) (a1_b_12 : Bool) (a1_b_13_a : Option Addr) (a1_b_13_n : Nat) (a1_b_13_c : Nat) (R : Value → World → Prop) (w : World) : Prop :=
  ∀ b1, w.heap.size ≤ b1 →
  ∀ b2, w.heap.size ≤ b2 →
  brB (a0_a_0 == a1_b_0) (
    ∀ w3, Adv [] [b2, b1] w w3 →
    ∃ t4 : Bool, (∀ w', Mod [] w3 w' → Sem.run Try.prog (do eqGuard .eql 29 (.tmp 13) (.tmp 15) (.agg #[(.string a0_a_1), (.int .i64 a0_a_2)]) (.agg #[(.string a1_b_1), (.int .i64 a1_b_2)]); Go.binOp .eql 29 (.agg #[(.string a0_a_1), (.int .i64 a0_a_2)]) (.agg #[(.string a1_b_1), (.int .i64 a1_b_2)])) w' = .ok (.bool t4) w') ∧
    brB t4 (
      brB (a0_a_3 == a1_b_3) (
        brB (a0_a_4 == a1_b_4) (
          brB (a0_a_9.toList == a1_b_9.toList) (
            brB (a0_a_10.toList == a1_b_10.toList) (
              brB (a0_a_11 == a1_b_11) (
                brB (a0_a_12 == a1_b_12) (
                  Calls Try.prog 60 #[(.agg #[(.int .i64 a0_a_5), (.int .i64 a0_a_6), (.int .i64 a0_a_7), (.slice a0_a_8_a a0_a_8_n a0_a_8_c)]), (.agg #[(.int .i64 a1_b_5), (.int .i64 a1_b_6), (.int .i64 a1_b_7), (.slice a1_b_8_a a1_b_8_n a1_b_8_c)])] w3 fun e w5 => ∃ t6 : Bool, e = .returned (.bool t6) ∧ Keep [b1, b2] w3 w5 ∧
                  brB t6 (
                    Calls Try.prog 61 #[(.slice a0_a_13_a a0_a_13_n a0_a_13_c), (.slice a1_b_13_a a1_b_13_n a1_b_13_c)] w5 fun e w7 => ∃ t8 : Bool, e = .returned (.bool t8) ∧ Keep [b1, b2] w5 w7 ∧
                    R (.bool t8) w7)
                  (
                    R (.bool false) w5))
                (
                  R (.bool false) w3))
              (
                R (.bool false) w3))
            (
              R (.bool false) w3))
          (
            R (.bool false) w3))
        (
          R (.bool false) w3))
      (
        R (.bool false) w3))
    (
      R (.bool false) w3))
  (
    ∀ w9, Adv [] [b2, b1] w w9 →
    R (.bool false) w9)
theorem request_Same_eq (a0_a_0 : Int) (a0_a_1 : ByteArray) (a0_a_2 : Int) (a0_a_3 : Int) (a0_a_4 : Int) (a0_a_5 : Int) (a0_a_6 : Int) (a0_a_7 : Int) (a0_a_8_a : Option Addr) (a0_a_8_n : Nat) (a0_a_8_c : Nat) (a0_a_9 : ByteArray) (a0_a_10 : ByteArray) (a0_a_11 : Int) (a0_a_12 : Bool) (a0_a_13_a : Option Addr) (a0_a_13_n : Nat) (a0_a_13_c : Nat) (a1_b_0 : Int) (a1_b_1 : ByteArray) (a1_b_2 : Int) (a1_b_3 : Int) (a1_b_4 : Int) (a1_b_5 : Int) (a1_b_6 : Int) (a1_b_7 : Int) (a1_b_8_a : Option Addr) (a1_b_8_n : Nat) (a1_b_8_c : Nat) (a1_b_9 : ByteArray) (a1_b_10 : ByteArray) (a1_b_11 : Int) (a1_b_12 : Bool) (a1_b_13_a : Option Addr) (a1_b_13_n : Nat) (a1_b_13_c : Nat) (R : Value → World → Prop) (w : World) :
    dnF Try.prog request_Same_an (code Try.f46) 400 [] (post3 Try.prog Try.f46 [] R) ⟨args0 0 [(.agg #[(.int .i64 a0_a_0), (.string a0_a_1), (.int .i64 a0_a_2), (.int .i64 a0_a_3), (.int .i64 a0_a_4), (.int .i64 a0_a_5), (.int .i64 a0_a_6), (.int .i64 a0_a_7), (.slice a0_a_8_a a0_a_8_n a0_a_8_c), (.string a0_a_9), (.string a0_a_10), (.int .i64 a0_a_11), (.bool a0_a_12), (.slice a0_a_13_a a0_a_13_n a0_a_13_c)]), (.agg #[(.int .i64 a1_b_0), (.string a1_b_1), (.int .i64 a1_b_2), (.int .i64 a1_b_3), (.int .i64 a1_b_4), (.int .i64 a1_b_5), (.int .i64 a1_b_6), (.int .i64 a1_b_7), (.slice a1_b_8_a a1_b_8_n a1_b_8_c), (.string a1_b_9), (.string a1_b_10), (.int .i64 a1_b_11), (.bool a1_b_12), (.slice a1_b_13_a a1_b_13_n a1_b_13_c)])], fun _ => undef⟩ ⟨[], w, [], [], true⟩ = request_Same_T a0_a_0 a0_a_1 a0_a_2 a0_a_3 a0_a_4 a0_a_5 a0_a_6 a0_a_7 a0_a_8_a a0_a_8_n a0_a_8_c a0_a_9 a0_a_10 a0_a_11 a0_a_12 a0_a_13_a a0_a_13_n a0_a_13_c a1_b_0 a1_b_1 a1_b_2 a1_b_3 a1_b_4 a1_b_5 a1_b_6 a1_b_7 a1_b_8_a a1_b_8_n a1_b_8_c a1_b_9 a1_b_10 a1_b_11 a1_b_12 a1_b_13_a a1_b_13_n a1_b_13_c R w := by kernel_rfl
theorem request_Same_go {a0_a_0 : Int} {a0_a_1 : ByteArray} {a0_a_2 : Int} {a0_a_3 : Int} {a0_a_4 : Int} {a0_a_5 : Int} {a0_a_6 : Int} {a0_a_7 : Int} {a0_a_8_a : Option Addr} {a0_a_8_n : Nat} {a0_a_8_c : Nat} {a0_a_9 : ByteArray} {a0_a_10 : ByteArray} {a0_a_11 : Int} {a0_a_12 : Bool} {a0_a_13_a : Option Addr} {a0_a_13_n : Nat} {a0_a_13_c : Nat} {a1_b_0 : Int} {a1_b_1 : ByteArray} {a1_b_2 : Int} {a1_b_3 : Int} {a1_b_4 : Int} {a1_b_5 : Int} {a1_b_6 : Int} {a1_b_7 : Int} {a1_b_8_a : Option Addr} {a1_b_8_n : Nat} {a1_b_8_c : Nat} {a1_b_9 : ByteArray} {a1_b_10 : ByteArray} {a1_b_11 : Int} {a1_b_12 : Bool} {a1_b_13_a : Option Addr} {a1_b_13_n : Nat} {a1_b_13_c : Nat} {R : Value → World → Prop} {w : World} (h : request_Same_T a0_a_0 a0_a_1 a0_a_2 a0_a_3 a0_a_4 a0_a_5 a0_a_6 a0_a_7 a0_a_8_a a0_a_8_n a0_a_8_c a0_a_9 a0_a_10 a0_a_11 a0_a_12 a0_a_13_a a0_a_13_n a0_a_13_c a1_b_0 a1_b_1 a1_b_2 a1_b_3 a1_b_4 a1_b_5 a1_b_6 a1_b_7 a1_b_8_a a1_b_8_n a1_b_8_c a1_b_9 a1_b_10 a1_b_11 a1_b_12 a1_b_13_a a1_b_13_n a1_b_13_c R w) :
    Calls Try.prog 46 #[(.agg #[(.int .i64 a0_a_0), (.string a0_a_1), (.int .i64 a0_a_2), (.int .i64 a0_a_3), (.int .i64 a0_a_4), (.int .i64 a0_a_5), (.int .i64 a0_a_6), (.int .i64 a0_a_7), (.slice a0_a_8_a a0_a_8_n a0_a_8_c), (.string a0_a_9), (.string a0_a_10), (.int .i64 a0_a_11), (.bool a0_a_12), (.slice a0_a_13_a a0_a_13_n a0_a_13_c)]), (.agg #[(.int .i64 a1_b_0), (.string a1_b_1), (.int .i64 a1_b_2), (.int .i64 a1_b_3), (.int .i64 a1_b_4), (.int .i64 a1_b_5), (.int .i64 a1_b_6), (.int .i64 a1_b_7), (.slice a1_b_8_a a1_b_8_n a1_b_8_c), (.string a1_b_9), (.string a1_b_10), (.int .i64 a1_b_11), (.bool a1_b_12), (.slice a1_b_13_a a1_b_13_n a1_b_13_c)])] w fun e w' => ∃ v, e = .returned v ∧ R v w' :=
  calls_none Try.wide_mixed (f := 46) (args := [(.agg #[(.int .i64 a0_a_0), (.string a0_a_1), (.int .i64 a0_a_2), (.int .i64 a0_a_3), (.int .i64 a0_a_4), (.int .i64 a0_a_5), (.int .i64 a0_a_6), (.int .i64 a0_a_7), (.slice a0_a_8_a a0_a_8_n a0_a_8_c), (.string a0_a_9), (.string a0_a_10), (.int .i64 a0_a_11), (.bool a0_a_12), (.slice a0_a_13_a a0_a_13_n a0_a_13_c)]), (.agg #[(.int .i64 a1_b_0), (.string a1_b_1), (.int .i64 a1_b_2), (.int .i64 a1_b_3), (.int .i64 a1_b_4), (.int .i64 a1_b_5), (.int .i64 a1_b_6), (.int .i64 a1_b_7), (.slice a1_b_8_a a1_b_8_n a1_b_8_c), (.string a1_b_9), (.string a1_b_10), (.int .i64 a1_b_11), (.bool a1_b_12), (.slice a1_b_13_a a1_b_13_n a1_b_13_c)])]) Try.func46 rfl rfl (by kernel_rfl) rfl (Eq.mpr (request_Same_eq a0_a_0 a0_a_1 a0_a_2 a0_a_3 a0_a_4 a0_a_5 a0_a_6 a0_a_7 a0_a_8_a a0_a_8_n a0_a_8_c a0_a_9 a0_a_10 a0_a_11 a0_a_12 a0_a_13_a a0_a_13_n a0_a_13_c a1_b_0 a1_b_1 a1_b_2 a1_b_3 a1_b_4 a1_b_5 a1_b_6 a1_b_7 a1_b_8_a a1_b_8_n a1_b_8_c a1_b_9 a1_b_10 a1_b_11 a1_b_12 a1_b_13_a a1_b_13_n a1_b_13_c R w) h)
def slices_Equal_string_string_la1 : LA := ⟨[0, 0, 1, 0, 1, 1], [0, 1, 12, 13], [], 0, []⟩
def slices_Equal_string_string_an : List LA := [slices_Equal_string_string_la1]
def slices_Equal_string_string_v1 (a_0 : Option Addr) (n_0 : Nat) (c_0 : Nat) (a_1 : Option Addr) (n_1 : Nat) (c_1 : Nat) (x_12 : Int) (x_13 : Int) : List Value := [(.slice a_0 n_0 c_0), (.slice a_1 n_1 c_1), (.int .i64 x_12), (.int .i64 x_13)]
def slices_Equal_string_string_m1 : List TB := []
def slices_Equal_string_string_L1 (a_0 : Option Addr) (n_0 : Nat) (c_0 : Nat) (a_1 : Option Addr) (n_1 : Nat) (c_1 : Nat) (x_12 : Int) (x_13 : Int) (K1 : Kh) (R : Value → World → Prop) (w : World) : Prop :=
  brB (decide (x_13 < x_12)) (
    ixA a_0 n_0 x_13 1 fun q1 =>
    ldStr w q1 fun s2 =>
    ixA a_1 n_1 x_13 1 fun q3 =>
    ldStr w q3 fun s4 =>
    brB (!(s2.toList == s4.toList)) (
      ∀ w5, Adv [] [] w w5 →
      R (.bool false) w5)
    (
      ∀ w6, Adv [] [] w w6 →
      K1 (slices_Equal_string_string_v1 a_0 n_0 c_0 a_1 n_1 c_1 x_12 (IntKind.wrap .i64 (x_13 + 1))) (slices_Equal_string_string_m1) w6))
  (
    R (.bool true) w)
theorem slices_Equal_string_string_L1_eq (a_0 : Option Addr) (n_0 : Nat) (c_0 : Nat) (a_1 : Option Addr) (n_1 : Nat) (c_1 : Nat) (x_12 : Int) (x_13 : Int) (K1 : Kh) (js : Nat → Value) (R : Value → World → Prop) (w : World) :
    headA slices_Equal_string_string_la1 ((dnF Try.prog slices_Equal_string_string_an (code Try.f61) 396 [0, 0, 1, 0, 1, 1]) (kthen3 (atA slices_Equal_string_string_la1 K1) (kont3 Try.prog slices_Equal_string_string_an (code Try.f61) [1, 1, 0, 1, 0] [] (post3 Try.prog Try.f61 [] R)))) (slices_Equal_string_string_v1 a_0 n_0 c_0 a_1 n_1 c_1 x_12 x_13) js (slices_Equal_string_string_m1) w = slices_Equal_string_string_L1 a_0 n_0 c_0 a_1 n_1 c_1 x_12 x_13 K1 R w := by kernel_rfl
def slices_Equal_string_string_K1 (a_0 : Option Addr) (n_0 : Nat) (c_0 : Nat) (a_1 : Option Addr) (n_1 : Nat) (c_1 : Nat) (x_12 : Int) (I : Nat → Int → World → Prop) (m : Nat) (vals : List Value) (mem : List TB) (w : World) : Prop := ∃ m', m' < m ∧ ∃ x_13, vals = (slices_Equal_string_string_v1 a_0 n_0 c_0 a_1 n_1 c_1 x_12 x_13) ∧ mem = (slices_Equal_string_string_m1) ∧ I m' x_13 w
theorem slices_Equal_string_string_leaf1 {a_0 : Option Addr} {n_0 : Nat} {c_0 : Nat} {a_1 : Option Addr} {n_1 : Nat} {c_1 : Nat} {x_12 : Int} {I : Nat → Int → World → Prop} {m : Nat} {x_13 : Int} {w : World} (m' : Nat) (h1 : m' < m) (h2 : I m' x_13 w) : slices_Equal_string_string_K1 a_0 n_0 c_0 a_1 n_1 c_1 x_12 I m (slices_Equal_string_string_v1 a_0 n_0 c_0 a_1 n_1 c_1 x_12 x_13) (slices_Equal_string_string_m1) w := ⟨m', h1, _, rfl, rfl, h2⟩
theorem slices_Equal_string_string_rule1 {a_0 : Option Addr} {n_0 : Nat} {c_0 : Nat} {a_1 : Option Addr} {n_1 : Nat} {c_1 : Nat} {x_12 : Int} {x_130 : Int} {R : Value → World → Prop} {w0 : World} (I : Nat → Int → World → Prop) (m0 : Nat) (h0 : I m0 x_130 w0)
    (hr : ∀ (m : Nat) (x_13 : Int) (w : World), I m x_13 w → slices_Equal_string_string_L1 a_0 n_0 c_0 a_1 n_1 c_1 x_12 x_13 (slices_Equal_string_string_K1 a_0 n_0 c_0 a_1 n_1 c_1 x_12 I m) R w) :
    loopD3 slices_Equal_string_string_la1 (dnF Try.prog slices_Equal_string_string_an (code Try.f61) 396 [0, 0, 1, 0, 1, 1]) (kont3 Try.prog slices_Equal_string_string_an (code Try.f61) [1, 1, 0, 1, 0] [] (post3 Try.prog Try.f61 [] R)) (slices_Equal_string_string_v1 a_0 n_0 c_0 a_1 n_1 c_1 x_12 x_130) (slices_Equal_string_string_m1) w0 := by
  refine ⟨fun m vals mem w => ∃ x_13, vals = (slices_Equal_string_string_v1 a_0 n_0 c_0 a_1 n_1 c_1 x_12 x_13) ∧ mem = (slices_Equal_string_string_m1) ∧ I m x_13 w, m0, ⟨_, rfl, rfl, h0⟩, ?_⟩
  rintro m vals mem w ⟨x_13, rfl, rfl, hI⟩
  refine ⟨rfl, rfl, fun js => ?_⟩
  have h := hr m x_13 w hI
  rw [← slices_Equal_string_string_L1_eq _ _ _ _ _ _ _ _ _ js] at h
  exact h
/-- slices.Equal[[]string,string] -/
def slices_Equal_string_string_T (a0_s1_a : Option Addr) (a0_s1_n : Nat) (a0_s1_c : Nat) (a1_s2_a : Option Addr) (a1_s2_n : Nat) (a1_s2_c : Nat) (R : Value → World → Prop) (w : World) : Prop :=
  brB ((a0_s1_n : Int) != (a1_s2_n : Int)) (
    R (.bool false) w)
  (
    loopD3 slices_Equal_string_string_la1 (dnF Try.prog slices_Equal_string_string_an (code Try.f61) 396 [0, 0, 1, 0, 1, 1]) (kont3 Try.prog slices_Equal_string_string_an (code Try.f61) [1, 1, 0, 1, 0] [] (post3 Try.prog Try.f61 [] R)) (slices_Equal_string_string_v1 a0_s1_a a0_s1_n a0_s1_c a1_s2_a a1_s2_n a1_s2_c (a0_s1_n : Int) 0) (slices_Equal_string_string_m1) w)
theorem slices_Equal_string_string_eq (a0_s1_a : Option Addr) (a0_s1_n : Nat) (a0_s1_c : Nat) (a1_s2_a : Option Addr) (a1_s2_n : Nat) (a1_s2_c : Nat) (R : Value → World → Prop) (w : World) :
    dnF Try.prog slices_Equal_string_string_an (code Try.f61) 400 [] (post3 Try.prog Try.f61 [] R) ⟨args0 0 [(.slice a0_s1_a a0_s1_n a0_s1_c), (.slice a1_s2_a a1_s2_n a1_s2_c)], fun _ => undef⟩ ⟨[], w, [], [], true⟩ = slices_Equal_string_string_T a0_s1_a a0_s1_n a0_s1_c a1_s2_a a1_s2_n a1_s2_c R w := by kernel_rfl
theorem slices_Equal_string_string_go {a0_s1_a : Option Addr} {a0_s1_n : Nat} {a0_s1_c : Nat} {a1_s2_a : Option Addr} {a1_s2_n : Nat} {a1_s2_c : Nat} {R : Value → World → Prop} {w : World} (h : slices_Equal_string_string_T a0_s1_a a0_s1_n a0_s1_c a1_s2_a a1_s2_n a1_s2_c R w) :
    Calls Try.prog 61 #[(.slice a0_s1_a a0_s1_n a0_s1_c), (.slice a1_s2_a a1_s2_n a1_s2_c)] w fun e w' => ∃ v, e = .returned v ∧ R v w' :=
  calls_none Try.wide_mixed (f := 61) (args := [(.slice a0_s1_a a0_s1_n a0_s1_c), (.slice a1_s2_a a1_s2_n a1_s2_c)]) Try.func61 rfl rfl (by kernel_rfl) rfl (Eq.mpr (slices_Equal_string_string_eq a0_s1_a a0_s1_n a0_s1_c a1_s2_a a1_s2_n a1_s2_c R w) h)
def slices_Equal_api_Record_api_Record_la1 : LA := ⟨[0, 0, 1, 0, 1, 1], [0, 1, 12, 13], [], 0, []⟩
def slices_Equal_api_Record_api_Record_an : List LA := [slices_Equal_api_Record_api_Record_la1]
def slices_Equal_api_Record_api_Record_v1 (a_0 : Option Addr) (n_0 : Nat) (c_0 : Nat) (a_1 : Option Addr) (n_1 : Nat) (c_1 : Nat) (x_12 : Int) (x_13 : Int) : List Value := [(.slice a_0 n_0 c_0), (.slice a_1 n_1 c_1), (.int .i64 x_12), (.int .i64 x_13)]
def slices_Equal_api_Record_api_Record_m1 : List TB := []
def slices_Equal_api_Record_api_Record_L1 (a_0 : Option Addr) (n_0 : Nat) (c_0 : Nat) (a_1 : Option Addr) (n_1 : Nat) (c_1 : Nat) (x_12 : Int) (x_13 : Int) (K1 : Kh) (R : Value → World → Prop) (w : World) : Prop :=
  brB (decide (x_13 < x_12)) (
    ixA a_0 n_0 x_13 4 fun q1 =>
    ldBool w q1 fun t2 => ldStr w (Addr.add q1 1) fun s3 => ldBool w (Addr.add q1 2) fun t4 => ldStr w (Addr.add q1 3) fun s5 =>
    ixA a_1 n_1 x_13 4 fun q6 =>
    ldBool w q6 fun t7 => ldStr w (Addr.add q6 1) fun s8 => ldBool w (Addr.add q6 2) fun t9 => ldStr w (Addr.add q6 3) fun s10 =>
    ∃ t11 : Bool, (∀ w', Mod [] w w' → Sem.run Try.prog (do eqGuard .neq 90 (.tmp 19) (.tmp 23) (.agg #[(.bool t2), (.string s3), (.bool t4), (.string s5)]) (.agg #[(.bool t7), (.string s8), (.bool t9), (.string s10)]); Go.binOp .neq 90 (.agg #[(.bool t2), (.string s3), (.bool t4), (.string s5)]) (.agg #[(.bool t7), (.string s8), (.bool t9), (.string s10)])) w' = .ok (.bool t11) w') ∧
    brB t11 (
      ∀ w12, Adv [] [] w w12 →
      R (.bool false) w12)
    (
      ∀ w13, Adv [] [] w w13 →
      K1 (slices_Equal_api_Record_api_Record_v1 a_0 n_0 c_0 a_1 n_1 c_1 x_12 (IntKind.wrap .i64 (x_13 + 1))) (slices_Equal_api_Record_api_Record_m1) w13))
  (
    R (.bool true) w)
theorem slices_Equal_api_Record_api_Record_L1_eq (a_0 : Option Addr) (n_0 : Nat) (c_0 : Nat) (a_1 : Option Addr) (n_1 : Nat) (c_1 : Nat) (x_12 : Int) (x_13 : Int) (K1 : Kh) (js : Nat → Value) (R : Value → World → Prop) (w : World) :
    headA slices_Equal_api_Record_api_Record_la1 ((dnF Try.prog slices_Equal_api_Record_api_Record_an (code Try.f72) 396 [0, 0, 1, 0, 1, 1]) (kthen3 (atA slices_Equal_api_Record_api_Record_la1 K1) (kont3 Try.prog slices_Equal_api_Record_api_Record_an (code Try.f72) [1, 1, 0, 1, 0] [] (post3 Try.prog Try.f72 [] R)))) (slices_Equal_api_Record_api_Record_v1 a_0 n_0 c_0 a_1 n_1 c_1 x_12 x_13) js (slices_Equal_api_Record_api_Record_m1) w = slices_Equal_api_Record_api_Record_L1 a_0 n_0 c_0 a_1 n_1 c_1 x_12 x_13 K1 R w := by kernel_rfl
def slices_Equal_api_Record_api_Record_K1 (a_0 : Option Addr) (n_0 : Nat) (c_0 : Nat) (a_1 : Option Addr) (n_1 : Nat) (c_1 : Nat) (x_12 : Int) (I : Nat → Int → World → Prop) (m : Nat) (vals : List Value) (mem : List TB) (w : World) : Prop := ∃ m', m' < m ∧ ∃ x_13, vals = (slices_Equal_api_Record_api_Record_v1 a_0 n_0 c_0 a_1 n_1 c_1 x_12 x_13) ∧ mem = (slices_Equal_api_Record_api_Record_m1) ∧ I m' x_13 w
theorem slices_Equal_api_Record_api_Record_leaf1 {a_0 : Option Addr} {n_0 : Nat} {c_0 : Nat} {a_1 : Option Addr} {n_1 : Nat} {c_1 : Nat} {x_12 : Int} {I : Nat → Int → World → Prop} {m : Nat} {x_13 : Int} {w : World} (m' : Nat) (h1 : m' < m) (h2 : I m' x_13 w) : slices_Equal_api_Record_api_Record_K1 a_0 n_0 c_0 a_1 n_1 c_1 x_12 I m (slices_Equal_api_Record_api_Record_v1 a_0 n_0 c_0 a_1 n_1 c_1 x_12 x_13) (slices_Equal_api_Record_api_Record_m1) w := ⟨m', h1, _, rfl, rfl, h2⟩
theorem slices_Equal_api_Record_api_Record_rule1 {a_0 : Option Addr} {n_0 : Nat} {c_0 : Nat} {a_1 : Option Addr} {n_1 : Nat} {c_1 : Nat} {x_12 : Int} {x_130 : Int} {R : Value → World → Prop} {w0 : World} (I : Nat → Int → World → Prop) (m0 : Nat) (h0 : I m0 x_130 w0)
    (hr : ∀ (m : Nat) (x_13 : Int) (w : World), I m x_13 w → slices_Equal_api_Record_api_Record_L1 a_0 n_0 c_0 a_1 n_1 c_1 x_12 x_13 (slices_Equal_api_Record_api_Record_K1 a_0 n_0 c_0 a_1 n_1 c_1 x_12 I m) R w) :
    loopD3 slices_Equal_api_Record_api_Record_la1 (dnF Try.prog slices_Equal_api_Record_api_Record_an (code Try.f72) 396 [0, 0, 1, 0, 1, 1]) (kont3 Try.prog slices_Equal_api_Record_api_Record_an (code Try.f72) [1, 1, 0, 1, 0] [] (post3 Try.prog Try.f72 [] R)) (slices_Equal_api_Record_api_Record_v1 a_0 n_0 c_0 a_1 n_1 c_1 x_12 x_130) (slices_Equal_api_Record_api_Record_m1) w0 := by
  refine ⟨fun m vals mem w => ∃ x_13, vals = (slices_Equal_api_Record_api_Record_v1 a_0 n_0 c_0 a_1 n_1 c_1 x_12 x_13) ∧ mem = (slices_Equal_api_Record_api_Record_m1) ∧ I m x_13 w, m0, ⟨_, rfl, rfl, h0⟩, ?_⟩
  rintro m vals mem w ⟨x_13, rfl, rfl, hI⟩
  refine ⟨rfl, rfl, fun js => ?_⟩
  have h := hr m x_13 w hI
  rw [← slices_Equal_api_Record_api_Record_L1_eq _ _ _ _ _ _ _ _ _ js] at h
  exact h
/-- slices.Equal[[]stagecoach/api.Record,stagecoach/api.Record] -/
def slices_Equal_api_Record_api_Record_T (a0_s1_a : Option Addr) (a0_s1_n : Nat) (a0_s1_c : Nat) (a1_s2_a : Option Addr) (a1_s2_n : Nat) (a1_s2_c : Nat) (R : Value → World → Prop) (w : World) : Prop :=
  brB ((a0_s1_n : Int) != (a1_s2_n : Int)) (
    R (.bool false) w)
  (
    loopD3 slices_Equal_api_Record_api_Record_la1 (dnF Try.prog slices_Equal_api_Record_api_Record_an (code Try.f72) 396 [0, 0, 1, 0, 1, 1]) (kont3 Try.prog slices_Equal_api_Record_api_Record_an (code Try.f72) [1, 1, 0, 1, 0] [] (post3 Try.prog Try.f72 [] R)) (slices_Equal_api_Record_api_Record_v1 a0_s1_a a0_s1_n a0_s1_c a1_s2_a a1_s2_n a1_s2_c (a0_s1_n : Int) 0) (slices_Equal_api_Record_api_Record_m1) w)
theorem slices_Equal_api_Record_api_Record_eq (a0_s1_a : Option Addr) (a0_s1_n : Nat) (a0_s1_c : Nat) (a1_s2_a : Option Addr) (a1_s2_n : Nat) (a1_s2_c : Nat) (R : Value → World → Prop) (w : World) :
    dnF Try.prog slices_Equal_api_Record_api_Record_an (code Try.f72) 400 [] (post3 Try.prog Try.f72 [] R) ⟨args0 0 [(.slice a0_s1_a a0_s1_n a0_s1_c), (.slice a1_s2_a a1_s2_n a1_s2_c)], fun _ => undef⟩ ⟨[], w, [], [], true⟩ = slices_Equal_api_Record_api_Record_T a0_s1_a a0_s1_n a0_s1_c a1_s2_a a1_s2_n a1_s2_c R w := by kernel_rfl
theorem slices_Equal_api_Record_api_Record_go {a0_s1_a : Option Addr} {a0_s1_n : Nat} {a0_s1_c : Nat} {a1_s2_a : Option Addr} {a1_s2_n : Nat} {a1_s2_c : Nat} {R : Value → World → Prop} {w : World} (h : slices_Equal_api_Record_api_Record_T a0_s1_a a0_s1_n a0_s1_c a1_s2_a a1_s2_n a1_s2_c R w) :
    Calls Try.prog 72 #[(.slice a0_s1_a a0_s1_n a0_s1_c), (.slice a1_s2_a a1_s2_n a1_s2_c)] w fun e w' => ∃ v, e = .returned v ∧ R v w' :=
  calls_none Try.wide_mixed (f := 72) (args := [(.slice a0_s1_a a0_s1_n a0_s1_c), (.slice a1_s2_a a1_s2_n a1_s2_c)]) Try.func72 rfl rfl (by kernel_rfl) rfl (Eq.mpr (slices_Equal_api_Record_api_Record_eq a0_s1_a a0_s1_n a0_s1_c a1_s2_a a1_s2_n a1_s2_c R w) h)
def slices_Clone_string_string_an : List LA := []
/-- slices.Clone[[]string,string] -/
def slices_Clone_string_string_T (a0_s_a : Option Addr) (a0_s_n : Nat) (a0_s_c : Nat) (R : Value → World → Prop) (w : World) : Prop :=
  brB (Option.isNone a0_s_a) (
    R (.slice none 0 0) w)
  (
    al w (.cells #[] 9) fun b1 w2 =>
    effSl Try.prog (Builtin.append_ #[33, 33] 33 #[(.slice (some ⟨b1, 0, none⟩) 0 0), (.slice a0_s_a a0_s_n a0_s_c)]) w2 fun a4 n5 c6 w3 =>
    R (.slice a4 n5 c6) w3)
theorem slices_Clone_string_string_eq (a0_s_a : Option Addr) (a0_s_n : Nat) (a0_s_c : Nat) (R : Value → World → Prop) (w : World) :
    dnF Try.prog slices_Clone_string_string_an (code Try.f51) 400 [] (post3 Try.prog Try.f51 [] R) ⟨args0 0 [(.slice a0_s_a a0_s_n a0_s_c)], fun _ => undef⟩ ⟨[], w, [], [], true⟩ = slices_Clone_string_string_T a0_s_a a0_s_n a0_s_c R w := by kernel_rfl
theorem slices_Clone_string_string_go {a0_s_a : Option Addr} {a0_s_n : Nat} {a0_s_c : Nat} {R : Value → World → Prop} {w : World} (h : slices_Clone_string_string_T a0_s_a a0_s_n a0_s_c R w) :
    Calls Try.prog 51 #[(.slice a0_s_a a0_s_n a0_s_c)] w fun e w' => ∃ v, e = .returned v ∧ R v w' :=
  calls_none Try.wide_mixed (f := 51) (args := [(.slice a0_s_a a0_s_n a0_s_c)]) Try.func51 rfl rfl (by kernel_rfl) rfl (Eq.mpr (slices_Clone_string_string_eq a0_s_a a0_s_n a0_s_c R w) h)
def slices_Clone_api_Record_api_Record_an : List LA := []
/-- slices.Clone[[]stagecoach/api.Record,stagecoach/api.Record] -/
def slices_Clone_api_Record_api_Record_T (a0_s_a : Option Addr) (a0_s_n : Nat) (a0_s_c : Nat) (R : Value → World → Prop) (w : World) : Prop :=
  brB (Option.isNone a0_s_a) (
    R (.slice none 0 0) w)
  (
    al w (.cells #[] 90) fun b1 w2 =>
    effSl Try.prog (Builtin.append_ #[30, 30] 30 #[(.slice (some ⟨b1, 0, none⟩) 0 0), (.slice a0_s_a a0_s_n a0_s_c)]) w2 fun a4 n5 c6 w3 =>
    R (.slice a4 n5 c6) w3)
theorem slices_Clone_api_Record_api_Record_eq (a0_s_a : Option Addr) (a0_s_n : Nat) (a0_s_c : Nat) (R : Value → World → Prop) (w : World) :
    dnF Try.prog slices_Clone_api_Record_api_Record_an (code Try.f52) 400 [] (post3 Try.prog Try.f52 [] R) ⟨args0 0 [(.slice a0_s_a a0_s_n a0_s_c)], fun _ => undef⟩ ⟨[], w, [], [], true⟩ = slices_Clone_api_Record_api_Record_T a0_s_a a0_s_n a0_s_c R w := by kernel_rfl
theorem slices_Clone_api_Record_api_Record_go {a0_s_a : Option Addr} {a0_s_n : Nat} {a0_s_c : Nat} {R : Value → World → Prop} {w : World} (h : slices_Clone_api_Record_api_Record_T a0_s_a a0_s_n a0_s_c R w) :
    Calls Try.prog 52 #[(.slice a0_s_a a0_s_n a0_s_c)] w fun e w' => ∃ v, e = .returned v ∧ R v w' :=
  calls_none Try.wide_mixed (f := 52) (args := [(.slice a0_s_a a0_s_n a0_s_c)]) Try.func52 rfl rfl (by kernel_rfl) rfl (Eq.mpr (slices_Clone_api_Record_api_Record_eq a0_s_a a0_s_n a0_s_c R w) h)

end Go.Proofs.Ytohgihgddknmmaa
