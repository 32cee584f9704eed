/- The conditions of Go functions' bodies, printed by gen2.py. -/
import Derived.Test.YtkdpopkbongabaaTrkS
namespace Go.Proofs.Ytkdpopkbongabaa
open Go Go.RowKit
set_option linter.unusedVariables false
set_option maxRecDepth 100000

def k_ref17_Box_Full_an : List LA := []
/-- (*stagecoach/stagecoachref17.Box).Full -/
def k_ref17_Box_Full_T (b0 : Nat) (o0 : Int) (o1_a : Option Addr) (o1_n : Nat) (o1_c : Nat) (a1_view : Int) (a2_kind : Int) (R : Value → World → Prop) (w : World) : Prop :=
  ∀ w1, Adv [] [] w w1 → w1.heap[b0]? = some (.cells #[(.int .i64 o0), (.slice o1_a o1_n o1_c)] 61) →
  Calls Try.prog 26 #[(.pointer (some ⟨b0, 0, none⟩)), (.int .i64 a1_view), (.int .i64 a2_kind)] w1 fun e w2 => ∃ (a3 : Option Addr) (n4 c5 : Nat), e = .returned (.slice a3 n4 c5) ∧ ∃ x6 : Int, ∃ (a7 : Option Addr) (n8 c9 : Nat), w2.heap[b0]? = some (.cells #[(.int .i64 x6), (.slice a7 n8 c9)] 61) ∧ (((.int .i64 x6) : Value) = (.int .i64 o0)) ∧
  R (.bool (decide ((IntKind.wrap .i64 (2 * (n4 : Int))) > o0))) w2
theorem k_ref17_Box_Full_eq (b0 : Nat) (o0 : Int) (o1_a : Option Addr) (o1_n : Nat) (o1_c : Nat) (a1_view : Int) (a2_kind : Int) (R : Value → World → Prop) (w : World) :
    dnF Try.prog k_ref17_Box_Full_an (code Try.f27) 400 [] (post3 Try.prog Try.f27 [0] R) ⟨(0, .pointer (some ⟨b0, 0, none⟩), some (0, 0)) :: args0 1 [(.int .i64 a1_view), (.int .i64 a2_kind)], fun _ => undef⟩ ⟨[⟨b0, 61, [(.int .i64 o0), (.slice o1_a o1_n o1_c)], false⟩], w, [], [], true⟩ = k_ref17_Box_Full_T b0 o0 o1_a o1_n o1_c a1_view a2_kind R w := by kernel_rfl
theorem k_ref17_Box_Full_go {b0 : Nat} {o0 : Int} {o1_a : Option Addr} {o1_n : Nat} {o1_c : Nat} {a1_view : Int} {a2_kind : Int} {R : Value → World → Prop} {w : World} (hb : w.heap[b0]? = some (.cells #[(.int .i64 o0), (.slice o1_a o1_n o1_c)] 61)) (h : k_ref17_Box_Full_T b0 o0 o1_a o1_n o1_c a1_view a2_kind R w) :
    Calls Try.prog 27 #[(.pointer (some ⟨b0, 0, none⟩)), (.int .i64 a1_view), (.int .i64 a2_kind)] w fun e w' => ∃ v, e = .returned v ∧ R v w' :=
  calls_one Try.wide_mixed (f := 27) (args := [(.int .i64 a1_view), (.int .i64 a2_kind)]) Try.func27 rfl rfl (by kernel_rfl) rfl hb (Eq.mpr (k_ref17_Box_Full_eq b0 o0 o1_a o1_n o1_c a1_view a2_kind R w) h)
def k_ref17_Box_Best_la1 : LA := ⟨[0, 0, 1, 0, 1, 1, 1, 1], [6, 8, 9, 10], [(6, 1, 0), (9, 2, 0)], 3, [0]⟩
def k_ref17_Box_Best_an : List LA := [k_ref17_Box_Best_la1]
def k_ref17_Box_Best_v1 (a_8 : Option Addr) (n_8 : Nat) (c_8 : Nat) (bm1 : Nat) (bm2 : Nat) (x_10 : Int) : List Value := [(.pointer (some ⟨bm1, 0, none⟩)), (.slice a_8 n_8 c_8), (.pointer (some ⟨bm2, 0, none⟩)), (.int .i64 x_10)]
def k_ref17_Box_Best_m1 (bm0 : Nat) (x_m0_0 : Int) (a_m0_1 : Option Addr) (n_m0_1 : Nat) (c_m0_1 : Nat) (bm1 : Nat) (bm2 : Nat) (x_m2_0 : Int) (x_m2_1 : Int) (x_m2_2 : Int) (x_m2_3 : Int) : List TB := [⟨bm0, 61, [(.int .i64 x_m0_0), (.slice a_m0_1 n_m0_1 c_m0_1)], true⟩, ⟨bm1, 29, [(.int .i64 0), (.int .i64 0), (.int .i64 0), (.int .i64 0)], false⟩, ⟨bm2, 29, [(.int .i64 x_m2_0), (.int .i64 x_m2_1), (.int .i64 x_m2_2), (.int .i64 x_m2_3)], false⟩]
def k_ref17_Box_Best_L1 (a_8 : Option Addr) (n_8 : Nat) (c_8 : Nat) (bm0 : Nat) (x_m0_0 : Int) (a_m0_1 : Option Addr) (n_m0_1 : Nat) (c_m0_1 : Nat) (bm1 : Nat) (bm2 : Nat) (x_10 : Int) (x_m2_0 : Int) (x_m2_1 : Int) (x_m2_2 : Int) (x_m2_3 : Int) (K1 : Kh) (R : Value → World → Prop) (w : World) : Prop :=
  w.heap[bm0]? = some (.cells #[(.int .i64 x_m0_0), (.slice a_m0_1 n_m0_1 c_m0_1)] 61) →
  brB (decide (x_10 < (n_8 : Int))) (
    ixA a_8 n_8 x_10 4 fun q18 =>
    ldInt .i64 w (Addr.add q18 1) fun x19 =>
    brB (decide (x19 > x_m2_1)) (
      ixA a_8 n_8 x_10 4 fun q20 =>
      ∀ w21, Adv [] [] w w21 → w21.heap[bm0]? = some (.cells #[(.int .i64 x_m0_0), (.slice a_m0_1 n_m0_1 c_m0_1)] 61) →
      ldInt .i64 w21 q20 fun x22 => ldInt .i64 w21 (Addr.add q20 1) fun x23 => ldInt .i64 w21 (Addr.add q20 2) fun x24 => ldInt .i64 w21 (Addr.add q20 3) fun x25 =>
      ∀ w26, Adv [bm2] [] w21 w26 → w26.heap[bm0]? = some (.cells #[(.int .i64 x_m0_0), (.slice a_m0_1 n_m0_1 c_m0_1)] 61) →
      K1 (k_ref17_Box_Best_v1 a_8 n_8 c_8 bm1 bm2 (IntKind.wrap .i64 (x_10 + 1))) (k_ref17_Box_Best_m1 bm0 x_m0_0 a_m0_1 n_m0_1 c_m0_1 bm1 bm2 x22 x23 x24 x25) w26)
    (
      ixA a_8 n_8 x_10 4 fun q27 =>
      ldInt .i64 w (Addr.add q27 1) fun x28 =>
      brB (x28 == x_m2_1) (
        ixA a_8 n_8 x_10 4 fun q29 =>
        ldInt .i64 w (Addr.add q29 2) fun x30 =>
        brB (decide (x30 > x_m2_2)) (
          ixA a_8 n_8 x_10 4 fun q31 =>
          ∀ w32, Adv [] [] w w32 → w32.heap[bm0]? = some (.cells #[(.int .i64 x_m0_0), (.slice a_m0_1 n_m0_1 c_m0_1)] 61) →
          ldInt .i64 w32 q31 fun x33 => ldInt .i64 w32 (Addr.add q31 1) fun x34 => ldInt .i64 w32 (Addr.add q31 2) fun x35 => ldInt .i64 w32 (Addr.add q31 3) fun x36 =>
          ∀ w37, Adv [bm2] [] w32 w37 → w37.heap[bm0]? = some (.cells #[(.int .i64 x_m0_0), (.slice a_m0_1 n_m0_1 c_m0_1)] 61) →
          K1 (k_ref17_Box_Best_v1 a_8 n_8 c_8 bm1 bm2 (IntKind.wrap .i64 (x_10 + 1))) (k_ref17_Box_Best_m1 bm0 x_m0_0 a_m0_1 n_m0_1 c_m0_1 bm1 bm2 x33 x34 x35 x36) w37)
        (
          ∀ w38, Adv [] [] w w38 → w38.heap[bm0]? = some (.cells #[(.int .i64 x_m0_0), (.slice a_m0_1 n_m0_1 c_m0_1)] 61) →
          K1 (k_ref17_Box_Best_v1 a_8 n_8 c_8 bm1 bm2 (IntKind.wrap .i64 (x_10 + 1))) (k_ref17_Box_Best_m1 bm0 x_m0_0 a_m0_1 n_m0_1 c_m0_1 bm1 bm2 x_m2_0 x_m2_1 x_m2_2 x_m2_3) w38))
      (
        ∀ w39, Adv [] [] w w39 → w39.heap[bm0]? = some (.cells #[(.int .i64 x_m0_0), (.slice a_m0_1 n_m0_1 c_m0_1)] 61) →
        K1 (k_ref17_Box_Best_v1 a_8 n_8 c_8 bm1 bm2 (IntKind.wrap .i64 (x_10 + 1))) (k_ref17_Box_Best_m1 bm0 x_m0_0 a_m0_1 n_m0_1 c_m0_1 bm1 bm2 x_m2_0 x_m2_1 x_m2_2 x_m2_3) w39)))
  (
    ∀ w40, Adv [bm1] [] w w40 → w40.heap[bm0]? = some (.cells #[(.int .i64 x_m0_0), (.slice a_m0_1 n_m0_1 c_m0_1)] 61) →
    R (.tuple #[(.agg #[(.int .i64 x_m2_0), (.int .i64 x_m2_1), (.int .i64 x_m2_2), (.int .i64 x_m2_3)]), (.bool true)]) w40)
theorem k_ref17_Box_Best_L1_eq (a_8 : Option Addr) (n_8 : Nat) (c_8 : Nat) (bm0 : Nat) (x_m0_0 : Int) (a_m0_1 : Option Addr) (n_m0_1 : Nat) (c_m0_1 : Nat) (bm1 : Nat) (bm2 : Nat) (x_10 : Int) (x_m2_0 : Int) (x_m2_1 : Int) (x_m2_2 : Int) (x_m2_3 : Int) (K1 : Kh) (js : Nat → Value) (R : Value → World → Prop) (w : World) :
    headA k_ref17_Box_Best_la1 ((dnF Try.prog k_ref17_Box_Best_an (code Try.f24) 394 [0, 0, 1, 0, 1, 1, 1, 1]) (kthen3 (atA k_ref17_Box_Best_la1 K1) (kont3 Try.prog k_ref17_Box_Best_an (code Try.f24) [1, 1, 1, 1, 0, 1, 0] [] (post3 Try.prog Try.f24 [0] R)))) (k_ref17_Box_Best_v1 a_8 n_8 c_8 bm1 bm2 x_10) js (k_ref17_Box_Best_m1 bm0 x_m0_0 a_m0_1 n_m0_1 c_m0_1 bm1 bm2 x_m2_0 x_m2_1 x_m2_2 x_m2_3) w = k_ref17_Box_Best_L1 a_8 n_8 c_8 bm0 x_m0_0 a_m0_1 n_m0_1 c_m0_1 bm1 bm2 x_10 x_m2_0 x_m2_1 x_m2_2 x_m2_3 K1 R w := by kernel_rfl
def k_ref17_Box_Best_K1 (a_8 : Option Addr) (n_8 : Nat) (c_8 : Nat) (bm0 : Nat) (x_m0_0 : Int) (a_m0_1 : Option Addr) (n_m0_1 : Nat) (c_m0_1 : Nat) (bm1 : Nat) (bm2 : Nat) (I : Nat → Int → Int → Int → Int → Int → World → Prop) (m : Nat) (vals : List Value) (mem : List TB) (w : World) : Prop := ∃ m', m' < m ∧ ∃ x_10 x_m2_0 x_m2_1 x_m2_2 x_m2_3, vals = (k_ref17_Box_Best_v1 a_8 n_8 c_8 bm1 bm2 x_10) ∧ mem = (k_ref17_Box_Best_m1 bm0 x_m0_0 a_m0_1 n_m0_1 c_m0_1 bm1 bm2 x_m2_0 x_m2_1 x_m2_2 x_m2_3) ∧ I m' x_10 x_m2_0 x_m2_1 x_m2_2 x_m2_3 w
theorem k_ref17_Box_Best_leaf1 {a_8 : Option Addr} {n_8 : Nat} {c_8 : Nat} {bm0 : Nat} {x_m0_0 : Int} {a_m0_1 : Option Addr} {n_m0_1 : Nat} {c_m0_1 : Nat} {bm1 : Nat} {bm2 : Nat} {I : Nat → Int → Int → Int → Int → Int → World → Prop} {m : Nat} {x_10 : Int} {x_m2_0 : Int} {x_m2_1 : Int} {x_m2_2 : Int} {x_m2_3 : Int} {w : World} (m' : Nat) (h1 : m' < m) (h2 : I m' x_10 x_m2_0 x_m2_1 x_m2_2 x_m2_3 w) : k_ref17_Box_Best_K1 a_8 n_8 c_8 bm0 x_m0_0 a_m0_1 n_m0_1 c_m0_1 bm1 bm2 I m (k_ref17_Box_Best_v1 a_8 n_8 c_8 bm1 bm2 x_10) (k_ref17_Box_Best_m1 bm0 x_m0_0 a_m0_1 n_m0_1 c_m0_1 bm1 bm2 x_m2_0 x_m2_1 x_m2_2 x_m2_3) w := ⟨m', h1, _, _, _, _, _, rfl, rfl, h2⟩
theorem k_ref17_Box_Best_rule1 {a_8 : Option Addr} {n_8 : Nat} {c_8 : Nat} {bm0 : Nat} {x_m0_0 : Int} {a_m0_1 : Option Addr} {n_m0_1 : Nat} {c_m0_1 : Nat} {bm1 : Nat} {bm2 : Nat} {x_100 : Int} {x_m2_00 : Int} {x_m2_10 : Int} {x_m2_20 : Int} {x_m2_30 : Int} {R : Value → World → Prop} {w0 : World} (I : Nat → Int → Int → Int → Int → Int → World → Prop) (m0 : Nat) (h0 : I m0 x_100 x_m2_00 x_m2_10 x_m2_20 x_m2_30 w0)
    (hr : ∀ (m : Nat) (x_10 : Int) (x_m2_0 : Int) (x_m2_1 : Int) (x_m2_2 : Int) (x_m2_3 : Int) (w : World), I m x_10 x_m2_0 x_m2_1 x_m2_2 x_m2_3 w → k_ref17_Box_Best_L1 a_8 n_8 c_8 bm0 x_m0_0 a_m0_1 n_m0_1 c_m0_1 bm1 bm2 x_10 x_m2_0 x_m2_1 x_m2_2 x_m2_3 (k_ref17_Box_Best_K1 a_8 n_8 c_8 bm0 x_m0_0 a_m0_1 n_m0_1 c_m0_1 bm1 bm2 I m) R w) :
    loopD3 k_ref17_Box_Best_la1 (dnF Try.prog k_ref17_Box_Best_an (code Try.f24) 394 [0, 0, 1, 0, 1, 1, 1, 1]) (kont3 Try.prog k_ref17_Box_Best_an (code Try.f24) [1, 1, 1, 1, 0, 1, 0] [] (post3 Try.prog Try.f24 [0] R)) (k_ref17_Box_Best_v1 a_8 n_8 c_8 bm1 bm2 x_100) (k_ref17_Box_Best_m1 bm0 x_m0_0 a_m0_1 n_m0_1 c_m0_1 bm1 bm2 x_m2_00 x_m2_10 x_m2_20 x_m2_30) w0 := by
  refine ⟨fun m vals mem w => ∃ x_10 x_m2_0 x_m2_1 x_m2_2 x_m2_3, vals = (k_ref17_Box_Best_v1 a_8 n_8 c_8 bm1 bm2 x_10) ∧ mem = (k_ref17_Box_Best_m1 bm0 x_m0_0 a_m0_1 n_m0_1 c_m0_1 bm1 bm2 x_m2_0 x_m2_1 x_m2_2 x_m2_3) ∧ I m x_10 x_m2_0 x_m2_1 x_m2_2 x_m2_3 w, m0, ⟨_, _, _, _, _, rfl, rfl, h0⟩, ?_⟩
  rintro m vals mem w ⟨x_10, x_m2_0, x_m2_1, x_m2_2, x_m2_3, rfl, rfl, hI⟩
  refine ⟨rfl, rfl, fun js => ?_⟩
  have h := hr m x_10 x_m2_0 x_m2_1 x_m2_2 x_m2_3 w hI
  rw [← k_ref17_Box_Best_L1_eq _ _ _ _ _ _ _ _ _ _ _ _ _ _ _ _ js] at h
  exact h
/-- (*stagecoach/stagecoachref17.Box).Best -/
def k_ref17_Box_Best_T (b0 : Nat) (o0 : Int) (o1_a : Option Addr) (o1_n : Nat) (o1_c : Nat) (a1_view : Int) (a2_kind : Int) (R : Value → World → Prop) (w : World) : Prop :=
  ∀ b1, w.heap.size ≤ b1 →
  ∀ w2, Adv [] [b1] w w2 → w2.heap[b0]? = some (.cells #[(.int .i64 o0), (.slice o1_a o1_n o1_c)] 61) →
  Calls Try.prog 26 #[(.pointer (some ⟨b0, 0, none⟩)), (.int .i64 a1_view), (.int .i64 a2_kind)] w2 fun e w3 => ∃ (a4 : Option Addr) (n5 c6 : Nat), e = .returned (.slice a4 n5 c6) ∧ Keep [b1] w2 w3 ∧ ∃ x7 : Int, ∃ (a8 : Option Addr) (n9 c10 : Nat), w3.heap[b0]? = some (.cells #[(.int .i64 x7), (.slice a8 n9 c10)] 61) ∧
  brB ((n5 : Int) == 0) (
    ∀ w11, Adv [b1] [] w3 w11 → w11.heap[b0]? = some (.cells #[(.int .i64 x7), (.slice a8 n9 c10)] 61) →
    R (.tuple #[(.agg #[(.int .i64 0), (.int .i64 0), (.int .i64 0), (.int .i64 0)]), (.bool false)]) w11)
  (
    ixA a4 n5 0 4 fun q12 =>
    ldInt .i64 w3 q12 fun x13 => ldInt .i64 w3 (Addr.add q12 1) fun x14 => ldInt .i64 w3 (Addr.add q12 2) fun x15 => ldInt .i64 w3 (Addr.add q12 3) fun x16 =>
    ∀ b17, w3.heap.size ≤ b17 →
    ∀ w41, Adv [] [b17] w3 w41 → w41.heap[b0]? = some (.cells #[(.int .i64 x7), (.slice a8 n9 c10)] 61) →
    loopD3 k_ref17_Box_Best_la1 (dnF Try.prog k_ref17_Box_Best_an (code Try.f24) 394 [0, 0, 1, 0, 1, 1, 1, 1]) (kont3 Try.prog k_ref17_Box_Best_an (code Try.f24) [1, 1, 1, 1, 0, 1, 0] [] (post3 Try.prog Try.f24 [0] R)) (k_ref17_Box_Best_v1 a4 n5 c6 b1 b17 1) (k_ref17_Box_Best_m1 b0 x7 a8 n9 c10 b1 b17 x13 x14 x15 x16) w41)
theorem k_ref17_Box_Best_eq (b0 : Nat) (o0 : Int) (o1_a : Option Addr) (o1_n : Nat) (o1_c : Nat) (a1_view : Int) (a2_kind : Int) (R : Value → World → Prop) (w : World) :
    dnF Try.prog k_ref17_Box_Best_an (code Try.f24) 400 [] (post3 Try.prog Try.f24 [0] R) ⟨(0, .pointer (some ⟨b0, 0, none⟩), some (0, 0)) :: args0 1 [(.int .i64 a1_view), (.int .i64 a2_kind)], fun _ => undef⟩ ⟨[⟨b0, 61, [(.int .i64 o0), (.slice o1_a o1_n o1_c)], false⟩], w, [], [], true⟩ = k_ref17_Box_Best_T b0 o0 o1_a o1_n o1_c a1_view a2_kind R w := by kernel_rfl
theorem k_ref17_Box_Best_go {b0 : Nat} {o0 : Int} {o1_a : Option Addr} {o1_n : Nat} {o1_c : Nat} {a1_view : Int} {a2_kind : Int} {R : Value → World → Prop} {w : World} (hb : w.heap[b0]? = some (.cells #[(.int .i64 o0), (.slice o1_a o1_n o1_c)] 61)) (h : k_ref17_Box_Best_T b0 o0 o1_a o1_n o1_c a1_view a2_kind R w) :
    Calls Try.prog 24 #[(.pointer (some ⟨b0, 0, none⟩)), (.int .i64 a1_view), (.int .i64 a2_kind)] w fun e w' => ∃ v, e = .returned v ∧ R v w' :=
  calls_one Try.wide_mixed (f := 24) (args := [(.int .i64 a1_view), (.int .i64 a2_kind)]) Try.func24 rfl rfl (by kernel_rfl) rfl hb (Eq.mpr (k_ref17_Box_Best_eq b0 o0 o1_a o1_n o1_c a1_view a2_kind R w) h)
def k_ref17_Box_Commit_la1 : LA := ⟨[0, 0, 1, 0, 1, 1], [7, 8, 9], [], 1, [0]⟩
def k_ref17_Box_Commit_an : List LA := [k_ref17_Box_Commit_la1]
def k_ref17_Box_Commit_v1 (a_7 : Option Addr) (n_7 : Nat) (c_7 : Nat) (x_8 : Int) (x_9 : Int) : List Value := [(.slice a_7 n_7 c_7), (.int .i64 x_8), (.int .i64 x_9)]
def k_ref17_Box_Commit_m1 (bm0 : Nat) (x_m0_0 : Int) (a_m0_1 : Option Addr) (n_m0_1 : Nat) (c_m0_1 : Nat) : List TB := [⟨bm0, 61, [(.int .i64 x_m0_0), (.slice a_m0_1 n_m0_1 c_m0_1)], true⟩]
def k_ref17_Box_Commit_L1 (a_7 : Option Addr) (n_7 : Nat) (c_7 : Nat) (bm0 : Nat) (x_m0_0 : Int) (a_m0_1 : Option Addr) (n_m0_1 : Nat) (c_m0_1 : Nat) (x_8 : Int) (x_9 : Int) (K1 : Kh) (R : Value → World → Prop) (w : World) : Prop :=
  w.heap[bm0]? = some (.cells #[(.int .i64 x_m0_0), (.slice a_m0_1 n_m0_1 c_m0_1)] 61) →
  brB (decide (x_9 < (n_7 : Int))) (
    ixA a_7 n_7 x_9 4 fun q10 =>
    ldInt .i64 w (Addr.add q10 3) fun x11 =>
    K1 (k_ref17_Box_Commit_v1 a_7 n_7 c_7 (if x11 > x_8 then x11 else x_8) (IntKind.wrap .i64 (x_9 + 1))) (k_ref17_Box_Commit_m1 bm0 x_m0_0 a_m0_1 n_m0_1 c_m0_1) w)
  (
    R (.int .i64 x_8) w)
theorem k_ref17_Box_Commit_L1_eq (a_7 : Option Addr) (n_7 : Nat) (c_7 : Nat) (bm0 : Nat) (x_m0_0 : Int) (a_m0_1 : Option Addr) (n_m0_1 : Nat) (c_m0_1 : Nat) (x_8 : Int) (x_9 : Int) (K1 : Kh) (js : Nat → Value) (R : Value → World → Prop) (w : World) :
    headA k_ref17_Box_Commit_la1 ((dnF Try.prog k_ref17_Box_Commit_an (code Try.f28) 396 [0, 0, 1, 0, 1, 1]) (kthen3 (atA k_ref17_Box_Commit_la1 K1) (kont3 Try.prog k_ref17_Box_Commit_an (code Try.f28) [1, 1, 0, 1, 0] [] (post3 Try.prog Try.f28 [0] R)))) (k_ref17_Box_Commit_v1 a_7 n_7 c_7 x_8 x_9) js (k_ref17_Box_Commit_m1 bm0 x_m0_0 a_m0_1 n_m0_1 c_m0_1) w = k_ref17_Box_Commit_L1 a_7 n_7 c_7 bm0 x_m0_0 a_m0_1 n_m0_1 c_m0_1 x_8 x_9 K1 R w := by kernel_rfl
def k_ref17_Box_Commit_K1 (a_7 : Option Addr) (n_7 : Nat) (c_7 : Nat) (bm0 : Nat) (x_m0_0 : Int) (a_m0_1 : Option Addr) (n_m0_1 : Nat) (c_m0_1 : Nat) (I : Nat → Int → Int → World → Prop) (m : Nat) (vals : List Value) (mem : List TB) (w : World) : Prop := ∃ m', m' < m ∧ ∃ x_8 x_9, vals = (k_ref17_Box_Commit_v1 a_7 n_7 c_7 x_8 x_9) ∧ mem = (k_ref17_Box_Commit_m1 bm0 x_m0_0 a_m0_1 n_m0_1 c_m0_1) ∧ I m' x_8 x_9 w
theorem k_ref17_Box_Commit_leaf1 {a_7 : Option Addr} {n_7 : Nat} {c_7 : Nat} {bm0 : Nat} {x_m0_0 : Int} {a_m0_1 : Option Addr} {n_m0_1 : Nat} {c_m0_1 : Nat} {I : Nat → Int → Int → World → Prop} {m : Nat} {x_8 : Int} {x_9 : Int} {w : World} (m' : Nat) (h1 : m' < m) (h2 : I m' x_8 x_9 w) : k_ref17_Box_Commit_K1 a_7 n_7 c_7 bm0 x_m0_0 a_m0_1 n_m0_1 c_m0_1 I m (k_ref17_Box_Commit_v1 a_7 n_7 c_7 x_8 x_9) (k_ref17_Box_Commit_m1 bm0 x_m0_0 a_m0_1 n_m0_1 c_m0_1) w := ⟨m', h1, _, _, rfl, rfl, h2⟩
theorem k_ref17_Box_Commit_rule1 {a_7 : Option Addr} {n_7 : Nat} {c_7 : Nat} {bm0 : Nat} {x_m0_0 : Int} {a_m0_1 : Option Addr} {n_m0_1 : Nat} {c_m0_1 : Nat} {x_80 : Int} {x_90 : Int} {R : Value → World → Prop} {w0 : World} (I : Nat → Int → Int → World → Prop) (m0 : Nat) (h0 : I m0 x_80 x_90 w0)
    (hr : ∀ (m : Nat) (x_8 : Int) (x_9 : Int) (w : World), I m x_8 x_9 w → k_ref17_Box_Commit_L1 a_7 n_7 c_7 bm0 x_m0_0 a_m0_1 n_m0_1 c_m0_1 x_8 x_9 (k_ref17_Box_Commit_K1 a_7 n_7 c_7 bm0 x_m0_0 a_m0_1 n_m0_1 c_m0_1 I m) R w) :
    loopD3 k_ref17_Box_Commit_la1 (dnF Try.prog k_ref17_Box_Commit_an (code Try.f28) 396 [0, 0, 1, 0, 1, 1]) (kont3 Try.prog k_ref17_Box_Commit_an (code Try.f28) [1, 1, 0, 1, 0] [] (post3 Try.prog Try.f28 [0] R)) (k_ref17_Box_Commit_v1 a_7 n_7 c_7 x_80 x_90) (k_ref17_Box_Commit_m1 bm0 x_m0_0 a_m0_1 n_m0_1 c_m0_1) w0 := by
  refine ⟨fun m vals mem w => ∃ x_8 x_9, vals = (k_ref17_Box_Commit_v1 a_7 n_7 c_7 x_8 x_9) ∧ mem = (k_ref17_Box_Commit_m1 bm0 x_m0_0 a_m0_1 n_m0_1 c_m0_1) ∧ I m x_8 x_9 w, m0, ⟨_, _, rfl, rfl, h0⟩, ?_⟩
  rintro m vals mem w ⟨x_8, x_9, rfl, rfl, hI⟩
  refine ⟨rfl, rfl, fun js => ?_⟩
  have h := hr m x_8 x_9 w hI
  rw [← k_ref17_Box_Commit_L1_eq _ _ _ _ _ _ _ _ _ _ _ js] at h
  exact h
/-- (*stagecoach/stagecoachref17.Box).Commit -/
def k_ref17_Box_Commit_T (b0 : Nat) (o0 : Int) (o1_a : Option Addr) (o1_n : Nat) (o1_c : Nat) (a1_view : Int) (a2_kind : Int) (R : Value → World → Prop) (w : World) : Prop :=
  ∀ w1, Adv [] [] w w1 → w1.heap[b0]? = some (.cells #[(.int .i64 o0), (.slice o1_a o1_n o1_c)] 61) →
  Calls Try.prog 26 #[(.pointer (some ⟨b0, 0, none⟩)), (.int .i64 a1_view), (.int .i64 a2_kind)] w1 fun e w2 => ∃ (a3 : Option Addr) (n4 c5 : Nat), e = .returned (.slice a3 n4 c5) ∧ ∃ x6 : Int, ∃ (a7 : Option Addr) (n8 c9 : Nat), w2.heap[b0]? = some (.cells #[(.int .i64 x6), (.slice a7 n8 c9)] 61) ∧
  loopD3 k_ref17_Box_Commit_la1 (dnF Try.prog k_ref17_Box_Commit_an (code Try.f28) 396 [0, 0, 1, 0, 1, 1]) (kont3 Try.prog k_ref17_Box_Commit_an (code Try.f28) [1, 1, 0, 1, 0] [] (post3 Try.prog Try.f28 [0] R)) (k_ref17_Box_Commit_v1 a3 n4 c5 0 0) (k_ref17_Box_Commit_m1 b0 x6 a7 n8 c9) w2
theorem k_ref17_Box_Commit_eq (b0 : Nat) (o0 : Int) (o1_a : Option Addr) (o1_n : Nat) (o1_c : Nat) (a1_view : Int) (a2_kind : Int) (R : Value → World → Prop) (w : World) :
    dnF Try.prog k_ref17_Box_Commit_an (code Try.f28) 400 [] (post3 Try.prog Try.f28 [0] R) ⟨(0, .pointer (some ⟨b0, 0, none⟩), some (0, 0)) :: args0 1 [(.int .i64 a1_view), (.int .i64 a2_kind)], fun _ => undef⟩ ⟨[⟨b0, 61, [(.int .i64 o0), (.slice o1_a o1_n o1_c)], false⟩], w, [], [], true⟩ = k_ref17_Box_Commit_T b0 o0 o1_a o1_n o1_c a1_view a2_kind R w := by kernel_rfl
theorem k_ref17_Box_Commit_go {b0 : Nat} {o0 : Int} {o1_a : Option Addr} {o1_n : Nat} {o1_c : Nat} {a1_view : Int} {a2_kind : Int} {R : Value → World → Prop} {w : World} (hb : w.heap[b0]? = some (.cells #[(.int .i64 o0), (.slice o1_a o1_n o1_c)] 61)) (h : k_ref17_Box_Commit_T b0 o0 o1_a o1_n o1_c a1_view a2_kind R w) :
    Calls Try.prog 28 #[(.pointer (some ⟨b0, 0, none⟩)), (.int .i64 a1_view), (.int .i64 a2_kind)] w fun e w' => ∃ v, e = .returned v ∧ R v w' :=
  calls_one Try.wide_mixed (f := 28) (args := [(.int .i64 a1_view), (.int .i64 a2_kind)]) Try.func28 rfl rfl (by kernel_rfl) rfl hb (Eq.mpr (k_ref17_Box_Commit_eq b0 o0 o1_a o1_n o1_c a1_view a2_kind R w) h)
def k_ref17_Box_Drop_la1 : LA := ⟨[0, 0, 1, 0, 1, 1], [0, 1, 5, 6], [(0, 0, 0)], 1, []⟩
def k_ref17_Box_Drop_an : List LA := [k_ref17_Box_Drop_la1]
def k_ref17_Box_Drop_v1 (x_1 : Int) (bm0 : Nat) (a_5 : Option Addr) (n_5 : Nat) (c_5 : Nat) (x_6 : Int) : List Value := [(.pointer (some ⟨bm0, 0, none⟩)), (.int .i64 x_1), (.slice a_5 n_5 c_5), (.int .i64 x_6)]
def k_ref17_Box_Drop_m1 (bm0 : Nat) (x_m0_0 : Int) (a_m0_1 : Option Addr) (n_m0_1 : Nat) (c_m0_1 : Nat) : List TB := [⟨bm0, 61, [(.int .i64 x_m0_0), (.slice a_m0_1 n_m0_1 c_m0_1)], false⟩]
def k_ref17_Box_Drop_L1 (x_1 : Int) (bm0 : Nat) (x_m0_0 : Int) (a_m0_1 : Option Addr) (n_m0_1 : Nat) (c_m0_1 : Nat) (a_5 : Option Addr) (n_5 : Nat) (c_5 : Nat) (x_6 : Int) (K1 : Kh) (R : Value → World → Prop) (w : World) : Prop :=
  brB (decide (x_6 < (n_m0_1 : Int))) (
    ixA a_m0_1 n_m0_1 x_6 6 fun q3 =>
    ldInt .i64 w q3 fun x4 =>
    brB (decide (x4 ≥ x_1)) (
      ixA a_m0_1 n_m0_1 x_6 6 fun q5 =>
      ldInt .i64 w q5 fun x6 => ldInt .i64 w (Addr.add q5 1) fun x7 => ldInt .i64 w (Addr.add q5 2) fun x8 => ldInt .i64 w (Addr.add q5 3) fun x9 => ldInt .i64 w (Addr.add q5 4) fun x10 => ldInt .i64 w (Addr.add q5 5) fun x11 =>
      al w (.cells #[(.int .i64 x6), (.int .i64 x7), (.int .i64 x8), (.int .i64 x9), (.int .i64 x10), (.int .i64 x11)] 63) fun b12 w13 =>
      effSl Try.prog (Builtin.append_ #[59, 59] 59 #[(.slice a_5 n_5 c_5), (.slice (some ⟨b12, 0, none⟩) 1 1)]) w13 fun a15 n16 c17 w14 => Keep [bm0] w13 w14 ∧
      K1 (k_ref17_Box_Drop_v1 x_1 bm0 a15 n16 c17 (IntKind.wrap .i64 (x_6 + 1))) (k_ref17_Box_Drop_m1 bm0 x_m0_0 a_m0_1 n_m0_1 c_m0_1) w14)
    (
      K1 (k_ref17_Box_Drop_v1 x_1 bm0 a_5 n_5 c_5 (IntKind.wrap .i64 (x_6 + 1))) (k_ref17_Box_Drop_m1 bm0 x_m0_0 a_m0_1 n_m0_1 c_m0_1) w))
  (
    ∀ w18, Adv [bm0] [] w w18 → w18.heap[bm0]? = some (.cells #[(.int .i64 x_m0_0), (.slice a_5 n_5 c_5)] 61) →
    R (.int .i64 (IntKind.wrap .i64 ((n_m0_1 : Int) - (n_5 : Int)))) w18)
theorem k_ref17_Box_Drop_L1_eq (x_1 : Int) (bm0 : Nat) (x_m0_0 : Int) (a_m0_1 : Option Addr) (n_m0_1 : Nat) (c_m0_1 : Nat) (a_5 : Option Addr) (n_5 : Nat) (c_5 : Nat) (x_6 : Int) (K1 : Kh) (js : Nat → Value) (R : Value → World → Prop) (w : World) :
    headA k_ref17_Box_Drop_la1 ((dnF Try.prog k_ref17_Box_Drop_an (code Try.f22) 396 [0, 0, 1, 0, 1, 1]) (kthen3 (atA k_ref17_Box_Drop_la1 K1) (kont3 Try.prog k_ref17_Box_Drop_an (code Try.f22) [1, 1, 0, 1, 0] [] (post3 Try.prog Try.f22 [0] R)))) (k_ref17_Box_Drop_v1 x_1 bm0 a_5 n_5 c_5 x_6) js (k_ref17_Box_Drop_m1 bm0 x_m0_0 a_m0_1 n_m0_1 c_m0_1) w = k_ref17_Box_Drop_L1 x_1 bm0 x_m0_0 a_m0_1 n_m0_1 c_m0_1 a_5 n_5 c_5 x_6 K1 R w := by kernel_rfl
def k_ref17_Box_Drop_K1 (x_1 : Int) (bm0 : Nat) (x_m0_0 : Int) (a_m0_1 : Option Addr) (n_m0_1 : Nat) (c_m0_1 : Nat) (I : Nat → Option Addr → Nat → Nat → Int → World → Prop) (m : Nat) (vals : List Value) (mem : List TB) (w : World) : Prop := ∃ m', m' < m ∧ ∃ a_5 n_5 c_5 x_6, vals = (k_ref17_Box_Drop_v1 x_1 bm0 a_5 n_5 c_5 x_6) ∧ mem = (k_ref17_Box_Drop_m1 bm0 x_m0_0 a_m0_1 n_m0_1 c_m0_1) ∧ I m' a_5 n_5 c_5 x_6 w
theorem k_ref17_Box_Drop_leaf1 {x_1 : Int} {bm0 : Nat} {x_m0_0 : Int} {a_m0_1 : Option Addr} {n_m0_1 : Nat} {c_m0_1 : Nat} {I : Nat → Option Addr → Nat → Nat → Int → World → Prop} {m : Nat} {a_5 : Option Addr} {n_5 : Nat} {c_5 : Nat} {x_6 : Int} {w : World} (m' : Nat) (h1 : m' < m) (h2 : I m' a_5 n_5 c_5 x_6 w) : k_ref17_Box_Drop_K1 x_1 bm0 x_m0_0 a_m0_1 n_m0_1 c_m0_1 I m (k_ref17_Box_Drop_v1 x_1 bm0 a_5 n_5 c_5 x_6) (k_ref17_Box_Drop_m1 bm0 x_m0_0 a_m0_1 n_m0_1 c_m0_1) w := ⟨m', h1, _, _, _, _, rfl, rfl, h2⟩
theorem k_ref17_Box_Drop_rule1 {x_1 : Int} {bm0 : Nat} {x_m0_0 : Int} {a_m0_1 : Option Addr} {n_m0_1 : Nat} {c_m0_1 : Nat} {a_50 : Option Addr} {n_50 : Nat} {c_50 : Nat} {x_60 : Int} {R : Value → World → Prop} {w0 : World} (I : Nat → Option Addr → Nat → Nat → Int → World → Prop) (m0 : Nat) (h0 : I m0 a_50 n_50 c_50 x_60 w0)
    (hr : ∀ (m : Nat) (a_5 : Option Addr) (n_5 : Nat) (c_5 : Nat) (x_6 : Int) (w : World), I m a_5 n_5 c_5 x_6 w → k_ref17_Box_Drop_L1 x_1 bm0 x_m0_0 a_m0_1 n_m0_1 c_m0_1 a_5 n_5 c_5 x_6 (k_ref17_Box_Drop_K1 x_1 bm0 x_m0_0 a_m0_1 n_m0_1 c_m0_1 I m) R w) :
    loopD3 k_ref17_Box_Drop_la1 (dnF Try.prog k_ref17_Box_Drop_an (code Try.f22) 396 [0, 0, 1, 0, 1, 1]) (kont3 Try.prog k_ref17_Box_Drop_an (code Try.f22) [1, 1, 0, 1, 0] [] (post3 Try.prog Try.f22 [0] R)) (k_ref17_Box_Drop_v1 x_1 bm0 a_50 n_50 c_50 x_60) (k_ref17_Box_Drop_m1 bm0 x_m0_0 a_m0_1 n_m0_1 c_m0_1) w0 := by
  refine ⟨fun m vals mem w => ∃ a_5 n_5 c_5 x_6, vals = (k_ref17_Box_Drop_v1 x_1 bm0 a_5 n_5 c_5 x_6) ∧ mem = (k_ref17_Box_Drop_m1 bm0 x_m0_0 a_m0_1 n_m0_1 c_m0_1) ∧ I m a_5 n_5 c_5 x_6 w, m0, ⟨_, _, _, _, rfl, rfl, h0⟩, ?_⟩
  rintro m vals mem w ⟨a_5, n_5, c_5, x_6, rfl, rfl, hI⟩
  refine ⟨rfl, rfl, fun js => ?_⟩
  have h := hr m a_5 n_5 c_5 x_6 w hI
  rw [← k_ref17_Box_Drop_L1_eq _ _ _ _ _ _ _ _ _ _ _ js] at h
  exact h
/-- (*stagecoach/stagecoachref17.Box).Drop -/
def k_ref17_Box_Drop_T (b0 : Nat) (o0 : Int) (o1_a : Option Addr) (o1_n : Nat) (o1_c : Nat) (a1_below : Int) (R : Value → World → Prop) (w : World) : Prop :=
  al w (.cells #[] 63) fun b1 w2 =>
  loopD3 k_ref17_Box_Drop_la1 (dnF Try.prog k_ref17_Box_Drop_an (code Try.f22) 396 [0, 0, 1, 0, 1, 1]) (kont3 Try.prog k_ref17_Box_Drop_an (code Try.f22) [1, 1, 0, 1, 0] [] (post3 Try.prog Try.f22 [0] R)) (k_ref17_Box_Drop_v1 a1_below b0 (some ⟨b1, 0, none⟩) 0 0 0) (k_ref17_Box_Drop_m1 b0 o0 o1_a o1_n o1_c) w2
theorem k_ref17_Box_Drop_eq (b0 : Nat) (o0 : Int) (o1_a : Option Addr) (o1_n : Nat) (o1_c : Nat) (a1_below : Int) (R : Value → World → Prop) (w : World) :
    dnF Try.prog k_ref17_Box_Drop_an (code Try.f22) 400 [] (post3 Try.prog Try.f22 [0] R) ⟨(0, .pointer (some ⟨b0, 0, none⟩), some (0, 0)) :: args0 1 [(.int .i64 a1_below)], fun _ => undef⟩ ⟨[⟨b0, 61, [(.int .i64 o0), (.slice o1_a o1_n o1_c)], false⟩], w, [], [], true⟩ = k_ref17_Box_Drop_T b0 o0 o1_a o1_n o1_c a1_below R w := by kernel_rfl
theorem k_ref17_Box_Drop_go {b0 : Nat} {o0 : Int} {o1_a : Option Addr} {o1_n : Nat} {o1_c : Nat} {a1_below : Int} {R : Value → World → Prop} {w : World} (hb : w.heap[b0]? = some (.cells #[(.int .i64 o0), (.slice o1_a o1_n o1_c)] 61)) (h : k_ref17_Box_Drop_T b0 o0 o1_a o1_n o1_c a1_below R w) :
    Calls Try.prog 22 #[(.pointer (some ⟨b0, 0, none⟩)), (.int .i64 a1_below)] w fun e w' => ∃ v, e = .returned v ∧ R v w' :=
  calls_one Try.wide_mixed (f := 22) (args := [(.int .i64 a1_below)]) Try.func22 rfl rfl (by kernel_rfl) rfl hb (Eq.mpr (k_ref17_Box_Drop_eq b0 o0 o1_a o1_n o1_c a1_below R w) h)
def k_ref17_Same_la1 : LA := ⟨[0, 0, 1, 0, 1, 1], [0, 1, 5], [], 0, []⟩
def k_ref17_Same_an : List LA := [k_ref17_Same_la1]
def k_ref17_Same_v1 (a_0 : Option Addr) (n_0 : Nat) (c_0 : Nat) (a_1 : Option Addr) (n_1 : Nat) (c_1 : Nat) (x_5 : Int) : List Value := [(.slice a_0 n_0 c_0), (.slice a_1 n_1 c_1), (.int .i64 x_5)]
def k_ref17_Same_m1 : List TB := []
def k_ref17_Same_L1 (a_0 : Option Addr) (n_0 : Nat) (c_0 : Nat) (a_1 : Option Addr) (n_1 : Nat) (c_1 : Nat) (x_5 : Int) (K1 : Kh) (R : Value → World → Prop) (w : World) : Prop :=
  brB (decide (x_5 < (n_0 : Int))) (
    ixA a_0 n_0 x_5 4 fun q1 =>
    ldInt .i64 w q1 fun x2 => ldInt .i64 w (Addr.add q1 1) fun x3 => ldInt .i64 w (Addr.add q1 2) fun x4 => ldInt .i64 w (Addr.add q1 3) fun x5 =>
    ixA a_1 n_1 x_5 4 fun q6 =>
    ldInt .i64 w q6 fun x7 => ldInt .i64 w (Addr.add q6 1) fun x8 => ldInt .i64 w (Addr.add q6 2) fun x9 => ldInt .i64 w (Addr.add q6 3) fun x10 =>
    ∃ t11 : Bool, (∀ w', Mod [] w w' → Sem.run Try.prog (do eqGuard .neq 29 (.tmp 20) (.tmp 24) (.agg #[(.int .i64 x2), (.int .i64 x3), (.int .i64 x4), (.int .i64 x5)]) (.agg #[(.int .i64 x7), (.int .i64 x8), (.int .i64 x9), (.int .i64 x10)]); Go.binOp .neq 29 (.agg #[(.int .i64 x2), (.int .i64 x3), (.int .i64 x4), (.int .i64 x5)]) (.agg #[(.int .i64 x7), (.int .i64 x8), (.int .i64 x9), (.int .i64 x10)])) w' = .ok (.bool t11) w') ∧
    brB t11 (
      ∀ w12, Adv [] [] w w12 →
      R (.bool false) w12)
    (
      ∀ w13, Adv [] [] w w13 →
      K1 (k_ref17_Same_v1 a_0 n_0 c_0 a_1 n_1 c_1 (IntKind.wrap .i64 (x_5 + 1))) (k_ref17_Same_m1) w13))
  (
    R (.bool true) w)
theorem k_ref17_Same_L1_eq (a_0 : Option Addr) (n_0 : Nat) (c_0 : Nat) (a_1 : Option Addr) (n_1 : Nat) (c_1 : Nat) (x_5 : Int) (K1 : Kh) (js : Nat → Value) (R : Value → World → Prop) (w : World) :
    headA k_ref17_Same_la1 ((dnF Try.prog k_ref17_Same_an (code Try.f25) 396 [0, 0, 1, 0, 1, 1]) (kthen3 (atA k_ref17_Same_la1 K1) (kont3 Try.prog k_ref17_Same_an (code Try.f25) [1, 1, 0, 1, 0] [] (post3 Try.prog Try.f25 [] R)))) (k_ref17_Same_v1 a_0 n_0 c_0 a_1 n_1 c_1 x_5) js (k_ref17_Same_m1) w = k_ref17_Same_L1 a_0 n_0 c_0 a_1 n_1 c_1 x_5 K1 R w := by kernel_rfl
def k_ref17_Same_K1 (a_0 : Option Addr) (n_0 : Nat) (c_0 : Nat) (a_1 : Option Addr) (n_1 : Nat) (c_1 : Nat) (I : Nat → Int → World → Prop) (m : Nat) (vals : List Value) (mem : List TB) (w : World) : Prop := ∃ m', m' < m ∧ ∃ x_5, vals = (k_ref17_Same_v1 a_0 n_0 c_0 a_1 n_1 c_1 x_5) ∧ mem = (k_ref17_Same_m1) ∧ I m' x_5 w
theorem k_ref17_Same_leaf1 {a_0 : Option Addr} {n_0 : Nat} {c_0 : Nat} {a_1 : Option Addr} {n_1 : Nat} {c_1 : Nat} {I : Nat → Int → World → Prop} {m : Nat} {x_5 : Int} {w : World} (m' : Nat) (h1 : m' < m) (h2 : I m' x_5 w) : k_ref17_Same_K1 a_0 n_0 c_0 a_1 n_1 c_1 I m (k_ref17_Same_v1 a_0 n_0 c_0 a_1 n_1 c_1 x_5) (k_ref17_Same_m1) w := ⟨m', h1, _, rfl, rfl, h2⟩
theorem k_ref17_Same_rule1 {a_0 : Option Addr} {n_0 : Nat} {c_0 : Nat} {a_1 : Option Addr} {n_1 : Nat} {c_1 : Nat} {x_50 : Int} {R : Value → World → Prop} {w0 : World} (I : Nat → Int → World → Prop) (m0 : Nat) (h0 : I m0 x_50 w0)
    (hr : ∀ (m : Nat) (x_5 : Int) (w : World), I m x_5 w → k_ref17_Same_L1 a_0 n_0 c_0 a_1 n_1 c_1 x_5 (k_ref17_Same_K1 a_0 n_0 c_0 a_1 n_1 c_1 I m) R w) :
    loopD3 k_ref17_Same_la1 (dnF Try.prog k_ref17_Same_an (code Try.f25) 396 [0, 0, 1, 0, 1, 1]) (kont3 Try.prog k_ref17_Same_an (code Try.f25) [1, 1, 0, 1, 0] [] (post3 Try.prog Try.f25 [] R)) (k_ref17_Same_v1 a_0 n_0 c_0 a_1 n_1 c_1 x_50) (k_ref17_Same_m1) w0 := by
  refine ⟨fun m vals mem w => ∃ x_5, vals = (k_ref17_Same_v1 a_0 n_0 c_0 a_1 n_1 c_1 x_5) ∧ mem = (k_ref17_Same_m1) ∧ I m x_5 w, m0, ⟨_, rfl, rfl, h0⟩, ?_⟩
  rintro m vals mem w ⟨x_5, rfl, rfl, hI⟩
  refine ⟨rfl, rfl, fun js => ?_⟩
  have h := hr m x_5 w hI
  rw [← k_ref17_Same_L1_eq _ _ _ _ _ _ _ _ js] at h
  exact h
/-- stagecoach/stagecoachref17.Same -/
def k_ref17_Same_T (a0_a_a : Option Addr) (a0_a_n : Nat) (a0_a_c : Nat) (a1_b_a : Option Addr) (a1_b_n : Nat) (a1_b_c : Nat) (R : Value → World → Prop) (w : World) : Prop :=
  brB ((a0_a_n : Int) != (a1_b_n : Int)) (
    R (.bool false) w)
  (
    loopD3 k_ref17_Same_la1 (dnF Try.prog k_ref17_Same_an (code Try.f25) 396 [0, 0, 1, 0, 1, 1]) (kont3 Try.prog k_ref17_Same_an (code Try.f25) [1, 1, 0, 1, 0] [] (post3 Try.prog Try.f25 [] R)) (k_ref17_Same_v1 a0_a_a a0_a_n a0_a_c a1_b_a a1_b_n a1_b_c 0) (k_ref17_Same_m1) w)
theorem k_ref17_Same_eq (a0_a_a : Option Addr) (a0_a_n : Nat) (a0_a_c : Nat) (a1_b_a : Option Addr) (a1_b_n : Nat) (a1_b_c : Nat) (R : Value → World → Prop) (w : World) :
    dnF Try.prog k_ref17_Same_an (code Try.f25) 400 [] (post3 Try.prog Try.f25 [] R) ⟨args0 0 [(.slice a0_a_a a0_a_n a0_a_c), (.slice a1_b_a a1_b_n a1_b_c)], fun _ => undef⟩ ⟨[], w, [], [], true⟩ = k_ref17_Same_T a0_a_a a0_a_n a0_a_c a1_b_a a1_b_n a1_b_c R w := by kernel_rfl
theorem k_ref17_Same_go {a0_a_a : Option Addr} {a0_a_n : Nat} {a0_a_c : Nat} {a1_b_a : Option Addr} {a1_b_n : Nat} {a1_b_c : Nat} {R : Value → World → Prop} {w : World} (h : k_ref17_Same_T a0_a_a a0_a_n a0_a_c a1_b_a a1_b_n a1_b_c R w) :
    Calls Try.prog 25 #[(.slice a0_a_a a0_a_n a0_a_c), (.slice a1_b_a a1_b_n a1_b_c)] w fun e w' => ∃ v, e = .returned v ∧ R v w' :=
  calls_none Try.wide_mixed (f := 25) (args := [(.slice a0_a_a a0_a_n a0_a_c), (.slice a1_b_a a1_b_n a1_b_c)]) Try.func25 rfl rfl (by kernel_rfl) rfl (Eq.mpr (k_ref17_Same_eq a0_a_a a0_a_n a0_a_c a1_b_a a1_b_n a1_b_c R w) h)
def k_quorum_Box_Copy_an : List LA := []
/-- (*stagecoach/quorum.Box).Copy -/
def k_quorum_Box_Copy_T (b0 : Nat) (o0 : Int) (o1 : Option Nat) (R : Value → World → Prop) (w : World) : Prop :=
  ∀ w1, Adv [] [] w w1 →
  Calls Try.prog 34 #[(.map o1)] w1 fun e w2 => ∃ m3 : Option Nat, e = .returned (.map m3) ∧ Keep [b0] w1 w2 ∧ (((.int .i64 o0) : Value) = (.int .i64 o0)) ∧
  ∀ b4, w2.heap.size ≤ b4 →
  ∀ w5, Adv [] [b4] w2 w5 → w5.heap[b0]? = some (.cells #[(.int .i64 o0), (.map o1)] 54) →
  w5.heap[b4]? = some (.cells #[(.int .i64 o0), (.map m3)] 54) →
  R (.pointer (some ⟨b4, 0, none⟩)) w5
theorem k_quorum_Box_Copy_eq (b0 : Nat) (o0 : Int) (o1 : Option Nat) (R : Value → World → Prop) (w : World) :
    dnF Try.prog k_quorum_Box_Copy_an (code Try.f23) 400 [] (post3 Try.prog Try.f23 [0] R) ⟨(0, .pointer (some ⟨b0, 0, none⟩), some (0, 0)) :: args0 1 [], fun _ => undef⟩ ⟨[⟨b0, 54, [(.int .i64 o0), (.map o1)], false⟩], w, [], [], true⟩ = k_quorum_Box_Copy_T b0 o0 o1 R w := by kernel_rfl
theorem k_quorum_Box_Copy_go {b0 : Nat} {o0 : Int} {o1 : Option Nat} {R : Value → World → Prop} {w : World} (hb : w.heap[b0]? = some (.cells #[(.int .i64 o0), (.map o1)] 54)) (h : k_quorum_Box_Copy_T b0 o0 o1 R w) :
    Calls Try.prog 23 #[(.pointer (some ⟨b0, 0, none⟩))] w fun e w' => ∃ v, e = .returned v ∧ R v w' :=
  calls_one Try.wide_mixed (f := 23) (args := []) Try.func23 rfl rfl (by kernel_rfl) rfl hb (Eq.mpr (k_quorum_Box_Copy_eq b0 o0 o1 R w) h)
def k_law17_QuorumDoes_la1 : LA := ⟨[0, 0, 1, 0, 1, 1, 1, 1, 1], [0, 1, 5, 7, 9], [], 0, []⟩
def k_law17_QuorumDoes_la2 : LA := ⟨[1, 1, 1, 0, 0, 1, 0, 0, 1, 0, 1, 1, 1, 1, 1], [0, 1, 5, 7, 9, 10, 11, 12], [(10, 0, 0)], 1, []⟩
def k_law17_QuorumDoes_la3 : LA := ⟨[0, 0, 1, 1, 1, 1, 1, 1, 1, 1, 0, 0, 1, 0, 0, 1, 0, 1, 1, 1, 1, 1], [0, 1, 5, 7, 9, 18, 19], [], 3, []⟩
def k_law17_QuorumDoes_an : List LA := [k_law17_QuorumDoes_la1, k_law17_QuorumDoes_la2, k_law17_QuorumDoes_la3]
def k_law17_QuorumDoes_v1 (x_0 : Int) (a_1 : Option Addr) (n_1 : Nat) (c_1 : Nat) (p_7 : Option Addr) (p_5 : Option Addr) (x_9 : Int) : List Value := [(.int .i64 x_0), (.slice a_1 n_1 c_1), (.pointer p_5), (.pointer p_7), (.int .i64 x_9)]
def k_law17_QuorumDoes_m1 : List TB := []
def k_law17_QuorumDoes_v2 (x_0 : Int) (a_1 : Option Addr) (n_1 : Nat) (c_1 : Nat) (p_5 : Option Addr) (p_7 : Option Addr) (x_9 : Int) (x_11 : Int) (x_12 : Int) (bm0 : Nat) : List Value := [(.int .i64 x_0), (.slice a_1 n_1 c_1), (.pointer p_5), (.pointer p_7), (.int .i64 x_9), (.pointer (some ⟨bm0, 0, none⟩)), (.int .i64 x_11), (.int .i64 x_12)]
def k_law17_QuorumDoes_m2 (bm0 : Nat) (x_m0_0 : Int) (x_m0_1 : Int) (x_m0_2 : Int) (x_m0_3 : Int) (x_m0_4 : Int) (x_m0_5 : Int) (x_m0_6 : Int) : List TB := [⟨bm0, 42, [(.int .i64 x_m0_0), (.int .i64 x_m0_1), (.int .i64 x_m0_2), (.int .i64 x_m0_3), (.int .i64 x_m0_4), (.int .i64 x_m0_5), (.int .i64 x_m0_6)], false⟩]
def k_law17_QuorumDoes_v3 (x_0 : Int) (a_1 : Option Addr) (n_1 : Nat) (c_1 : Nat) (p_5 : Option Addr) (p_7 : Option Addr) (x_9 : Int) (a_18 : Option Addr) (n_18 : Nat) (c_18 : Nat) (x_19 : Int) : List Value := [(.int .i64 x_0), (.slice a_1 n_1 c_1), (.pointer p_5), (.pointer p_7), (.int .i64 x_9), (.slice a_18 n_18 c_18), (.int .i64 x_19)]
def k_law17_QuorumDoes_m3 (bm0 : Nat) (x_m0_0 : Int) (x_m0_1 : Int) (x_m0_2 : Int) (x_m0_3 : Int) (x_m0_4 : Int) (x_m0_5 : Int) (x_m0_6 : Int) (bm1 : Nat) (x_m1_0 : Int) (x_m1_1 : Int) (x_m1_2 : Int) (x_m1_3 : Int) (bm2 : Nat) (x_m2_0 : Int) (x_m2_1 : Int) (x_m2_2 : Int) (x_m2_3 : Int) : List TB := [⟨bm0, 42, [(.int .i64 x_m0_0), (.int .i64 x_m0_1), (.int .i64 x_m0_2), (.int .i64 x_m0_3), (.int .i64 x_m0_4), (.int .i64 x_m0_5), (.int .i64 x_m0_6)], false⟩, ⟨bm1, 29, [(.int .i64 x_m1_0), (.int .i64 x_m1_1), (.int .i64 x_m1_2), (.int .i64 x_m1_3)], false⟩, ⟨bm2, 29, [(.int .i64 x_m2_0), (.int .i64 x_m2_1), (.int .i64 x_m2_2), (.int .i64 x_m2_3)], false⟩]
def k_law17_QuorumDoes_L1 (x_0 : Int) (a_1 : Option Addr) (n_1 : Nat) (c_1 : Nat) (p_7 : Option Addr) (p_5 : Option Addr) (x_9 : Int) (K1 : Kh) (R : Value → World → Prop) (w : World) : Prop :=
  brB (decide (x_9 < (n_1 : Int))) (
    brB (decide (x_9 < 80)) (
      ixA a_1 n_1 x_9 7 fun q15 =>
      ldInt .i64 w q15 fun x16 => ldInt .i64 w (Addr.add q15 1) fun x17 => ldInt .i64 w (Addr.add q15 2) fun x18 => ldInt .i64 w (Addr.add q15 3) fun x19 => ldInt .i64 w (Addr.add q15 4) fun x20 => ldInt .i64 w (Addr.add q15 5) fun x21 => ldInt .i64 w (Addr.add q15 6) fun x22 =>
      ∀ b23, w.heap.size ≤ b23 →
      brB (x16 == 0) (
        ∀ w24, Adv [] [b23] w w24 →
        Calls Try.prog 9 #[(.pointer p_5), (.int .i64 x17), (.int .i64 x18), (.agg #[(.int .i64 x19), (.int .i64 x20), (.int .i64 x21), (.int .i64 x22)])] w24 fun e w25 => ∃ x26 : Int, e = .returned (.int .i64 x26) ∧ Keep [b23] w24 w25 ∧
        Calls Try.prog 21 #[(.pointer p_7), (.int .i64 x17), (.int .i64 x18), (.agg #[(.int .i64 x19), (.int .i64 x20), (.int .i64 x21), (.int .i64 x22)])] w25 fun e w27 => ∃ x28 : Int, e = .returned (.int .i64 x28) ∧ Keep [b23] w25 w27 ∧
        cutD3 k_law17_QuorumDoes_la2 ((dnF Try.prog k_law17_QuorumDoes_an (code Try.f7) 389 [1, 1, 1, 0, 0, 1, 0, 0, 1, 0, 1, 1, 1, 1, 1]) (kont3 Try.prog k_law17_QuorumDoes_an (code Try.f7) [1, 1, 1, 1, 1, 0, 1, 0, 0, 1, 0, 0, 1, 1] [K1] (post3 Try.prog Try.f7 [] R))) (k_law17_QuorumDoes_v2 x_0 a_1 n_1 c_1 p_5 p_7 x_9 x26 x28 b23) (k_law17_QuorumDoes_m2 b23 x16 x17 x18 x19 x20 x21 x22) w27)
      (
        brB (x16 == 1) (
          ∀ w72, Adv [] [b23] w w72 →
          Calls Try.prog 17 #[(.pointer p_5), (.int .i64 x17)] w72 fun e w73 => ∃ x74 : Int, e = .returned (.int .i64 x74) ∧ Keep [b23] w72 w73 ∧
          Calls Try.prog 22 #[(.pointer p_7), (.int .i64 x17)] w73 fun e w75 => ∃ x76 : Int, e = .returned (.int .i64 x76) ∧ Keep [b23] w73 w75 ∧
          cutD3 k_law17_QuorumDoes_la2 ((dnF Try.prog k_law17_QuorumDoes_an (code Try.f7) 389 [1, 1, 1, 0, 0, 1, 0, 0, 1, 0, 1, 1, 1, 1, 1]) (kont3 Try.prog k_law17_QuorumDoes_an (code Try.f7) [1, 1, 1, 1, 1, 0, 1, 0, 0, 1, 0, 0, 1, 1] [K1] (post3 Try.prog Try.f7 [] R))) (k_law17_QuorumDoes_v2 x_0 a_1 n_1 c_1 p_5 p_7 x_9 x74 x76 b23) (k_law17_QuorumDoes_m2 b23 x16 x17 x18 x19 x20 x21 x22) w75)
        (
          brB (x16 == 2) (
            ∀ w77, Adv [] [b23] w w77 →
            Calls Try.prog 23 #[(.pointer p_5)] w77 fun e w78 => ∃ p79 : Option Addr, e = .returned (.pointer p79) ∧ Keep [b23] w77 w78 ∧
            Calls Try.prog 9 #[(.pointer p_5), (.int .i64 x17), (.int .i64 x18), (.agg #[(.int .i64 0), (.int .i64 0), (.int .i64 77), (.int .i64 0)])] w78 fun e w80 => ∃ x81 : Int, e = .returned (.int .i64 x81) ∧ Keep [b23] w78 w80 ∧
            Calls Try.prog 17 #[(.pointer p_5), (.int .i64 1099511627776)] w80 fun e w82 => ∃ x83 : Int, e = .returned (.int .i64 x83) ∧ Keep [b23] w80 w82 ∧
            brB (Option.isNone p79) (
              R (.bool false) w82)
            (
              cutD3 k_law17_QuorumDoes_la2 ((dnF Try.prog k_law17_QuorumDoes_an (code Try.f7) 389 [1, 1, 1, 0, 0, 1, 0, 0, 1, 0, 1, 1, 1, 1, 1]) (kont3 Try.prog k_law17_QuorumDoes_an (code Try.f7) [1, 1, 1, 1, 1, 0, 1, 0, 0, 1, 0, 0, 1, 1] [K1] (post3 Try.prog Try.f7 [] R))) (k_law17_QuorumDoes_v2 x_0 a_1 n_1 c_1 p79 p_7 x_9 0 0 b23) (k_law17_QuorumDoes_m2 b23 x16 x17 x18 x19 x20 x21 x22) w82))
          (
            ∀ w84, Adv [] [b23] w w84 →
            cutD3 k_law17_QuorumDoes_la2 ((dnF Try.prog k_law17_QuorumDoes_an (code Try.f7) 389 [1, 1, 1, 0, 0, 1, 0, 0, 1, 0, 1, 1, 1, 1, 1]) (kont3 Try.prog k_law17_QuorumDoes_an (code Try.f7) [1, 1, 1, 1, 1, 0, 1, 0, 0, 1, 0, 0, 1, 1] [K1] (post3 Try.prog Try.f7 [] R))) (k_law17_QuorumDoes_v2 x_0 a_1 n_1 c_1 p_5 p_7 x_9 0 0 b23) (k_law17_QuorumDoes_m2 b23 x16 x17 x18 x19 x20 x21 x22) w84))))
    (
      Calls Try.prog 13 #[] w fun e w85 => ∃ t86 : Bool, e = .returned (.bool t86) ∧
      R (.bool t86) w85))
  (
    Calls Try.prog 13 #[] w fun e w87 => ∃ t88 : Bool, e = .returned (.bool t88) ∧
    R (.bool t88) w87)
theorem k_law17_QuorumDoes_L1_eq (x_0 : Int) (a_1 : Option Addr) (n_1 : Nat) (c_1 : Nat) (p_7 : Option Addr) (p_5 : Option Addr) (x_9 : Int) (K1 : Kh) (js : Nat → Value) (R : Value → World → Prop) (w : World) :
    headA k_law17_QuorumDoes_la1 ((dnF Try.prog k_law17_QuorumDoes_an (code Try.f7) 393 [0, 0, 1, 0, 1, 1, 1, 1, 1]) (kthen3 (atA k_law17_QuorumDoes_la1 K1) (kont3 Try.prog k_law17_QuorumDoes_an (code Try.f7) [1, 1, 1, 1, 1, 0, 1, 0] [] (post3 Try.prog Try.f7 [] R)))) (k_law17_QuorumDoes_v1 x_0 a_1 n_1 c_1 p_7 p_5 x_9) js (k_law17_QuorumDoes_m1) w = k_law17_QuorumDoes_L1 x_0 a_1 n_1 c_1 p_7 p_5 x_9 K1 R w := by kernel_rfl
def k_law17_QuorumDoes_K1 (x_0 : Int) (a_1 : Option Addr) (n_1 : Nat) (c_1 : Nat) (p_7 : Option Addr) (I : Nat → Option Addr → Int → World → Prop) (m : Nat) (vals : List Value) (mem : List TB) (w : World) : Prop := ∃ m', m' < m ∧ ∃ p_5 x_9, vals = (k_law17_QuorumDoes_v1 x_0 a_1 n_1 c_1 p_7 p_5 x_9) ∧ mem = (k_law17_QuorumDoes_m1) ∧ I m' p_5 x_9 w
theorem k_law17_QuorumDoes_leaf1 {x_0 : Int} {a_1 : Option Addr} {n_1 : Nat} {c_1 : Nat} {p_7 : Option Addr} {I : Nat → Option Addr → Int → World → Prop} {m : Nat} {p_5 : Option Addr} {x_9 : Int} {w : World} (m' : Nat) (h1 : m' < m) (h2 : I m' p_5 x_9 w) : k_law17_QuorumDoes_K1 x_0 a_1 n_1 c_1 p_7 I m (k_law17_QuorumDoes_v1 x_0 a_1 n_1 c_1 p_7 p_5 x_9) (k_law17_QuorumDoes_m1) w := ⟨m', h1, _, _, rfl, rfl, h2⟩
theorem k_law17_QuorumDoes_rule1 {x_0 : Int} {a_1 : Option Addr} {n_1 : Nat} {c_1 : Nat} {p_7 : Option Addr} {p_50 : Option Addr} {x_90 : Int} {R : Value → World → Prop} {w0 : World} (I : Nat → Option Addr → Int → World → Prop) (m0 : Nat) (h0 : I m0 p_50 x_90 w0)
    (hr : ∀ (m : Nat) (p_5 : Option Addr) (x_9 : Int) (w : World), I m p_5 x_9 w → k_law17_QuorumDoes_L1 x_0 a_1 n_1 c_1 p_7 p_5 x_9 (k_law17_QuorumDoes_K1 x_0 a_1 n_1 c_1 p_7 I m) R w) :
    loopD3 k_law17_QuorumDoes_la1 (dnF Try.prog k_law17_QuorumDoes_an (code Try.f7) 393 [0, 0, 1, 0, 1, 1, 1, 1, 1]) (kont3 Try.prog k_law17_QuorumDoes_an (code Try.f7) [1, 1, 1, 1, 1, 0, 1, 0] [] (post3 Try.prog Try.f7 [] R)) (k_law17_QuorumDoes_v1 x_0 a_1 n_1 c_1 p_7 p_50 x_90) (k_law17_QuorumDoes_m1) w0 := by
  refine ⟨fun m vals mem w => ∃ p_5 x_9, vals = (k_law17_QuorumDoes_v1 x_0 a_1 n_1 c_1 p_7 p_5 x_9) ∧ mem = (k_law17_QuorumDoes_m1) ∧ I m p_5 x_9 w, m0, ⟨_, _, rfl, rfl, h0⟩, ?_⟩
  rintro m vals mem w ⟨p_5, x_9, rfl, rfl, hI⟩
  refine ⟨rfl, rfl, fun js => ?_⟩
  have h := hr m p_5 x_9 w hI
  rw [← k_law17_QuorumDoes_L1_eq _ _ _ _ _ _ _ _ js] at h
  exact h
def k_law17_QuorumDoes_C2 (x_0 : Int) (a_1 : Option Addr) (n_1 : Nat) (c_1 : Nat) (p_5 : Option Addr) (p_7 : Option Addr) (x_9 : Int) (x_11 : Int) (x_12 : Int) (bm0 : Nat) (x_m0_0 : Int) (x_m0_1 : Int) (x_m0_2 : Int) (x_m0_3 : Int) (x_m0_4 : Int) (x_m0_5 : Int) (x_m0_6 : Int) (K1 : Kh) (R : Value → World → Prop) (w : World) : Prop :=
  Calls Try.prog 14 #[(.pointer p_5), (.int .i64 x_m0_1), (.int .i64 x_m0_2)] w fun e w29 => ∃ x30 : Int, ∃ x31 : Int, ∃ x32 : Int, ∃ x33 : Int, ∃ t34 : Bool, e = .returned (.tuple #[(.agg #[(.int .i64 x30), (.int .i64 x31), (.int .i64 x32), (.int .i64 x33)]), (.bool t34)]) ∧ Keep [bm0] w w29 ∧
  ∀ b35, w29.heap.size ≤ b35 →
  ∀ w36, Adv [] [b35] w29 w36 →
  Calls Try.prog 24 #[(.pointer p_7), (.int .i64 x_m0_1), (.int .i64 x_m0_2)] w36 fun e w37 => ∃ x38 : Int, ∃ x39 : Int, ∃ x40 : Int, ∃ x41 : Int, ∃ t42 : Bool, e = .returned (.tuple #[(.agg #[(.int .i64 x38), (.int .i64 x39), (.int .i64 x40), (.int .i64 x41)]), (.bool t42)]) ∧ Keep [bm0, b35] w36 w37 ∧
  ∀ b43, w37.heap.size ≤ b43 →
  ∀ w44, Adv [] [b43] w37 w44 →
  Calls Try.prog 10 #[(.pointer p_5), (.int .i64 x_m0_1), (.int .i64 x_m0_2)] w44 fun e w45 => ∃ (a46 : Option Addr) (n47 c48 : Nat), e = .returned (.slice a46 n47 c48) ∧ Keep [bm0, b35, b43] w44 w45 ∧
  brB (x_11 != x_12) (
    ∀ w49, Adv [] [] w45 w49 →
    R (.bool false) w49)
  (
    ∀ w50, Adv [] [] w45 w50 →
    ∃ t51 : Bool, (∀ w', Mod [] w50 w' → Sem.run Try.prog (do eqGuard .neq 29 (.tmp 142) (.tmp 143) (.agg #[(.int .i64 x30), (.int .i64 x31), (.int .i64 x32), (.int .i64 x33)]) (.agg #[(.int .i64 x38), (.int .i64 x39), (.int .i64 x40), (.int .i64 x41)]); Go.binOp .neq 29 (.agg #[(.int .i64 x30), (.int .i64 x31), (.int .i64 x32), (.int .i64 x33)]) (.agg #[(.int .i64 x38), (.int .i64 x39), (.int .i64 x40), (.int .i64 x41)])) w' = .ok (.bool t51) w') ∧
    brB t51 (
      R (.bool false) w50)
    (
      brB (!(t34 == t42)) (
        R (.bool false) w50)
      (
        Calls Try.prog 26 #[(.pointer p_7), (.int .i64 x_m0_1), (.int .i64 x_m0_2)] w50 fun e w52 => ∃ (a53 : Option Addr) (n54 c55 : Nat), e = .returned (.slice a53 n54 c55) ∧ Keep [bm0, b35, b43] w50 w52 ∧
        Calls Try.prog 25 #[(.slice a46 n47 c48), (.slice a53 n54 c55)] w52 fun e w56 => ∃ t57 : Bool, e = .returned (.bool t57) ∧ Keep [bm0, b35, b43] w52 w56 ∧
        brB (!t57) (
          R (.bool false) w56)
        (
          Calls Try.prog 11 #[(.pointer p_5), (.int .i64 x_m0_1), (.int .i64 x_m0_2)] w56 fun e w58 => ∃ t59 : Bool, e = .returned (.bool t59) ∧ Keep [bm0, b35, b43] w56 w58 ∧ (((.int .i64 x_m0_2) : Value) = (.int .i64 x_m0_2)) ∧ (((.int .i64 x_m0_1) : Value) = (.int .i64 x_m0_1)) ∧
          Calls Try.prog 27 #[(.pointer p_7), (.int .i64 x_m0_1), (.int .i64 x_m0_2)] w58 fun e w60 => ∃ t61 : Bool, e = .returned (.bool t61) ∧ Keep [bm0, b35, b43] w58 w60 ∧
          brB (!(t59 == t61)) (
            R (.bool false) w60)
          (
            Calls Try.prog 16 #[(.pointer p_5), (.int .i64 x_m0_1), (.int .i64 x_m0_2)] w60 fun e w62 => ∃ x63 : Int, e = .returned (.int .i64 x63) ∧ Keep [bm0, b35, b43] w60 w62 ∧ (((.int .i64 x_m0_2) : Value) = (.int .i64 x_m0_2)) ∧ (((.int .i64 x_m0_1) : Value) = (.int .i64 x_m0_1)) ∧
            Calls Try.prog 28 #[(.pointer p_7), (.int .i64 x_m0_1), (.int .i64 x_m0_2)] w62 fun e w64 => ∃ x65 : Int, e = .returned (.int .i64 x65) ∧ Keep [bm0, b35, b43] w62 w64 ∧
            brB (x63 != x65) (
              R (.bool false) w64)
            (
              Calls Try.prog 15 #[(.int .i64 x_m0_1), (.int .i64 x_0)] w64 fun e w66 => ∃ x67 : Int, e = .returned (.int .i64 x67) ∧ Keep [bm0, b35, b43] w64 w66 ∧ (((.int .i64 x_m0_1) : Value) = (.int .i64 x_m0_1)) ∧
              Calls Try.prog 18 #[(.int .i64 x_m0_1), (.int .i64 x_0)] w66 fun e w68 => ∃ x69 : Int, e = .returned (.int .i64 x69) ∧ Keep [bm0, b35, b43] w66 w68 ∧
              brB (x67 != x69) (
                R (.bool false) w68)
              (
                loopD3 k_law17_QuorumDoes_la3 (dnF Try.prog k_law17_QuorumDoes_an (code Try.f7) 383 [0, 0, 1, 1, 1, 1, 1, 1, 1, 1, 0, 0, 1, 0, 0, 1, 0, 1, 1, 1, 1, 1]) (kont3 Try.prog k_law17_QuorumDoes_an (code Try.f7) [1, 1, 1, 1, 1, 0, 1, 0, 0, 1, 0, 0, 1, 1, 1, 1, 1, 1, 1, 1, 0] [K1] (post3 Try.prog Try.f7 [] R)) (k_law17_QuorumDoes_v3 x_0 a_1 n_1 c_1 p_5 p_7 x_9 a46 n47 c48 0) (k_law17_QuorumDoes_m3 bm0 x_m0_0 x_m0_1 x_m0_2 x_m0_3 x_m0_4 x_m0_5 x_m0_6 b35 x30 x31 x32 x33 b43 x38 x39 x40 x41) w68)))))))
theorem k_law17_QuorumDoes_C2_eq (x_0 : Int) (a_1 : Option Addr) (n_1 : Nat) (c_1 : Nat) (p_5 : Option Addr) (p_7 : Option Addr) (x_9 : Int) (x_11 : Int) (x_12 : Int) (bm0 : Nat) (x_m0_0 : Int) (x_m0_1 : Int) (x_m0_2 : Int) (x_m0_3 : Int) (x_m0_4 : Int) (x_m0_5 : Int) (x_m0_6 : Int) (K1 : Kh) (js : Nat → Value) (R : Value → World → Prop) (w : World) :
    headA k_law17_QuorumDoes_la2 ((dnF Try.prog k_law17_QuorumDoes_an (code Try.f7) 389 [1, 1, 1, 0, 0, 1, 0, 0, 1, 0, 1, 1, 1, 1, 1]) (kont3 Try.prog k_law17_QuorumDoes_an (code Try.f7) [1, 1, 1, 1, 1, 0, 1, 0, 0, 1, 0, 0, 1, 1] [K1] (post3 Try.prog Try.f7 [] R))) (k_law17_QuorumDoes_v2 x_0 a_1 n_1 c_1 p_5 p_7 x_9 x_11 x_12 bm0) js (k_law17_QuorumDoes_m2 bm0 x_m0_0 x_m0_1 x_m0_2 x_m0_3 x_m0_4 x_m0_5 x_m0_6) w = k_law17_QuorumDoes_C2 x_0 a_1 n_1 c_1 p_5 p_7 x_9 x_11 x_12 bm0 x_m0_0 x_m0_1 x_m0_2 x_m0_3 x_m0_4 x_m0_5 x_m0_6 K1 R w := by kernel_rfl
theorem k_law17_QuorumDoes_cut2 {x_00 : Int} {a_10 : Option Addr} {n_10 : Nat} {c_10 : Nat} {p_50 : Option Addr} {p_70 : Option Addr} {x_90 : Int} {x_110 : Int} {x_120 : Int} {bm00 : Nat} {x_m0_00 : Int} {x_m0_10 : Int} {x_m0_20 : Int} {x_m0_30 : Int} {x_m0_40 : Int} {x_m0_50 : Int} {x_m0_60 : Int} {K1 : Kh} {R : Value → World → Prop} {w0 : World} (J : Int → Option Addr → Nat → Nat → Option Addr → Option Addr → Int → Int → Int → Nat → Int → Int → Int → Int → Int → Int → Int → World → Prop) (h0 : J x_00 a_10 n_10 c_10 p_50 p_70 x_90 x_110 x_120 bm00 x_m0_00 x_m0_10 x_m0_20 x_m0_30 x_m0_40 x_m0_50 x_m0_60 w0)
    (hr : ∀ (x_0 : Int) (a_1 : Option Addr) (n_1 : Nat) (c_1 : Nat) (p_5 : Option Addr) (p_7 : Option Addr) (x_9 : Int) (x_11 : Int) (x_12 : Int) (bm0 : Nat) (x_m0_0 : Int) (x_m0_1 : Int) (x_m0_2 : Int) (x_m0_3 : Int) (x_m0_4 : Int) (x_m0_5 : Int) (x_m0_6 : Int) (w : World), J x_0 a_1 n_1 c_1 p_5 p_7 x_9 x_11 x_12 bm0 x_m0_0 x_m0_1 x_m0_2 x_m0_3 x_m0_4 x_m0_5 x_m0_6 w → k_law17_QuorumDoes_C2 x_0 a_1 n_1 c_1 p_5 p_7 x_9 x_11 x_12 bm0 x_m0_0 x_m0_1 x_m0_2 x_m0_3 x_m0_4 x_m0_5 x_m0_6 K1 R w) :
    cutD3 k_law17_QuorumDoes_la2 ((dnF Try.prog k_law17_QuorumDoes_an (code Try.f7) 389 [1, 1, 1, 0, 0, 1, 0, 0, 1, 0, 1, 1, 1, 1, 1]) (kont3 Try.prog k_law17_QuorumDoes_an (code Try.f7) [1, 1, 1, 1, 1, 0, 1, 0, 0, 1, 0, 0, 1, 1] [K1] (post3 Try.prog Try.f7 [] R))) (k_law17_QuorumDoes_v2 x_00 a_10 n_10 c_10 p_50 p_70 x_90 x_110 x_120 bm00) (k_law17_QuorumDoes_m2 bm00 x_m0_00 x_m0_10 x_m0_20 x_m0_30 x_m0_40 x_m0_50 x_m0_60) w0 := by
  refine ⟨fun vals mem w => ∃ x_0 a_1 n_1 c_1 p_5 p_7 x_9 x_11 x_12 bm0 x_m0_0 x_m0_1 x_m0_2 x_m0_3 x_m0_4 x_m0_5 x_m0_6, vals = (k_law17_QuorumDoes_v2 x_0 a_1 n_1 c_1 p_5 p_7 x_9 x_11 x_12 bm0) ∧ mem = (k_law17_QuorumDoes_m2 bm0 x_m0_0 x_m0_1 x_m0_2 x_m0_3 x_m0_4 x_m0_5 x_m0_6) ∧ J x_0 a_1 n_1 c_1 p_5 p_7 x_9 x_11 x_12 bm0 x_m0_0 x_m0_1 x_m0_2 x_m0_3 x_m0_4 x_m0_5 x_m0_6 w, ⟨_, _, _, _, _, _, _, _, _, _, _, _, _, _, _, _, _, rfl, rfl, h0⟩, ?_⟩
  rintro vals mem w ⟨x_0, a_1, n_1, c_1, p_5, p_7, x_9, x_11, x_12, bm0, x_m0_0, x_m0_1, x_m0_2, x_m0_3, x_m0_4, x_m0_5, x_m0_6, rfl, rfl, hJ⟩
  refine ⟨rfl, rfl, fun js => ?_⟩
  have h := hr x_0 a_1 n_1 c_1 p_5 p_7 x_9 x_11 x_12 bm0 x_m0_0 x_m0_1 x_m0_2 x_m0_3 x_m0_4 x_m0_5 x_m0_6 w hJ
  rw [← k_law17_QuorumDoes_C2_eq _ _ _ _ _ _ _ _ _ _ _ _ _ _ _ _ _ _ js] at h
  exact h
def k_law17_QuorumDoes_L3 (x_0 : Int) (a_1 : Option Addr) (n_1 : Nat) (c_1 : Nat) (p_5 : Option Addr) (p_7 : Option Addr) (x_9 : Int) (a_18 : Option Addr) (n_18 : Nat) (c_18 : Nat) (bm0 : Nat) (x_m0_0 : Int) (x_m0_1 : Int) (x_m0_2 : Int) (x_m0_3 : Int) (x_m0_4 : Int) (x_m0_5 : Int) (x_m0_6 : Int) (bm1 : Nat) (x_m1_0 : Int) (x_m1_1 : Int) (x_m1_2 : Int) (x_m1_3 : Int) (bm2 : Nat) (x_m2_0 : Int) (x_m2_1 : Int) (x_m2_2 : Int) (x_m2_3 : Int) (x_19 : Int) (K1 : Kh) (K3 : Kh) (R : Value → World → Prop) (w : World) : Prop :=
  brB (decide (x_19 < (n_18 : Int))) (
    ixA a_18 n_18 x_19 4 fun q70 =>
    st w (Addr.add q70 2) [(.int .i64 99)] fun w71 => Keep [bm0, bm1, bm2] w w71 ∧
    K3 (k_law17_QuorumDoes_v3 x_0 a_1 n_1 c_1 p_5 p_7 x_9 a_18 n_18 c_18 (IntKind.wrap .i64 (x_19 + 1))) (k_law17_QuorumDoes_m3 bm0 x_m0_0 x_m0_1 x_m0_2 x_m0_3 x_m0_4 x_m0_5 x_m0_6 bm1 x_m1_0 x_m1_1 x_m1_2 x_m1_3 bm2 x_m2_0 x_m2_1 x_m2_2 x_m2_3) w71)
  (
    K1 (k_law17_QuorumDoes_v1 x_0 a_1 n_1 c_1 p_7 p_5 (IntKind.wrap .i64 (x_9 + 1))) (k_law17_QuorumDoes_m1) w)
theorem k_law17_QuorumDoes_L3_eq (x_0 : Int) (a_1 : Option Addr) (n_1 : Nat) (c_1 : Nat) (p_5 : Option Addr) (p_7 : Option Addr) (x_9 : Int) (a_18 : Option Addr) (n_18 : Nat) (c_18 : Nat) (bm0 : Nat) (x_m0_0 : Int) (x_m0_1 : Int) (x_m0_2 : Int) (x_m0_3 : Int) (x_m0_4 : Int) (x_m0_5 : Int) (x_m0_6 : Int) (bm1 : Nat) (x_m1_0 : Int) (x_m1_1 : Int) (x_m1_2 : Int) (x_m1_3 : Int) (bm2 : Nat) (x_m2_0 : Int) (x_m2_1 : Int) (x_m2_2 : Int) (x_m2_3 : Int) (x_19 : Int) (K1 : Kh) (K3 : Kh) (js : Nat → Value) (R : Value → World → Prop) (w : World) :
    headA k_law17_QuorumDoes_la3 ((dnF Try.prog k_law17_QuorumDoes_an (code Try.f7) 383 [0, 0, 1, 1, 1, 1, 1, 1, 1, 1, 0, 0, 1, 0, 0, 1, 0, 1, 1, 1, 1, 1]) (kthen3 (atA k_law17_QuorumDoes_la3 K3) (kont3 Try.prog k_law17_QuorumDoes_an (code Try.f7) [1, 1, 1, 1, 1, 0, 1, 0, 0, 1, 0, 0, 1, 1, 1, 1, 1, 1, 1, 1, 0] [K1] (post3 Try.prog Try.f7 [] R)))) (k_law17_QuorumDoes_v3 x_0 a_1 n_1 c_1 p_5 p_7 x_9 a_18 n_18 c_18 x_19) js (k_law17_QuorumDoes_m3 bm0 x_m0_0 x_m0_1 x_m0_2 x_m0_3 x_m0_4 x_m0_5 x_m0_6 bm1 x_m1_0 x_m1_1 x_m1_2 x_m1_3 bm2 x_m2_0 x_m2_1 x_m2_2 x_m2_3) w = k_law17_QuorumDoes_L3 x_0 a_1 n_1 c_1 p_5 p_7 x_9 a_18 n_18 c_18 bm0 x_m0_0 x_m0_1 x_m0_2 x_m0_3 x_m0_4 x_m0_5 x_m0_6 bm1 x_m1_0 x_m1_1 x_m1_2 x_m1_3 bm2 x_m2_0 x_m2_1 x_m2_2 x_m2_3 x_19 K1 K3 R w := by kernel_rfl
def k_law17_QuorumDoes_K3 (x_0 : Int) (a_1 : Option Addr) (n_1 : Nat) (c_1 : Nat) (p_5 : Option Addr) (p_7 : Option Addr) (x_9 : Int) (a_18 : Option Addr) (n_18 : Nat) (c_18 : Nat) (bm0 : Nat) (x_m0_0 : Int) (x_m0_1 : Int) (x_m0_2 : Int) (x_m0_3 : Int) (x_m0_4 : Int) (x_m0_5 : Int) (x_m0_6 : Int) (bm1 : Nat) (x_m1_0 : Int) (x_m1_1 : Int) (x_m1_2 : Int) (x_m1_3 : Int) (bm2 : Nat) (x_m2_0 : Int) (x_m2_1 : Int) (x_m2_2 : Int) (x_m2_3 : Int) (I : Nat → Int → World → Prop) (m : Nat) (vals : List Value) (mem : List TB) (w : World) : Prop := ∃ m', m' < m ∧ ∃ x_19, vals = (k_law17_QuorumDoes_v3 x_0 a_1 n_1 c_1 p_5 p_7 x_9 a_18 n_18 c_18 x_19) ∧ mem = (k_law17_QuorumDoes_m3 bm0 x_m0_0 x_m0_1 x_m0_2 x_m0_3 x_m0_4 x_m0_5 x_m0_6 bm1 x_m1_0 x_m1_1 x_m1_2 x_m1_3 bm2 x_m2_0 x_m2_1 x_m2_2 x_m2_3) ∧ I m' x_19 w
theorem k_law17_QuorumDoes_leaf3 {x_0 : Int} {a_1 : Option Addr} {n_1 : Nat} {c_1 : Nat} {p_5 : Option Addr} {p_7 : Option Addr} {x_9 : Int} {a_18 : Option Addr} {n_18 : Nat} {c_18 : Nat} {bm0 : Nat} {x_m0_0 : Int} {x_m0_1 : Int} {x_m0_2 : Int} {x_m0_3 : Int} {x_m0_4 : Int} {x_m0_5 : Int} {x_m0_6 : Int} {bm1 : Nat} {x_m1_0 : Int} {x_m1_1 : Int} {x_m1_2 : Int} {x_m1_3 : Int} {bm2 : Nat} {x_m2_0 : Int} {x_m2_1 : Int} {x_m2_2 : Int} {x_m2_3 : Int} {I : Nat → Int → World → Prop} {m : Nat} {x_19 : Int} {w : World} (m' : Nat) (h1 : m' < m) (h2 : I m' x_19 w) : k_law17_QuorumDoes_K3 x_0 a_1 n_1 c_1 p_5 p_7 x_9 a_18 n_18 c_18 bm0 x_m0_0 x_m0_1 x_m0_2 x_m0_3 x_m0_4 x_m0_5 x_m0_6 bm1 x_m1_0 x_m1_1 x_m1_2 x_m1_3 bm2 x_m2_0 x_m2_1 x_m2_2 x_m2_3 I m (k_law17_QuorumDoes_v3 x_0 a_1 n_1 c_1 p_5 p_7 x_9 a_18 n_18 c_18 x_19) (k_law17_QuorumDoes_m3 bm0 x_m0_0 x_m0_1 x_m0_2 x_m0_3 x_m0_4 x_m0_5 x_m0_6 bm1 x_m1_0 x_m1_1 x_m1_2 x_m1_3 bm2 x_m2_0 x_m2_1 x_m2_2 x_m2_3) w := ⟨m', h1, _, rfl, rfl, h2⟩
theorem k_law17_QuorumDoes_rule3 {x_0 : Int} {a_1 : Option Addr} {n_1 : Nat} {c_1 : Nat} {p_5 : Option Addr} {p_7 : Option Addr} {x_9 : Int} {a_18 : Option Addr} {n_18 : Nat} {c_18 : Nat} {bm0 : Nat} {x_m0_0 : Int} {x_m0_1 : Int} {x_m0_2 : Int} {x_m0_3 : Int} {x_m0_4 : Int} {x_m0_5 : Int} {x_m0_6 : Int} {bm1 : Nat} {x_m1_0 : Int} {x_m1_1 : Int} {x_m1_2 : Int} {x_m1_3 : Int} {bm2 : Nat} {x_m2_0 : Int} {x_m2_1 : Int} {x_m2_2 : Int} {x_m2_3 : Int} {x_190 : Int} {R : Value → World → Prop} {w0 : World} {K1 : Kh} (I : Nat → Int → World → Prop) (m0 : Nat) (h0 : I m0 x_190 w0)
    (hr : ∀ (m : Nat) (x_19 : Int) (w : World), I m x_19 w → k_law17_QuorumDoes_L3 x_0 a_1 n_1 c_1 p_5 p_7 x_9 a_18 n_18 c_18 bm0 x_m0_0 x_m0_1 x_m0_2 x_m0_3 x_m0_4 x_m0_5 x_m0_6 bm1 x_m1_0 x_m1_1 x_m1_2 x_m1_3 bm2 x_m2_0 x_m2_1 x_m2_2 x_m2_3 x_19 K1 (k_law17_QuorumDoes_K3 x_0 a_1 n_1 c_1 p_5 p_7 x_9 a_18 n_18 c_18 bm0 x_m0_0 x_m0_1 x_m0_2 x_m0_3 x_m0_4 x_m0_5 x_m0_6 bm1 x_m1_0 x_m1_1 x_m1_2 x_m1_3 bm2 x_m2_0 x_m2_1 x_m2_2 x_m2_3 I m) R w) :
    loopD3 k_law17_QuorumDoes_la3 (dnF Try.prog k_law17_QuorumDoes_an (code Try.f7) 383 [0, 0, 1, 1, 1, 1, 1, 1, 1, 1, 0, 0, 1, 0, 0, 1, 0, 1, 1, 1, 1, 1]) (kont3 Try.prog k_law17_QuorumDoes_an (code Try.f7) [1, 1, 1, 1, 1, 0, 1, 0, 0, 1, 0, 0, 1, 1, 1, 1, 1, 1, 1, 1, 0] [K1] (post3 Try.prog Try.f7 [] R)) (k_law17_QuorumDoes_v3 x_0 a_1 n_1 c_1 p_5 p_7 x_9 a_18 n_18 c_18 x_190) (k_law17_QuorumDoes_m3 bm0 x_m0_0 x_m0_1 x_m0_2 x_m0_3 x_m0_4 x_m0_5 x_m0_6 bm1 x_m1_0 x_m1_1 x_m1_2 x_m1_3 bm2 x_m2_0 x_m2_1 x_m2_2 x_m2_3) w0 := by
  refine ⟨fun m vals mem w => ∃ x_19, vals = (k_law17_QuorumDoes_v3 x_0 a_1 n_1 c_1 p_5 p_7 x_9 a_18 n_18 c_18 x_19) ∧ mem = (k_law17_QuorumDoes_m3 bm0 x_m0_0 x_m0_1 x_m0_2 x_m0_3 x_m0_4 x_m0_5 x_m0_6 bm1 x_m1_0 x_m1_1 x_m1_2 x_m1_3 bm2 x_m2_0 x_m2_1 x_m2_2 x_m2_3) ∧ I m x_19 w, m0, ⟨_, rfl, rfl, h0⟩, ?_⟩
  rintro m vals mem w ⟨x_19, rfl, rfl, hI⟩
  refine ⟨rfl, rfl, fun js => ?_⟩
  have h := hr m x_19 w hI
  rw [← k_law17_QuorumDoes_L3_eq _ _ _ _ _ _ _ _ _ _ _ _ _ _ _ _ _ _ _ _ _ _ _ _ _ _ _ _ _ _ _ js] at h
  exact h
/-- stagecoach/stagecoachlaw17.QuorumDoes -/
def k_law17_QuorumDoes_T (a0_replicas : Int) (a1_script_a : Option Addr) (a1_script_n : Nat) (a1_script_c : Nat) (R : Value → World → Prop) (w : World) : Prop :=
  Calls Try.prog 8 #[(.int .i64 a0_replicas)] w fun e w1 => ∃ p2 : Option Addr, ∃ x3 : Int, e = .returned (.tuple #[(.pointer p2), (.int .i64 x3)]) ∧
  Calls Try.prog 19 #[(.int .i64 a0_replicas)] w1 fun e w4 => ∃ p5 : Option Addr, ∃ x6 : Int, e = .returned (.tuple #[(.pointer p5), (.int .i64 x6)]) ∧
  brB (x3 != x6) (
    R (.bool false) w4)
  (
    brB (!((Option.isNone p2) == (Option.isNone p5))) (
      R (.bool false) w4)
    (
      Calls Try.prog 12 #[(.int .i64 a0_replicas)] w4 fun e w7 => ∃ x8 : Int, e = .returned (.int .i64 x8) ∧
      Calls Try.prog 20 #[(.int .i64 a0_replicas)] w7 fun e w9 => ∃ x10 : Int, e = .returned (.int .i64 x10) ∧
      brB (x8 != x10) (
        R (.bool false) w9)
      (
        brB (Option.isNone p2) (
          Calls Try.prog 13 #[] w9 fun e w11 => ∃ t12 : Bool, e = .returned (.bool t12) ∧
          R (.bool t12) w11)
        (
          brB (Option.isNone p5) (
            Calls Try.prog 13 #[] w9 fun e w13 => ∃ t14 : Bool, e = .returned (.bool t14) ∧
            R (.bool t14) w13)
          (
            loopD3 k_law17_QuorumDoes_la1 (dnF Try.prog k_law17_QuorumDoes_an (code Try.f7) 393 [0, 0, 1, 0, 1, 1, 1, 1, 1]) (kont3 Try.prog k_law17_QuorumDoes_an (code Try.f7) [1, 1, 1, 1, 1, 0, 1, 0] [] (post3 Try.prog Try.f7 [] R)) (k_law17_QuorumDoes_v1 a0_replicas a1_script_a a1_script_n a1_script_c p5 p2 0) (k_law17_QuorumDoes_m1) w9)))))
theorem k_law17_QuorumDoes_eq (a0_replicas : Int) (a1_script_a : Option Addr) (a1_script_n : Nat) (a1_script_c : Nat) (R : Value → World → Prop) (w : World) :
    dnF Try.prog k_law17_QuorumDoes_an (code Try.f7) 400 [] (post3 Try.prog Try.f7 [] R) ⟨args0 0 [(.int .i64 a0_replicas), (.slice a1_script_a a1_script_n a1_script_c)], fun _ => undef⟩ ⟨[], w, [], [], true⟩ = k_law17_QuorumDoes_T a0_replicas a1_script_a a1_script_n a1_script_c R w := by kernel_rfl
theorem k_law17_QuorumDoes_go {a0_replicas : Int} {a1_script_a : Option Addr} {a1_script_n : Nat} {a1_script_c : Nat} {R : Value → World → Prop} {w : World} (h : k_law17_QuorumDoes_T a0_replicas a1_script_a a1_script_n a1_script_c R w) :
    Calls Try.prog 7 #[(.int .i64 a0_replicas), (.slice a1_script_a a1_script_n a1_script_c)] w fun e w' => ∃ v, e = .returned v ∧ R v w' :=
  calls_none Try.wide_mixed (f := 7) (args := [(.int .i64 a0_replicas), (.slice a1_script_a a1_script_n a1_script_c)]) Try.func7 rfl rfl (by kernel_rfl) rfl (Eq.mpr (k_law17_QuorumDoes_eq a0_replicas a1_script_a a1_script_n a1_script_c R w) h)

end Go.Proofs.Ytkdpopkbongabaa
