/- The conditions of Go functions' bodies, printed by gen2.py. -/
import Derived.Test.YtdgiemnadpkcfaaTrkS
namespace Go.Proofs.Ytdgiemnadpkcfaa
open Go Go.RowKit
set_option linter.unusedVariables false
set_option maxRecDepth 100000

def law04_CutReply_la1 : LA := ⟨[0, 0, 1, 0, 1, 1, 1, 1], [1, 2, 3, 4], [(1, 0, 0), (2, 1, 0), (3, 2, 0)], 3, []⟩
def law04_CutReply_la2 : LA := ⟨[0, 0, 1, 0, 1, 1, 1, 1, 1], [1, 2, 3, 6], [(1, 0, 0), (2, 1, 0), (3, 2, 0)], 3, []⟩
def law04_CutReply_an : List LA := [law04_CutReply_la1, law04_CutReply_la2]
def law04_CutReply_v1 (bm0 : Nat) (bm1 : Nat) (bm2 : Nat) (x_4 : Int) : List Value := [(.pointer (some ⟨bm0, 0, none⟩)), (.pointer (some ⟨bm1, 0, none⟩)), (.pointer (some ⟨bm2, 0, none⟩)), (.int .i64 x_4)]
def law04_CutReply_m1 (bm0 : Nat) (x_m0_0 : Int) (x_m0_1 : Int) (x_m0_2 : Int) (x_m0_3 : Int) (a_m0_4 : Option Addr) (n_m0_4 : Nat) (c_m0_4 : Nat) (a_m0_5 : Option Addr) (n_m0_5 : Nat) (c_m0_5 : Nat) (bm1 : Nat) (bm2 : Nat) (x_m2_0 : Int) (x_m2_1 : Int) (x_m2_2 : Int) (x_m2_3 : Int) (a_m2_4 : Option Addr) (n_m2_4 : Nat) (c_m2_4 : Nat) : List TB := [⟨bm0, 27, [(.int .i64 x_m0_0), (.int .i64 x_m0_1), (.int .i64 x_m0_2), (.int .i64 x_m0_3), (.slice a_m0_4 n_m0_4 c_m0_4), (.slice a_m0_5 n_m0_5 c_m0_5)], false⟩, ⟨bm1, 27, [(.int .i64 0), (.int .i64 0), (.int .i64 0), (.int .i64 0), (.slice none 0 0), (.slice none 0 0)], false⟩, ⟨bm2, 27, [(.int .i64 x_m2_0), (.int .i64 x_m2_1), (.int .i64 x_m2_2), (.int .i64 x_m2_3), (.slice a_m2_4 n_m2_4 c_m2_4), (.slice none 0 0)], false⟩]
def law04_CutReply_v2 (bm0 : Nat) (bm1 : Nat) (bm2 : Nat) (x_6 : Int) : List Value := [(.pointer (some ⟨bm0, 0, none⟩)), (.pointer (some ⟨bm1, 0, none⟩)), (.pointer (some ⟨bm2, 0, none⟩)), (.int .i64 x_6)]
def law04_CutReply_m2 (bm0 : Nat) (x_m0_0 : Int) (x_m0_1 : Int) (x_m0_2 : Int) (x_m0_3 : Int) (a_m0_4 : Option Addr) (n_m0_4 : Nat) (c_m0_4 : Nat) (a_m0_5 : Option Addr) (n_m0_5 : Nat) (c_m0_5 : Nat) (bm1 : Nat) (bm2 : Nat) (x_m2_0 : Int) (x_m2_1 : Int) (x_m2_2 : Int) (x_m2_3 : Int) (a_m2_4 : Option Addr) (n_m2_4 : Nat) (c_m2_4 : Nat) (a_m2_5 : Option Addr) (n_m2_5 : Nat) (c_m2_5 : Nat) : List TB := [⟨bm0, 27, [(.int .i64 x_m0_0), (.int .i64 x_m0_1), (.int .i64 x_m0_2), (.int .i64 x_m0_3), (.slice a_m0_4 n_m0_4 c_m0_4), (.slice a_m0_5 n_m0_5 c_m0_5)], false⟩, ⟨bm1, 27, [(.int .i64 0), (.int .i64 0), (.int .i64 0), (.int .i64 0), (.slice none 0 0), (.slice none 0 0)], false⟩, ⟨bm2, 27, [(.int .i64 x_m2_0), (.int .i64 x_m2_1), (.int .i64 x_m2_2), (.int .i64 x_m2_3), (.slice a_m2_4 n_m2_4 c_m2_4), (.slice a_m2_5 n_m2_5 c_m2_5)], false⟩]
def law04_CutReply_L1 (bm0 : Nat) (x_m0_0 : Int) (x_m0_1 : Int) (x_m0_2 : Int) (x_m0_3 : Int) (a_m0_4 : Option Addr) (n_m0_4 : Nat) (c_m0_4 : Nat) (a_m0_5 : Option Addr) (n_m0_5 : Nat) (c_m0_5 : Nat) (bm1 : Nat) (bm2 : Nat) (x_m2_0 : Int) (x_m2_1 : Int) (x_m2_2 : Int) (x_m2_3 : Int) (x_4 : Int) (a_m2_4 : Option Addr) (n_m2_4 : Nat) (c_m2_4 : Nat) (K1 : Kh) (R : Value → World → Prop) (w : World) : Prop :=
  brB (decide (x_4 < (n_m0_4 : Int))) (
    brB (decide (x_4 < 70)) (
      ixA a_m0_4 n_m0_4 x_4 5 fun q4 =>
      ldInt .i64 w q4 fun x5 => ldBool w (Addr.add q4 1) fun t6 => ldStr w (Addr.add q4 2) fun s7 => ldBool w (Addr.add q4 3) fun t8 => ldStr w (Addr.add q4 4) fun s9 =>
      ∀ b10, w.heap.size ≤ b10 →
      slS s7 0 (if 80 < (s7.size : Int) then 80 else (s7.size : Int)) fun s11 =>
      slS s9 0 (if 600 < (s9.size : Int) then 600 else (s9.size : Int)) fun s12 =>
      ∀ w13, Adv [] [b10] w w13 →
      al w13 (.cells #[(.int .i64 x5), (.bool t6), (.string s11), (.bool t8), (.string s12)] 62) fun b14 w15 =>
      effSl Try.prog (Builtin.append_ #[24, 24] 24 #[(.slice a_m2_4 n_m2_4 c_m2_4), (.slice (some ⟨b14, 0, none⟩) 1 1)]) w15 fun a17 n18 c19 w16 => Keep [bm0, bm1, bm2, b10] w15 w16 ∧
      ∀ w20, Adv [bm2] [] w16 w20 →
      K1 (law04_CutReply_v1 bm0 bm1 bm2 (IntKind.wrap .i64 (x_4 + 1))) (law04_CutReply_m1 bm0 x_m0_0 x_m0_1 x_m0_2 x_m0_3 a_m0_4 n_m0_4 c_m0_4 a_m0_5 n_m0_5 c_m0_5 bm1 bm2 x_m2_0 x_m2_1 x_m2_2 x_m2_3 a17 n18 c19) w20)
    (
      loopD3 law04_CutReply_la2 (dnF Try.prog law04_CutReply_an (code Try.f9) 393 [0, 0, 1, 0, 1, 1, 1, 1, 1]) (kont3 Try.prog law04_CutReply_an (code Try.f9) [1, 1, 1, 1, 1, 0, 1, 0] [] (post3 Try.prog Try.f9 [] R)) (law04_CutReply_v2 bm0 bm1 bm2 0) (law04_CutReply_m2 bm0 x_m0_0 x_m0_1 x_m0_2 x_m0_3 a_m0_4 n_m0_4 c_m0_4 a_m0_5 n_m0_5 c_m0_5 bm1 bm2 x_m2_0 x_m2_1 x_m2_2 x_m2_3 a_m2_4 n_m2_4 c_m2_4 none 0 0) w))
  (
    loopD3 law04_CutReply_la2 (dnF Try.prog law04_CutReply_an (code Try.f9) 393 [0, 0, 1, 0, 1, 1, 1, 1, 1]) (kont3 Try.prog law04_CutReply_an (code Try.f9) [1, 1, 1, 1, 1, 0, 1, 0] [] (post3 Try.prog Try.f9 [] R)) (law04_CutReply_v2 bm0 bm1 bm2 0) (law04_CutReply_m2 bm0 x_m0_0 x_m0_1 x_m0_2 x_m0_3 a_m0_4 n_m0_4 c_m0_4 a_m0_5 n_m0_5 c_m0_5 bm1 bm2 x_m2_0 x_m2_1 x_m2_2 x_m2_3 a_m2_4 n_m2_4 c_m2_4 none 0 0) w)
theorem law04_CutReply_L1_eq (bm0 : Nat) (x_m0_0 : Int) (x_m0_1 : Int) (x_m0_2 : Int) (x_m0_3 : Int) (a_m0_4 : Option Addr) (n_m0_4 : Nat) (c_m0_4 : Nat) (a_m0_5 : Option Addr) (n_m0_5 : Nat) (c_m0_5 : Nat) (bm1 : Nat) (bm2 : Nat) (x_m2_0 : Int) (x_m2_1 : Int) (x_m2_2 : Int) (x_m2_3 : Int) (x_4 : Int) (a_m2_4 : Option Addr) (n_m2_4 : Nat) (c_m2_4 : Nat) (K1 : Kh) (js : Nat → Value) (R : Value → World → Prop) (w : World) :
    headA law04_CutReply_la1 ((dnF Try.prog law04_CutReply_an (code Try.f9) 394 [0, 0, 1, 0, 1, 1, 1, 1]) (kthen3 (atA law04_CutReply_la1 K1) (kont3 Try.prog law04_CutReply_an (code Try.f9) [1, 1, 1, 1, 0, 1, 0] [] (post3 Try.prog Try.f9 [] R)))) (law04_CutReply_v1 bm0 bm1 bm2 x_4) js (law04_CutReply_m1 bm0 x_m0_0 x_m0_1 x_m0_2 x_m0_3 a_m0_4 n_m0_4 c_m0_4 a_m0_5 n_m0_5 c_m0_5 bm1 bm2 x_m2_0 x_m2_1 x_m2_2 x_m2_3 a_m2_4 n_m2_4 c_m2_4) w = law04_CutReply_L1 bm0 x_m0_0 x_m0_1 x_m0_2 x_m0_3 a_m0_4 n_m0_4 c_m0_4 a_m0_5 n_m0_5 c_m0_5 bm1 bm2 x_m2_0 x_m2_1 x_m2_2 x_m2_3 x_4 a_m2_4 n_m2_4 c_m2_4 K1 R w := by kernel_rfl
def law04_CutReply_K1 (bm0 : Nat) (x_m0_0 : Int) (x_m0_1 : Int) (x_m0_2 : Int) (x_m0_3 : Int) (a_m0_4 : Option Addr) (n_m0_4 : Nat) (c_m0_4 : Nat) (a_m0_5 : Option Addr) (n_m0_5 : Nat) (c_m0_5 : Nat) (bm1 : Nat) (bm2 : Nat) (x_m2_0 : Int) (x_m2_1 : Int) (x_m2_2 : Int) (x_m2_3 : Int) (I : Nat → Int → Option Addr → Nat → Nat → World → Prop) (m : Nat) (vals : List Value) (mem : List TB) (w : World) : Prop := ∃ m', m' < m ∧ ∃ x_4 a_m2_4 n_m2_4 c_m2_4, vals = (law04_CutReply_v1 bm0 bm1 bm2 x_4) ∧ mem = (law04_CutReply_m1 bm0 x_m0_0 x_m0_1 x_m0_2 x_m0_3 a_m0_4 n_m0_4 c_m0_4 a_m0_5 n_m0_5 c_m0_5 bm1 bm2 x_m2_0 x_m2_1 x_m2_2 x_m2_3 a_m2_4 n_m2_4 c_m2_4) ∧ I m' x_4 a_m2_4 n_m2_4 c_m2_4 w
theorem law04_CutReply_leaf1 {bm0 : Nat} {x_m0_0 : Int} {x_m0_1 : Int} {x_m0_2 : Int} {x_m0_3 : Int} {a_m0_4 : Option Addr} {n_m0_4 : Nat} {c_m0_4 : Nat} {a_m0_5 : Option Addr} {n_m0_5 : Nat} {c_m0_5 : Nat} {bm1 : Nat} {bm2 : Nat} {x_m2_0 : Int} {x_m2_1 : Int} {x_m2_2 : Int} {x_m2_3 : Int} {I : Nat → Int → Option Addr → Nat → Nat → World → Prop} {m : Nat} {x_4 : Int} {a_m2_4 : Option Addr} {n_m2_4 : Nat} {c_m2_4 : Nat} {w : World} (m' : Nat) (h1 : m' < m) (h2 : I m' x_4 a_m2_4 n_m2_4 c_m2_4 w) : law04_CutReply_K1 bm0 x_m0_0 x_m0_1 x_m0_2 x_m0_3 a_m0_4 n_m0_4 c_m0_4 a_m0_5 n_m0_5 c_m0_5 bm1 bm2 x_m2_0 x_m2_1 x_m2_2 x_m2_3 I m (law04_CutReply_v1 bm0 bm1 bm2 x_4) (law04_CutReply_m1 bm0 x_m0_0 x_m0_1 x_m0_2 x_m0_3 a_m0_4 n_m0_4 c_m0_4 a_m0_5 n_m0_5 c_m0_5 bm1 bm2 x_m2_0 x_m2_1 x_m2_2 x_m2_3 a_m2_4 n_m2_4 c_m2_4) w := ⟨m', h1, _, _, _, _, rfl, rfl, h2⟩
theorem law04_CutReply_rule1 {bm0 : Nat} {x_m0_0 : Int} {x_m0_1 : Int} {x_m0_2 : Int} {x_m0_3 : Int} {a_m0_4 : Option Addr} {n_m0_4 : Nat} {c_m0_4 : Nat} {a_m0_5 : Option Addr} {n_m0_5 : Nat} {c_m0_5 : Nat} {bm1 : Nat} {bm2 : Nat} {x_m2_0 : Int} {x_m2_1 : Int} {x_m2_2 : Int} {x_m2_3 : Int} {x_40 : Int} {a_m2_40 : Option Addr} {n_m2_40 : Nat} {c_m2_40 : Nat} {R : Value → World → Prop} {w0 : World} (I : Nat → Int → Option Addr → Nat → Nat → World → Prop) (m0 : Nat) (h0 : I m0 x_40 a_m2_40 n_m2_40 c_m2_40 w0)
    (hr : ∀ (m : Nat) (x_4 : Int) (a_m2_4 : Option Addr) (n_m2_4 : Nat) (c_m2_4 : Nat) (w : World), I m x_4 a_m2_4 n_m2_4 c_m2_4 w → law04_CutReply_L1 bm0 x_m0_0 x_m0_1 x_m0_2 x_m0_3 a_m0_4 n_m0_4 c_m0_4 a_m0_5 n_m0_5 c_m0_5 bm1 bm2 x_m2_0 x_m2_1 x_m2_2 x_m2_3 x_4 a_m2_4 n_m2_4 c_m2_4 (law04_CutReply_K1 bm0 x_m0_0 x_m0_1 x_m0_2 x_m0_3 a_m0_4 n_m0_4 c_m0_4 a_m0_5 n_m0_5 c_m0_5 bm1 bm2 x_m2_0 x_m2_1 x_m2_2 x_m2_3 I m) R w) :
    loopD3 law04_CutReply_la1 (dnF Try.prog law04_CutReply_an (code Try.f9) 394 [0, 0, 1, 0, 1, 1, 1, 1]) (kont3 Try.prog law04_CutReply_an (code Try.f9) [1, 1, 1, 1, 0, 1, 0] [] (post3 Try.prog Try.f9 [] R)) (law04_CutReply_v1 bm0 bm1 bm2 x_40) (law04_CutReply_m1 bm0 x_m0_0 x_m0_1 x_m0_2 x_m0_3 a_m0_4 n_m0_4 c_m0_4 a_m0_5 n_m0_5 c_m0_5 bm1 bm2 x_m2_0 x_m2_1 x_m2_2 x_m2_3 a_m2_40 n_m2_40 c_m2_40) w0 := by
  refine ⟨fun m vals mem w => ∃ x_4 a_m2_4 n_m2_4 c_m2_4, vals = (law04_CutReply_v1 bm0 bm1 bm2 x_4) ∧ mem = (law04_CutReply_m1 bm0 x_m0_0 x_m0_1 x_m0_2 x_m0_3 a_m0_4 n_m0_4 c_m0_4 a_m0_5 n_m0_5 c_m0_5 bm1 bm2 x_m2_0 x_m2_1 x_m2_2 x_m2_3 a_m2_4 n_m2_4 c_m2_4) ∧ I m x_4 a_m2_4 n_m2_4 c_m2_4 w, m0, ⟨_, _, _, _, rfl, rfl, h0⟩, ?_⟩
  rintro m vals mem w ⟨x_4, a_m2_4, n_m2_4, c_m2_4, rfl, rfl, hI⟩
  refine ⟨rfl, rfl, fun js => ?_⟩
  have h := hr m x_4 a_m2_4 n_m2_4 c_m2_4 w hI
  rw [← law04_CutReply_L1_eq _ _ _ _ _ _ _ _ _ _ _ _ _ _ _ _ _ _ _ _ _ _ js] at h
  exact h
def law04_CutReply_L2 (bm0 : Nat) (x_m0_0 : Int) (x_m0_1 : Int) (x_m0_2 : Int) (x_m0_3 : Int) (a_m0_4 : Option Addr) (n_m0_4 : Nat) (c_m0_4 : Nat) (a_m0_5 : Option Addr) (n_m0_5 : Nat) (c_m0_5 : Nat) (bm1 : Nat) (bm2 : Nat) (x_m2_0 : Int) (x_m2_1 : Int) (x_m2_2 : Int) (x_m2_3 : Int) (a_m2_4 : Option Addr) (n_m2_4 : Nat) (c_m2_4 : Nat) (x_6 : Int) (a_m2_5 : Option Addr) (n_m2_5 : Nat) (c_m2_5 : Nat) (K2 : Kh) (R : Value → World → Prop) (w : World) : Prop :=
  brB (decide (x_6 < (n_m0_5 : Int))) (
    brB (decide (x_6 < 70)) (
      ixA a_m0_5 n_m0_5 x_6 2 fun q21 =>
      ldStr w q21 fun s22 => ldInt .i64 w (Addr.add q21 1) fun x23 =>
      ∀ b24, w.heap.size ≤ b24 →
      slS s22 0 (if 40 < (s22.size : Int) then 40 else (s22.size : Int)) fun s25 =>
      ∀ w26, Adv [] [b24] w w26 →
      al w26 (.cells #[(.string s25), (.int .i64 x23)] 58) fun b27 w28 =>
      effSl Try.prog (Builtin.append_ #[25, 25] 25 #[(.slice a_m2_5 n_m2_5 c_m2_5), (.slice (some ⟨b27, 0, none⟩) 1 1)]) w28 fun a30 n31 c32 w29 => Keep [bm0, bm1, bm2, b24] w28 w29 ∧
      ∀ w33, Adv [bm2] [] w29 w33 →
      K2 (law04_CutReply_v2 bm0 bm1 bm2 (IntKind.wrap .i64 (x_6 + 1))) (law04_CutReply_m2 bm0 x_m0_0 x_m0_1 x_m0_2 x_m0_3 a_m0_4 n_m0_4 c_m0_4 a_m0_5 n_m0_5 c_m0_5 bm1 bm2 x_m2_0 x_m2_1 x_m2_2 x_m2_3 a_m2_4 n_m2_4 c_m2_4 a30 n31 c32) w33)
    (
      ∀ w34, Adv [bm1] [] w w34 →
      R (.agg #[(.int .i64 x_m2_0), (.int .i64 x_m2_1), (.int .i64 x_m2_2), (.int .i64 x_m2_3), (.slice a_m2_4 n_m2_4 c_m2_4), (.slice a_m2_5 n_m2_5 c_m2_5)]) w34))
  (
    ∀ w35, Adv [bm1] [] w w35 →
    R (.agg #[(.int .i64 x_m2_0), (.int .i64 x_m2_1), (.int .i64 x_m2_2), (.int .i64 x_m2_3), (.slice a_m2_4 n_m2_4 c_m2_4), (.slice a_m2_5 n_m2_5 c_m2_5)]) w35)
theorem law04_CutReply_L2_eq (bm0 : Nat) (x_m0_0 : Int) (x_m0_1 : Int) (x_m0_2 : Int) (x_m0_3 : Int) (a_m0_4 : Option Addr) (n_m0_4 : Nat) (c_m0_4 : Nat) (a_m0_5 : Option Addr) (n_m0_5 : Nat) (c_m0_5 : Nat) (bm1 : Nat) (bm2 : Nat) (x_m2_0 : Int) (x_m2_1 : Int) (x_m2_2 : Int) (x_m2_3 : Int) (a_m2_4 : Option Addr) (n_m2_4 : Nat) (c_m2_4 : Nat) (x_6 : Int) (a_m2_5 : Option Addr) (n_m2_5 : Nat) (c_m2_5 : Nat) (K2 : Kh) (js : Nat → Value) (R : Value → World → Prop) (w : World) :
    headA law04_CutReply_la2 ((dnF Try.prog law04_CutReply_an (code Try.f9) 393 [0, 0, 1, 0, 1, 1, 1, 1, 1]) (kthen3 (atA law04_CutReply_la2 K2) (kont3 Try.prog law04_CutReply_an (code Try.f9) [1, 1, 1, 1, 1, 0, 1, 0] [] (post3 Try.prog Try.f9 [] R)))) (law04_CutReply_v2 bm0 bm1 bm2 x_6) js (law04_CutReply_m2 bm0 x_m0_0 x_m0_1 x_m0_2 x_m0_3 a_m0_4 n_m0_4 c_m0_4 a_m0_5 n_m0_5 c_m0_5 bm1 bm2 x_m2_0 x_m2_1 x_m2_2 x_m2_3 a_m2_4 n_m2_4 c_m2_4 a_m2_5 n_m2_5 c_m2_5) w = law04_CutReply_L2 bm0 x_m0_0 x_m0_1 x_m0_2 x_m0_3 a_m0_4 n_m0_4 c_m0_4 a_m0_5 n_m0_5 c_m0_5 bm1 bm2 x_m2_0 x_m2_1 x_m2_2 x_m2_3 a_m2_4 n_m2_4 c_m2_4 x_6 a_m2_5 n_m2_5 c_m2_5 K2 R w := by kernel_rfl
def law04_CutReply_K2 (bm0 : Nat) (x_m0_0 : Int) (x_m0_1 : Int) (x_m0_2 : Int) (x_m0_3 : Int) (a_m0_4 : Option Addr) (n_m0_4 : Nat) (c_m0_4 : Nat) (a_m0_5 : Option Addr) (n_m0_5 : Nat) (c_m0_5 : Nat) (bm1 : Nat) (bm2 : Nat) (x_m2_0 : Int) (x_m2_1 : Int) (x_m2_2 : Int) (x_m2_3 : Int) (a_m2_4 : Option Addr) (n_m2_4 : Nat) (c_m2_4 : Nat) (I : Nat → Int → Option Addr → Nat → Nat → World → Prop) (m : Nat) (vals : List Value) (mem : List TB) (w : World) : Prop := ∃ m', m' < m ∧ ∃ x_6 a_m2_5 n_m2_5 c_m2_5, vals = (law04_CutReply_v2 bm0 bm1 bm2 x_6) ∧ mem = (law04_CutReply_m2 bm0 x_m0_0 x_m0_1 x_m0_2 x_m0_3 a_m0_4 n_m0_4 c_m0_4 a_m0_5 n_m0_5 c_m0_5 bm1 bm2 x_m2_0 x_m2_1 x_m2_2 x_m2_3 a_m2_4 n_m2_4 c_m2_4 a_m2_5 n_m2_5 c_m2_5) ∧ I m' x_6 a_m2_5 n_m2_5 c_m2_5 w
theorem law04_CutReply_leaf2 {bm0 : Nat} {x_m0_0 : Int} {x_m0_1 : Int} {x_m0_2 : Int} {x_m0_3 : Int} {a_m0_4 : Option Addr} {n_m0_4 : Nat} {c_m0_4 : Nat} {a_m0_5 : Option Addr} {n_m0_5 : Nat} {c_m0_5 : Nat} {bm1 : Nat} {bm2 : Nat} {x_m2_0 : Int} {x_m2_1 : Int} {x_m2_2 : Int} {x_m2_3 : Int} {a_m2_4 : Option Addr} {n_m2_4 : Nat} {c_m2_4 : Nat} {I : Nat → Int → Option Addr → Nat → Nat → World → Prop} {m : Nat} {x_6 : Int} {a_m2_5 : Option Addr} {n_m2_5 : Nat} {c_m2_5 : Nat} {w : World} (m' : Nat) (h1 : m' < m) (h2 : I m' x_6 a_m2_5 n_m2_5 c_m2_5 w) : law04_CutReply_K2 bm0 x_m0_0 x_m0_1 x_m0_2 x_m0_3 a_m0_4 n_m0_4 c_m0_4 a_m0_5 n_m0_5 c_m0_5 bm1 bm2 x_m2_0 x_m2_1 x_m2_2 x_m2_3 a_m2_4 n_m2_4 c_m2_4 I m (law04_CutReply_v2 bm0 bm1 bm2 x_6) (law04_CutReply_m2 bm0 x_m0_0 x_m0_1 x_m0_2 x_m0_3 a_m0_4 n_m0_4 c_m0_4 a_m0_5 n_m0_5 c_m0_5 bm1 bm2 x_m2_0 x_m2_1 x_m2_2 x_m2_3 a_m2_4 n_m2_4 c_m2_4 a_m2_5 n_m2_5 c_m2_5) w := ⟨m', h1, _, _, _, _, rfl, rfl, h2⟩
theorem law04_CutReply_rule2 {bm0 : Nat} {x_m0_0 : Int} {x_m0_1 : Int} {x_m0_2 : Int} {x_m0_3 : Int} {a_m0_4 : Option Addr} {n_m0_4 : Nat} {c_m0_4 : Nat} {a_m0_5 : Option Addr} {n_m0_5 : Nat} {c_m0_5 : Nat} {bm1 : Nat} {bm2 : Nat} {x_m2_0 : Int} {x_m2_1 : Int} {x_m2_2 : Int} {x_m2_3 : Int} {a_m2_4 : Option Addr} {n_m2_4 : Nat} {c_m2_4 : Nat} {x_60 : Int} {a_m2_50 : Option Addr} {n_m2_50 : Nat} {c_m2_50 : Nat} {R : Value → World → Prop} {w0 : World} (I : Nat → Int → Option Addr → Nat → Nat → World → Prop) (m0 : Nat) (h0 : I m0 x_60 a_m2_50 n_m2_50 c_m2_50 w0)
    (hr : ∀ (m : Nat) (x_6 : Int) (a_m2_5 : Option Addr) (n_m2_5 : Nat) (c_m2_5 : Nat) (w : World), I m x_6 a_m2_5 n_m2_5 c_m2_5 w → law04_CutReply_L2 bm0 x_m0_0 x_m0_1 x_m0_2 x_m0_3 a_m0_4 n_m0_4 c_m0_4 a_m0_5 n_m0_5 c_m0_5 bm1 bm2 x_m2_0 x_m2_1 x_m2_2 x_m2_3 a_m2_4 n_m2_4 c_m2_4 x_6 a_m2_5 n_m2_5 c_m2_5 (law04_CutReply_K2 bm0 x_m0_0 x_m0_1 x_m0_2 x_m0_3 a_m0_4 n_m0_4 c_m0_4 a_m0_5 n_m0_5 c_m0_5 bm1 bm2 x_m2_0 x_m2_1 x_m2_2 x_m2_3 a_m2_4 n_m2_4 c_m2_4 I m) R w) :
    loopD3 law04_CutReply_la2 (dnF Try.prog law04_CutReply_an (code Try.f9) 393 [0, 0, 1, 0, 1, 1, 1, 1, 1]) (kont3 Try.prog law04_CutReply_an (code Try.f9) [1, 1, 1, 1, 1, 0, 1, 0] [] (post3 Try.prog Try.f9 [] R)) (law04_CutReply_v2 bm0 bm1 bm2 x_60) (law04_CutReply_m2 bm0 x_m0_0 x_m0_1 x_m0_2 x_m0_3 a_m0_4 n_m0_4 c_m0_4 a_m0_5 n_m0_5 c_m0_5 bm1 bm2 x_m2_0 x_m2_1 x_m2_2 x_m2_3 a_m2_4 n_m2_4 c_m2_4 a_m2_50 n_m2_50 c_m2_50) w0 := by
  refine ⟨fun m vals mem w => ∃ x_6 a_m2_5 n_m2_5 c_m2_5, vals = (law04_CutReply_v2 bm0 bm1 bm2 x_6) ∧ mem = (law04_CutReply_m2 bm0 x_m0_0 x_m0_1 x_m0_2 x_m0_3 a_m0_4 n_m0_4 c_m0_4 a_m0_5 n_m0_5 c_m0_5 bm1 bm2 x_m2_0 x_m2_1 x_m2_2 x_m2_3 a_m2_4 n_m2_4 c_m2_4 a_m2_5 n_m2_5 c_m2_5) ∧ I m x_6 a_m2_5 n_m2_5 c_m2_5 w, m0, ⟨_, _, _, _, rfl, rfl, h0⟩, ?_⟩
  rintro m vals mem w ⟨x_6, a_m2_5, n_m2_5, c_m2_5, rfl, rfl, hI⟩
  refine ⟨rfl, rfl, fun js => ?_⟩
  have h := hr m x_6 a_m2_5 n_m2_5 c_m2_5 w hI
  rw [← law04_CutReply_L2_eq _ _ _ _ _ _ _ _ _ _ _ _ _ _ _ _ _ _ _ _ _ _ _ _ _ js] at h
  exact h
/-- stagecoach/stagecoachlaw04.CutReply -/
def law04_CutReply_T (a0_r_0 : Int) (a0_r_1 : Int) (a0_r_2 : Int) (a0_r_3 : Int) (a0_r_4_a : Option Addr) (a0_r_4_n : Nat) (a0_r_4_c : Nat) (a0_r_5_a : Option Addr) (a0_r_5_n : Nat) (a0_r_5_c : Nat) (R : Value → World → Prop) (w : World) : Prop :=
  ∀ b1, w.heap.size ≤ b1 →
  ∀ b2, w.heap.size ≤ b2 →
  ∀ b3, w.heap.size ≤ b3 →
  ∀ w36, Adv [] [b3, b2, b1] w w36 →
  loopD3 law04_CutReply_la1 (dnF Try.prog law04_CutReply_an (code Try.f9) 394 [0, 0, 1, 0, 1, 1, 1, 1]) (kont3 Try.prog law04_CutReply_an (code Try.f9) [1, 1, 1, 1, 0, 1, 0] [] (post3 Try.prog Try.f9 [] R)) (law04_CutReply_v1 b1 b2 b3 0) (law04_CutReply_m1 b1 a0_r_0 a0_r_1 a0_r_2 a0_r_3 a0_r_4_a a0_r_4_n a0_r_4_c a0_r_5_a a0_r_5_n a0_r_5_c b2 b3 a0_r_0 a0_r_1 a0_r_2 a0_r_3 none 0 0) w36
theorem law04_CutReply_eq (a0_r_0 : Int) (a0_r_1 : Int) (a0_r_2 : Int) (a0_r_3 : Int) (a0_r_4_a : Option Addr) (a0_r_4_n : Nat) (a0_r_4_c : Nat) (a0_r_5_a : Option Addr) (a0_r_5_n : Nat) (a0_r_5_c : Nat) (R : Value → World → Prop) (w : World) :
    dnF Try.prog law04_CutReply_an (code Try.f9) 400 [] (post3 Try.prog Try.f9 [] R) ⟨args0 0 [(.agg #[(.int .i64 a0_r_0), (.int .i64 a0_r_1), (.int .i64 a0_r_2), (.int .i64 a0_r_3), (.slice a0_r_4_a a0_r_4_n a0_r_4_c), (.slice a0_r_5_a a0_r_5_n a0_r_5_c)])], fun _ => undef⟩ ⟨[], w, [], [], true⟩ = law04_CutReply_T a0_r_0 a0_r_1 a0_r_2 a0_r_3 a0_r_4_a a0_r_4_n a0_r_4_c a0_r_5_a a0_r_5_n a0_r_5_c R w := by kernel_rfl
theorem law04_CutReply_go {a0_r_0 : Int} {a0_r_1 : Int} {a0_r_2 : Int} {a0_r_3 : Int} {a0_r_4_a : Option Addr} {a0_r_4_n : Nat} {a0_r_4_c : Nat} {a0_r_5_a : Option Addr} {a0_r_5_n : Nat} {a0_r_5_c : Nat} {R : Value → World → Prop} {w : World} (h : law04_CutReply_T a0_r_0 a0_r_1 a0_r_2 a0_r_3 a0_r_4_a a0_r_4_n a0_r_4_c a0_r_5_a a0_r_5_n a0_r_5_c R w) :
    Calls Try.prog 9 #[(.agg #[(.int .i64 a0_r_0), (.int .i64 a0_r_1), (.int .i64 a0_r_2), (.int .i64 a0_r_3), (.slice a0_r_4_a a0_r_4_n a0_r_4_c), (.slice a0_r_5_a a0_r_5_n a0_r_5_c)])] w fun e w' => ∃ v, e = .returned v ∧ R v w' :=
  calls_none Try.wide_mixed (f := 9) (args := [(.agg #[(.int .i64 a0_r_0), (.int .i64 a0_r_1), (.int .i64 a0_r_2), (.int .i64 a0_r_3), (.slice a0_r_4_a a0_r_4_n a0_r_4_c), (.slice a0_r_5_a a0_r_5_n a0_r_5_c)])]) Try.func9 rfl rfl (by kernel_rfl) rfl (Eq.mpr (law04_CutReply_eq a0_r_0 a0_r_1 a0_r_2 a0_r_3 a0_r_4_a a0_r_4_n a0_r_4_c a0_r_5_a a0_r_5_n a0_r_5_c R w) h)
def law15_fixed_an : List LA := []
/-- stagecoach/stagecoachlaw15.fixed -/
def law15_fixed_T (R : Value → World → Prop) (w : World) : Prop :=
  Calls Try.prog 15 #[] w fun e w1 => ∃ p2 : Option Addr, e = .returned (.pointer p2) ∧
  brB (Option.isNone p2) (
    R (.bool false) w1)
  (
    al w1 (.cells #[(.string (⟨#[116]⟩ : ByteArray)), (.int .i64 0)] 58) fun b3 w4 =>
    ∀ b5, w4.heap.size ≤ b5 →
    ∀ w6, Adv [] [b5] w4 w6 →
    Calls Try.prog 17 #[(.pointer p2), (.int .i64 1), (.int .i64 5)] w6 fun e w7 => ∃ x8 : Int, e = .returned (.int .i64 x8) ∧ Keep [b5] w6 w7 ∧
    Calls Try.prog 16 #[(.pointer p2), (.int .i64 1), (.int .i64 5)] w7 fun e w9 => ∃ x10 : Int, ∃ x11 : Int, ∃ x12 : Int, ∃ x13 : Int, ∃ x14 : Int, ∃ (a15 : Option Addr) (n16 c17 : Nat), ∃ (a18 : Option Addr) (n19 c20 : Nat), ∃ x21 : Int, e = .returned (.tuple #[(.int .i64 x10), (.agg #[(.int .i64 x11), (.int .i64 x12), (.int .i64 x13), (.int .i64 x14), (.slice a15 n16 c17), (.slice a18 n19 c20)]), (.int .i64 x21)]) ∧ Keep [b5] w7 w9 ∧
    ∀ b22, w9.heap.size ≤ b22 →
    ∀ w23, Adv [] [b22] w9 w23 →
    Calls Try.prog 18 #[(.pointer p2), (.int .i64 1), (.int .i64 5), (.agg #[(.int .i64 0), (.int .i64 7), (.int .i64 0), (.int .i64 0), (.slice none 0 0), (.slice (some ⟨b3, 0, none⟩) 1 1)])] w23 fun e w24 => ∃ x25 : Int, e = .returned (.int .i64 x25) ∧ Keep [b5, b22] w23 w24 ∧
    Calls Try.prog 16 #[(.pointer p2), (.int .i64 1), (.int .i64 5)] w24 fun e w26 => ∃ x27 : Int, ∃ x28 : Int, ∃ x29 : Int, ∃ x30 : Int, ∃ x31 : Int, ∃ (a32 : Option Addr) (n33 c34 : Nat), ∃ (a35 : Option Addr) (n36 c37 : Nat), ∃ x38 : Int, e = .returned (.tuple #[(.int .i64 x27), (.agg #[(.int .i64 x28), (.int .i64 x29), (.int .i64 x30), (.int .i64 x31), (.slice a32 n33 c34), (.slice a35 n36 c37)]), (.int .i64 x38)]) ∧ Keep [b5, b22] w24 w26 ∧
    ∀ b39, w26.heap.size ≤ b39 →
    ∀ w40, Adv [] [b39] w26 w40 →
    Calls Try.prog 16 #[(.pointer p2), (.int .i64 1), (.int .i64 4)] w40 fun e w41 => ∃ x42 : Int, ∃ x43 : Int, ∃ x44 : Int, ∃ x45 : Int, ∃ x46 : Int, ∃ (a47 : Option Addr) (n48 c49 : Nat), ∃ (a50 : Option Addr) (n51 c52 : Nat), ∃ x53 : Int, e = .returned (.tuple #[(.int .i64 x42), (.agg #[(.int .i64 x43), (.int .i64 x44), (.int .i64 x45), (.int .i64 x46), (.slice a47 n48 c49), (.slice a50 n51 c52)]), (.int .i64 x53)]) ∧ Keep [b5, b22, b39] w40 w41 ∧
    ∀ b54, w41.heap.size ≤ b54 →
    ∀ w55, Adv [] [b54] w41 w55 →
    Calls Try.prog 16 #[(.pointer p2), (.int .i64 1), (.int .i64 9)] w55 fun e w56 => ∃ x57 : Int, ∃ x58 : Int, ∃ x59 : Int, ∃ x60 : Int, ∃ x61 : Int, ∃ (a62 : Option Addr) (n63 c64 : Nat), ∃ (a65 : Option Addr) (n66 c67 : Nat), ∃ x68 : Int, e = .returned (.tuple #[(.int .i64 x57), (.agg #[(.int .i64 x58), (.int .i64 x59), (.int .i64 x60), (.int .i64 x61), (.slice a62 n63 c64), (.slice a65 n66 c67)]), (.int .i64 x68)]) ∧ Keep [b5, b22, b39, b54] w55 w56 ∧
    ∀ b69, w56.heap.size ≤ b69 →
    ∀ w70, Adv [] [b69] w56 w70 →
    Calls Try.prog 18 #[(.pointer p2), (.int .i64 1), (.int .i64 4), (.agg #[(.int .i64 0), (.int .i64 7), (.int .i64 0), (.int .i64 0), (.slice none 0 0), (.slice (some ⟨b3, 0, none⟩) 1 1)])] w70 fun e w71 => ∃ x72 : Int, e = .returned (.int .i64 x72) ∧ Keep [b5, b22, b39, b54, b69] w70 w71 ∧ (((.agg #[(.int .i64 0), (.int .i64 7), (.int .i64 0), (.int .i64 0), (.slice none 0 0), (.slice (some ⟨b3, 0, none⟩) 1 1)]) : Value) = (.agg #[(.int .i64 0), (.int .i64 7), (.int .i64 0), (.int .i64 0), (.slice none 0 0), (.slice (some ⟨b3, 0, none⟩) 1 1)])) ∧
    Calls Try.prog 18 #[(.pointer p2), (.int .i64 2), (.int .i64 4), (.agg #[(.int .i64 0), (.int .i64 7), (.int .i64 0), (.int .i64 0), (.slice none 0 0), (.slice (some ⟨b3, 0, none⟩) 1 1)])] w71 fun e w73 => ∃ x74 : Int, e = .returned (.int .i64 x74) ∧ Keep [b5, b22, b39, b54, b69] w71 w73 ∧
    Calls Try.prog 17 #[(.pointer p2), (.int .i64 0), (.int .i64 1)] w73 fun e w75 => ∃ x76 : Int, e = .returned (.int .i64 x76) ∧ Keep [b5, b22, b39, b54, b69] w73 w75 ∧
    Calls Try.prog 13 #[(.pointer p2)] w75 fun e w77 => ∃ (a78 : Option Addr) (n79 c80 : Nat), e = .returned (.slice a78 n79 c80) ∧ Keep [b5, b22, b39, b54, b69] w75 w77 ∧
    Calls Try.prog 10 #[(.slice a78 n79 c80)] w77 fun e w81 => ∃ p82 : Option Addr, ∃ x83 : Int, e = .returned (.tuple #[(.pointer p82), (.int .i64 x83)]) ∧ Keep [b5, b22, b39, b54, b69] w77 w81 ∧
    al w81 (.cells #[(.int .i64 1), (.int .i64 1), (.bool false), (.int .i64 0), (.int .i64 7), (.int .i64 0), (.int .i64 0), (.slice none 0 0), (.slice (some ⟨b3, 0, none⟩) 1 1)] 29) fun b84 w85 =>
    Calls Try.prog 10 #[(.slice (some ⟨b84, 0, none⟩) 1 1)] w85 fun e w86 => ∃ p87 : Option Addr, ∃ x88 : Int, e = .returned (.tuple #[(.pointer p87), (.int .i64 x88)]) ∧ Keep [b5, b22, b39, b54, b69] w85 w86 ∧
    brB (x8 == 0) (
      brB (x10 == 2) (
        brB (x21 == 0) (
          brB (x25 == 0) (
            brB (x27 == 1) (
              Calls Try.prog 19 #[(.agg #[(.int .i64 x28), (.int .i64 x29), (.int .i64 x30), (.int .i64 x31), (.slice a32 n33 c34), (.slice a35 n36 c37)]), (.agg #[(.int .i64 0), (.int .i64 7), (.int .i64 0), (.int .i64 0), (.slice none 0 0), (.slice (some ⟨b3, 0, none⟩) 1 1)])] w86 fun e w89 => ∃ t90 : Bool, e = .returned (.bool t90) ∧ Keep [b5, b22, b39, b54, b69] w86 w89 ∧
              brB t90 (
                brB (x38 == 0) (
                  brB (x53 == 150) (
                    brB (x57 == 0) (
                      brB (x68 == 0) (
                        brB (x72 == 150) (
                          brB (x74 == 151) (
                            brB (x76 == 1) (
                              brB (!(Option.isNone p82)) (
                                brB (x83 == 0) (
                                  pkB (x88 == 1) (
                                    R (.bool true) w89)
                                  (
                                    R (.bool false) w89))
                                (
                                  R (.bool false) w89))
                              (
                                R (.bool false) w89))
                            (
                              R (.bool false) w89))
                          (
                            R (.bool false) w89))
                        (
                          R (.bool false) w89))
                      (
                        R (.bool false) w89))
                    (
                      R (.bool false) w89))
                  (
                    R (.bool false) w89))
                (
                  R (.bool false) w89))
              (
                R (.bool false) w89))
            (
              R (.bool false) w86))
          (
            R (.bool false) w86))
        (
          R (.bool false) w86))
      (
        R (.bool false) w86))
    (
      R (.bool false) w86))
theorem law15_fixed_eq (R : Value → World → Prop) (w : World) :
    dnF Try.prog law15_fixed_an (code Try.f14) 400 [] (post3 Try.prog Try.f14 [] R) ⟨args0 0 [], fun _ => undef⟩ ⟨[], w, [], [], true⟩ = law15_fixed_T R w := by kernel_rfl
theorem law15_fixed_go {R : Value → World → Prop} {w : World} (h : law15_fixed_T R w) :
    Calls Try.prog 14 #[] w fun e w' => ∃ v, e = .returned v ∧ R v w' :=
  calls_none Try.wide_mixed (f := 14) (args := []) Try.func14 rfl rfl (by kernel_rfl) rfl (Eq.mpr (law15_fixed_eq R w) h)

end Go.Proofs.Ytdgiemnadpkcfaa
