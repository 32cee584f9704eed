/- The conditions of Go functions' bodies, printed by gen2.py. -/
import Derived.Test.YtdgiemnadpkcfaaTrkS
namespace Go.Proofs.Ytdgiemnadpkcfaa
open Go Go.RowKit
set_option linter.unusedVariables false
set_option maxRecDepth 100000

def ref15_Load_la1 : LA := ⟨[0, 0, 1, 0, 1, 1, 1], [0, 4, 5], [(4, 0, 0)], 1, []⟩
def ref15_Load_la2 : LA := ⟨[1, 1, 0, 0, 1, 0, 0, 1, 0, 1, 1, 1], [0, 4, 5], [(4, 0, 0)], 1, []⟩
def ref15_Load_an : List LA := [ref15_Load_la1, ref15_Load_la2]
def ref15_Load_v1 (a_0 : Option Addr) (n_0 : Nat) (c_0 : Nat) (bm0 : Nat) (x_5 : Int) : List Value := [(.slice a_0 n_0 c_0), (.pointer (some ⟨bm0, 0, none⟩)), (.int .i64 x_5)]
def ref15_Load_m1 (bm0 : Nat) (a_m0_0 : Option Addr) (n_m0_0 : Nat) (c_m0_0 : Nat) : List TB := [⟨bm0, 56, [(.slice a_m0_0 n_m0_0 c_m0_0)], false⟩]
def ref15_Load_v2 (a_0 : Option Addr) (n_0 : Nat) (c_0 : Nat) (x_5 : Int) (bm0 : Nat) : List Value := [(.slice a_0 n_0 c_0), (.pointer (some ⟨bm0, 0, none⟩)), (.int .i64 x_5)]
def ref15_Load_m2 (bm0 : Nat) (a_m0_0 : Option Addr) (n_m0_0 : Nat) (c_m0_0 : Nat) : List TB := [⟨bm0, 56, [(.slice a_m0_0 n_m0_0 c_m0_0)], false⟩]
def ref15_Load_L1 (a_0 : Option Addr) (n_0 : Nat) (c_0 : Nat) (bm0 : Nat) (x_5 : Int) (a_m0_0 : Option Addr) (n_m0_0 : Nat) (c_m0_0 : Nat) (K1 : Kh) (R : Value → World → Prop) (w : World) : Prop :=
  brB (decide (x_5 < (n_0 : Int))) (
    ixA a_0 n_0 x_5 9 fun q2 =>
    ∀ w3, Adv [] [] w w3 →
    ldInt .i64 w3 q2 fun x4 =>
    Calls Try.prog 28 #[(.int .i64 x4)] w3 fun e w5 => ∃ t6 : Bool, e = .returned (.bool t6) ∧ Keep [bm0] w3 w5 ∧
    brB (!t6) (
      R (.tuple #[(.pointer none), (.int .i64 1)]) w5)
    (
      ixA a_0 n_0 x_5 9 fun q7 =>
      ldInt .i64 w5 (Addr.add q7 1) fun x8 =>
      Calls Try.prog 28 #[(.int .i64 x8)] w5 fun e w9 => ∃ t10 : Bool, e = .returned (.bool t10) ∧ Keep [bm0] w5 w9 ∧
      brB (!t10) (
        R (.tuple #[(.pointer none), (.int .i64 1)]) w9)
      (
        brB (decide (x_5 > 0)) (
          ixA a_0 n_0 x_5 9 fun q11 =>
          ldInt .i64 w9 q11 fun x12 =>
          ixA a_0 n_0 (IntKind.wrap .i64 (x_5 - 1)) 9 fun q13 =>
          ldInt .i64 w9 q13 fun x14 =>
          brB (decide (x12 ≤ x14)) (
            R (.tuple #[(.pointer none), (.int .i64 1)]) w9)
          (
            ixA a_0 n_0 x_5 9 fun q15 =>
            ldInt .i64 w9 (Addr.add q15 3) fun x16 => ldInt .i64 w9 (Addr.add (Addr.add q15 3) 1) fun x17 => ldInt .i64 w9 (Addr.add (Addr.add q15 3) 2) fun x18 => ldInt .i64 w9 (Addr.add (Addr.add q15 3) 3) fun x19 => ldSlice w9 (Addr.add (Addr.add q15 3) 4) fun a20 n21 c22 => ldSlice w9 (Addr.add (Addr.add q15 3) 5) fun a23 n24 c25 =>
            Calls Try.prog 29 #[(.agg #[(.int .i64 x16), (.int .i64 x17), (.int .i64 x18), (.int .i64 x19), (.slice a20 n21 c22), (.slice a23 n24 c25)])] w9 fun e w26 => ∃ x27 : Int, e = .returned (.int .i64 x27) ∧ Keep [bm0] w9 w26 ∧
            brB (x27 != 0) (
              R (.tuple #[(.pointer none), (.int .i64 1)]) w26)
            (
              ixA a_0 n_0 x_5 9 fun q28 =>
              ldBool w26 (Addr.add q28 2) fun t29 =>
              brB (!t29) (
                ixA a_0 n_0 x_5 9 fun q30 =>
                ldInt .i64 w26 (Addr.add q30 3) fun x31 => ldInt .i64 w26 (Addr.add (Addr.add q30 3) 1) fun x32 => ldInt .i64 w26 (Addr.add (Addr.add q30 3) 2) fun x33 => ldInt .i64 w26 (Addr.add (Addr.add q30 3) 3) fun x34 => ldSlice w26 (Addr.add (Addr.add q30 3) 4) fun a35 n36 c37 => ldSlice w26 (Addr.add (Addr.add q30 3) 5) fun a38 n39 c40 =>
                Calls Try.prog 19 #[(.agg #[(.int .i64 x31), (.int .i64 x32), (.int .i64 x33), (.int .i64 x34), (.slice a35 n36 c37), (.slice a38 n39 c40)]), (.agg #[(.int .i64 0), (.int .i64 0), (.int .i64 0), (.int .i64 0), (.slice none 0 0), (.slice none 0 0)])] w26 fun e w41 => ∃ t42 : Bool, e = .returned (.bool t42) ∧ Keep [bm0] w26 w41 ∧
                brB (!t42) (
                  R (.tuple #[(.pointer none), (.int .i64 1)]) w41)
                (
                  cutD3 ref15_Load_la2 ((dnF Try.prog ref15_Load_an (code Try.f11) 392 [1, 1, 0, 0, 1, 0, 0, 1, 0, 1, 1, 1]) (kont3 Try.prog ref15_Load_an (code Try.f11) [1, 1, 1, 0, 1, 0, 0, 1, 0, 0, 1] [K1] (post3 Try.prog Try.f11 [] R))) (ref15_Load_v2 a_0 n_0 c_0 x_5 bm0) (ref15_Load_m2 bm0 a_m0_0 n_m0_0 c_m0_0) w41))
              (
                cutD3 ref15_Load_la2 ((dnF Try.prog ref15_Load_an (code Try.f11) 392 [1, 1, 0, 0, 1, 0, 0, 1, 0, 1, 1, 1]) (kont3 Try.prog ref15_Load_an (code Try.f11) [1, 1, 1, 0, 1, 0, 0, 1, 0, 0, 1] [K1] (post3 Try.prog Try.f11 [] R))) (ref15_Load_v2 a_0 n_0 c_0 x_5 bm0) (ref15_Load_m2 bm0 a_m0_0 n_m0_0 c_m0_0) w26))))
        (
          ixA a_0 n_0 x_5 9 fun q79 =>
          ldInt .i64 w9 (Addr.add q79 3) fun x80 => ldInt .i64 w9 (Addr.add (Addr.add q79 3) 1) fun x81 => ldInt .i64 w9 (Addr.add (Addr.add q79 3) 2) fun x82 => ldInt .i64 w9 (Addr.add (Addr.add q79 3) 3) fun x83 => ldSlice w9 (Addr.add (Addr.add q79 3) 4) fun a84 n85 c86 => ldSlice w9 (Addr.add (Addr.add q79 3) 5) fun a87 n88 c89 =>
          Calls Try.prog 29 #[(.agg #[(.int .i64 x80), (.int .i64 x81), (.int .i64 x82), (.int .i64 x83), (.slice a84 n85 c86), (.slice a87 n88 c89)])] w9 fun e w90 => ∃ x91 : Int, e = .returned (.int .i64 x91) ∧ Keep [bm0] w9 w90 ∧
          brB (x91 != 0) (
            R (.tuple #[(.pointer none), (.int .i64 1)]) w90)
          (
            ixA a_0 n_0 x_5 9 fun q92 =>
            ldBool w90 (Addr.add q92 2) fun t93 =>
            brB (!t93) (
              ixA a_0 n_0 x_5 9 fun q94 =>
              ldInt .i64 w90 (Addr.add q94 3) fun x95 => ldInt .i64 w90 (Addr.add (Addr.add q94 3) 1) fun x96 => ldInt .i64 w90 (Addr.add (Addr.add q94 3) 2) fun x97 => ldInt .i64 w90 (Addr.add (Addr.add q94 3) 3) fun x98 => ldSlice w90 (Addr.add (Addr.add q94 3) 4) fun a99 n100 c101 => ldSlice w90 (Addr.add (Addr.add q94 3) 5) fun a102 n103 c104 =>
              Calls Try.prog 19 #[(.agg #[(.int .i64 x95), (.int .i64 x96), (.int .i64 x97), (.int .i64 x98), (.slice a99 n100 c101), (.slice a102 n103 c104)]), (.agg #[(.int .i64 0), (.int .i64 0), (.int .i64 0), (.int .i64 0), (.slice none 0 0), (.slice none 0 0)])] w90 fun e w105 => ∃ t106 : Bool, e = .returned (.bool t106) ∧ Keep [bm0] w90 w105 ∧
              brB (!t106) (
                R (.tuple #[(.pointer none), (.int .i64 1)]) w105)
              (
                cutD3 ref15_Load_la2 ((dnF Try.prog ref15_Load_an (code Try.f11) 392 [1, 1, 0, 0, 1, 0, 0, 1, 0, 1, 1, 1]) (kont3 Try.prog ref15_Load_an (code Try.f11) [1, 1, 1, 0, 1, 0, 0, 1, 0, 0, 1] [K1] (post3 Try.prog Try.f11 [] R))) (ref15_Load_v2 a_0 n_0 c_0 x_5 bm0) (ref15_Load_m2 bm0 a_m0_0 n_m0_0 c_m0_0) w105))
            (
              cutD3 ref15_Load_la2 ((dnF Try.prog ref15_Load_an (code Try.f11) 392 [1, 1, 0, 0, 1, 0, 0, 1, 0, 1, 1, 1]) (kont3 Try.prog ref15_Load_an (code Try.f11) [1, 1, 1, 0, 1, 0, 0, 1, 0, 0, 1] [K1] (post3 Try.prog Try.f11 [] R))) (ref15_Load_v2 a_0 n_0 c_0 x_5 bm0) (ref15_Load_m2 bm0 a_m0_0 n_m0_0 c_m0_0) w90))))))
  (
    ∀ w107, Adv [] [] w w107 → w107.heap[bm0]? = some (.cells #[(.slice a_m0_0 n_m0_0 c_m0_0)] 56) →
    R (.tuple #[(.pointer (some ⟨bm0, 0, none⟩)), (.int .i64 0)]) w107)
theorem ref15_Load_L1_eq (a_0 : Option Addr) (n_0 : Nat) (c_0 : Nat) (bm0 : Nat) (x_5 : Int) (a_m0_0 : Option Addr) (n_m0_0 : Nat) (c_m0_0 : Nat) (K1 : Kh) (js : Nat → Value) (R : Value → World → Prop) (w : World) :
    headA ref15_Load_la1 ((dnF Try.prog ref15_Load_an (code Try.f11) 395 [0, 0, 1, 0, 1, 1, 1]) (kthen3 (atA ref15_Load_la1 K1) (kont3 Try.prog ref15_Load_an (code Try.f11) [1, 1, 1, 0, 1, 0] [] (post3 Try.prog Try.f11 [] R)))) (ref15_Load_v1 a_0 n_0 c_0 bm0 x_5) js (ref15_Load_m1 bm0 a_m0_0 n_m0_0 c_m0_0) w = ref15_Load_L1 a_0 n_0 c_0 bm0 x_5 a_m0_0 n_m0_0 c_m0_0 K1 R w := by kernel_rfl
def ref15_Load_K1 (a_0 : Option Addr) (n_0 : Nat) (c_0 : Nat) (bm0 : Nat) (I : Nat → Int → Option Addr → Nat → Nat → World → Prop) (m : Nat) (vals : List Value) (mem : List TB) (w : World) : Prop := ∃ m', m' < m ∧ ∃ x_5 a_m0_0 n_m0_0 c_m0_0, vals = (ref15_Load_v1 a_0 n_0 c_0 bm0 x_5) ∧ mem = (ref15_Load_m1 bm0 a_m0_0 n_m0_0 c_m0_0) ∧ I m' x_5 a_m0_0 n_m0_0 c_m0_0 w
theorem ref15_Load_leaf1 {a_0 : Option Addr} {n_0 : Nat} {c_0 : Nat} {bm0 : Nat} {I : Nat → Int → Option Addr → Nat → Nat → World → Prop} {m : Nat} {x_5 : Int} {a_m0_0 : Option Addr} {n_m0_0 : Nat} {c_m0_0 : Nat} {w : World} (m' : Nat) (h1 : m' < m) (h2 : I m' x_5 a_m0_0 n_m0_0 c_m0_0 w) : ref15_Load_K1 a_0 n_0 c_0 bm0 I m (ref15_Load_v1 a_0 n_0 c_0 bm0 x_5) (ref15_Load_m1 bm0 a_m0_0 n_m0_0 c_m0_0) w := ⟨m', h1, _, _, _, _, rfl, rfl, h2⟩
theorem ref15_Load_rule1 {a_0 : Option Addr} {n_0 : Nat} {c_0 : Nat} {bm0 : Nat} {x_50 : Int} {a_m0_00 : Option Addr} {n_m0_00 : Nat} {c_m0_00 : Nat} {R : Value → World → Prop} {w0 : World} (I : Nat → Int → Option Addr → Nat → Nat → World → Prop) (m0 : Nat) (h0 : I m0 x_50 a_m0_00 n_m0_00 c_m0_00 w0)
    (hr : ∀ (m : Nat) (x_5 : Int) (a_m0_0 : Option Addr) (n_m0_0 : Nat) (c_m0_0 : Nat) (w : World), I m x_5 a_m0_0 n_m0_0 c_m0_0 w → ref15_Load_L1 a_0 n_0 c_0 bm0 x_5 a_m0_0 n_m0_0 c_m0_0 (ref15_Load_K1 a_0 n_0 c_0 bm0 I m) R w) :
    loopD3 ref15_Load_la1 (dnF Try.prog ref15_Load_an (code Try.f11) 395 [0, 0, 1, 0, 1, 1, 1]) (kont3 Try.prog ref15_Load_an (code Try.f11) [1, 1, 1, 0, 1, 0] [] (post3 Try.prog Try.f11 [] R)) (ref15_Load_v1 a_0 n_0 c_0 bm0 x_50) (ref15_Load_m1 bm0 a_m0_00 n_m0_00 c_m0_00) w0 := by
  refine ⟨fun m vals mem w => ∃ x_5 a_m0_0 n_m0_0 c_m0_0, vals = (ref15_Load_v1 a_0 n_0 c_0 bm0 x_5) ∧ mem = (ref15_Load_m1 bm0 a_m0_0 n_m0_0 c_m0_0) ∧ I m x_5 a_m0_0 n_m0_0 c_m0_0 w, m0, ⟨_, _, _, _, rfl, rfl, h0⟩, ?_⟩
  rintro m vals mem w ⟨x_5, a_m0_0, n_m0_0, c_m0_0, rfl, rfl, hI⟩
  refine ⟨rfl, rfl, fun js => ?_⟩
  have h := hr m x_5 a_m0_0 n_m0_0 c_m0_0 w hI
  rw [← ref15_Load_L1_eq _ _ _ _ _ _ _ _ _ js] at h
  exact h
def ref15_Load_C2 (a_0 : Option Addr) (n_0 : Nat) (c_0 : Nat) (x_5 : Int) (bm0 : Nat) (a_m0_0 : Option Addr) (n_m0_0 : Nat) (c_m0_0 : Nat) (K1 : Kh) (R : Value → World → Prop) (w : World) : Prop :=
  ixA a_0 n_0 x_5 9 fun q43 =>
  ∀ w44, Adv [] [] w w44 →
  ldInt .i64 w44 q43 fun x45 => ldInt .i64 w44 (Addr.add q43 1) fun x46 => ldBool w44 (Addr.add q43 2) fun t47 => ldInt .i64 w44 (Addr.add q43 3) fun x48 => ldInt .i64 w44 (Addr.add q43 4) fun x49 => ldInt .i64 w44 (Addr.add q43 5) fun x50 => ldInt .i64 w44 (Addr.add q43 6) fun x51 => ldSlice w44 (Addr.add q43 7) fun a52 n53 c54 => ldSlice w44 (Addr.add q43 8) fun a55 n56 c57 =>
  Calls Try.prog 30 #[(.agg #[(.int .i64 x45), (.int .i64 x46), (.bool t47), (.int .i64 x48), (.int .i64 x49), (.int .i64 x50), (.int .i64 x51), (.slice a52 n53 c54), (.slice a55 n56 c57)])] w44 fun e w58 => ∃ x59 : Int, ∃ x60 : Int, ∃ t61 : Bool, ∃ x62 : Int, ∃ x63 : Int, ∃ x64 : Int, ∃ x65 : Int, ∃ (a66 : Option Addr) (n67 c68 : Nat), ∃ (a69 : Option Addr) (n70 c71 : Nat), e = .returned (.agg #[(.int .i64 x59), (.int .i64 x60), (.bool t61), (.int .i64 x62), (.int .i64 x63), (.int .i64 x64), (.int .i64 x65), (.slice a66 n67 c68), (.slice a69 n70 c71)]) ∧ Keep [bm0] w44 w58 ∧ (((.slice a_m0_0 n_m0_0 c_m0_0) : Value) = (.slice a_m0_0 n_m0_0 c_m0_0)) ∧
  al w58 (.cells #[(.int .i64 x59), (.int .i64 x60), (.bool t61), (.int .i64 x62), (.int .i64 x63), (.int .i64 x64), (.int .i64 x65), (.slice a66 n67 c68), (.slice a69 n70 c71)] 29) fun b72 w73 =>
  effSl Try.prog (Builtin.append_ #[22, 22] 22 #[(.slice a_m0_0 n_m0_0 c_m0_0), (.slice (some ⟨b72, 0, none⟩) 1 1)]) w73 fun a75 n76 c77 w74 => Keep [bm0] w73 w74 ∧
  ∀ w78, Adv [bm0] [] w74 w78 →
  K1 (ref15_Load_v1 a_0 n_0 c_0 bm0 (IntKind.wrap .i64 (x_5 + 1))) (ref15_Load_m1 bm0 a75 n76 c77) w78
theorem ref15_Load_C2_eq (a_0 : Option Addr) (n_0 : Nat) (c_0 : Nat) (x_5 : Int) (bm0 : Nat) (a_m0_0 : Option Addr) (n_m0_0 : Nat) (c_m0_0 : Nat) (K1 : Kh) (js : Nat → Value) (R : Value → World → Prop) (w : World) :
    headA ref15_Load_la2 ((dnF Try.prog ref15_Load_an (code Try.f11) 392 [1, 1, 0, 0, 1, 0, 0, 1, 0, 1, 1, 1]) (kont3 Try.prog ref15_Load_an (code Try.f11) [1, 1, 1, 0, 1, 0, 0, 1, 0, 0, 1] [K1] (post3 Try.prog Try.f11 [] R))) (ref15_Load_v2 a_0 n_0 c_0 x_5 bm0) js (ref15_Load_m2 bm0 a_m0_0 n_m0_0 c_m0_0) w = ref15_Load_C2 a_0 n_0 c_0 x_5 bm0 a_m0_0 n_m0_0 c_m0_0 K1 R w := by kernel_rfl
theorem ref15_Load_cut2 {a_00 : Option Addr} {n_00 : Nat} {c_00 : Nat} {x_50 : Int} {bm00 : Nat} {a_m0_00 : Option Addr} {n_m0_00 : Nat} {c_m0_00 : Nat} {K1 : Kh} {R : Value → World → Prop} {w0 : World} (J : Option Addr → Nat → Nat → Int → Nat → Option Addr → Nat → Nat → World → Prop) (h0 : J a_00 n_00 c_00 x_50 bm00 a_m0_00 n_m0_00 c_m0_00 w0)
    (hr : ∀ (a_0 : Option Addr) (n_0 : Nat) (c_0 : Nat) (x_5 : Int) (bm0 : Nat) (a_m0_0 : Option Addr) (n_m0_0 : Nat) (c_m0_0 : Nat) (w : World), J a_0 n_0 c_0 x_5 bm0 a_m0_0 n_m0_0 c_m0_0 w → ref15_Load_C2 a_0 n_0 c_0 x_5 bm0 a_m0_0 n_m0_0 c_m0_0 K1 R w) :
    cutD3 ref15_Load_la2 ((dnF Try.prog ref15_Load_an (code Try.f11) 392 [1, 1, 0, 0, 1, 0, 0, 1, 0, 1, 1, 1]) (kont3 Try.prog ref15_Load_an (code Try.f11) [1, 1, 1, 0, 1, 0, 0, 1, 0, 0, 1] [K1] (post3 Try.prog Try.f11 [] R))) (ref15_Load_v2 a_00 n_00 c_00 x_50 bm00) (ref15_Load_m2 bm00 a_m0_00 n_m0_00 c_m0_00) w0 := by
  refine ⟨fun vals mem w => ∃ a_0 n_0 c_0 x_5 bm0 a_m0_0 n_m0_0 c_m0_0, vals = (ref15_Load_v2 a_0 n_0 c_0 x_5 bm0) ∧ mem = (ref15_Load_m2 bm0 a_m0_0 n_m0_0 c_m0_0) ∧ J a_0 n_0 c_0 x_5 bm0 a_m0_0 n_m0_0 c_m0_0 w, ⟨_, _, _, _, _, _, _, _, rfl, rfl, h0⟩, ?_⟩
  rintro vals mem w ⟨a_0, n_0, c_0, x_5, bm0, a_m0_0, n_m0_0, c_m0_0, rfl, rfl, hJ⟩
  refine ⟨rfl, rfl, fun js => ?_⟩
  have h := hr a_0 n_0 c_0 x_5 bm0 a_m0_0 n_m0_0 c_m0_0 w hJ
  rw [← ref15_Load_C2_eq _ _ _ _ _ _ _ _ _ js] at h
  exact h
/-- stagecoach/stagecoachref15.Load -/
def ref15_Load_T (a0_l_a : Option Addr) (a0_l_n : Nat) (a0_l_c : Nat) (R : Value → World → Prop) (w : World) : Prop :=
  brB (decide ((a0_l_n : Int) > 16)) (
    R (.tuple #[(.pointer none), (.int .i64 2)]) w)
  (
    ∀ b1, w.heap.size ≤ b1 →
    ∀ w108, Adv [] [b1] w w108 →
    loopD3 ref15_Load_la1 (dnF Try.prog ref15_Load_an (code Try.f11) 395 [0, 0, 1, 0, 1, 1, 1]) (kont3 Try.prog ref15_Load_an (code Try.f11) [1, 1, 1, 0, 1, 0] [] (post3 Try.prog Try.f11 [] R)) (ref15_Load_v1 a0_l_a a0_l_n a0_l_c b1 0) (ref15_Load_m1 b1 none 0 0) w108)
theorem ref15_Load_eq (a0_l_a : Option Addr) (a0_l_n : Nat) (a0_l_c : Nat) (R : Value → World → Prop) (w : World) :
    dnF Try.prog ref15_Load_an (code Try.f11) 400 [] (post3 Try.prog Try.f11 [] R) ⟨args0 0 [(.slice a0_l_a a0_l_n a0_l_c)], fun _ => undef⟩ ⟨[], w, [], [], true⟩ = ref15_Load_T a0_l_a a0_l_n a0_l_c R w := by kernel_rfl
theorem ref15_Load_go {a0_l_a : Option Addr} {a0_l_n : Nat} {a0_l_c : Nat} {R : Value → World → Prop} {w : World} (h : ref15_Load_T a0_l_a a0_l_n a0_l_c R w) :
    Calls Try.prog 11 #[(.slice a0_l_a a0_l_n a0_l_c)] w fun e w' => ∃ v, e = .returned v ∧ R v w' :=
  calls_none Try.wide_mixed (f := 11) (args := [(.slice a0_l_a a0_l_n a0_l_c)]) Try.func11 rfl rfl (by kernel_rfl) rfl (Eq.mpr (ref15_Load_eq a0_l_a a0_l_n a0_l_c R w) h)
def ref15_Table_place_la1 : LA := ⟨[0, 0, 1, 0, 1], [0, 1, 5], [(0, 0, 0)], 1, []⟩
def ref15_Table_place_an : List LA := [ref15_Table_place_la1]
def ref15_Table_place_v1 (x_1 : Int) (bm0 : Nat) (x_5 : Int) : List Value := [(.pointer (some ⟨bm0, 0, none⟩)), (.int .i64 x_1), (.int .i64 x_5)]
def ref15_Table_place_m1 (bm0 : Nat) (a_m0_0 : Option Addr) (n_m0_0 : Nat) (c_m0_0 : Nat) : List TB := [⟨bm0, 56, [(.slice a_m0_0 n_m0_0 c_m0_0)], false⟩]
def ref15_Table_place_L1 (x_1 : Int) (bm0 : Nat) (a_m0_0 : Option Addr) (n_m0_0 : Nat) (c_m0_0 : Nat) (x_5 : Int) (K1 : Kh) (R : Value → World → Prop) (w : World) : Prop :=
  brB (decide (x_5 < (n_m0_0 : Int))) (
    ixA a_m0_0 n_m0_0 x_5 9 fun q1 =>
    ldInt .i64 w q1 fun x2 =>
    brB (x2 == x_1) (
      ∀ w3, Adv [] [] w w3 → w3.heap[bm0]? = some (.cells #[(.slice a_m0_0 n_m0_0 c_m0_0)] 56) →
      R (.int .i64 x_5) w3)
    (
      K1 (ref15_Table_place_v1 x_1 bm0 (IntKind.wrap .i64 (x_5 + 1))) (ref15_Table_place_m1 bm0 a_m0_0 n_m0_0 c_m0_0) w))
  (
    ∀ w4, Adv [] [] w w4 → w4.heap[bm0]? = some (.cells #[(.slice a_m0_0 n_m0_0 c_m0_0)] 56) →
    R (.int .i64 (-1)) w4)
theorem ref15_Table_place_L1_eq (x_1 : Int) (bm0 : Nat) (a_m0_0 : Option Addr) (n_m0_0 : Nat) (c_m0_0 : Nat) (x_5 : Int) (K1 : Kh) (js : Nat → Value) (R : Value → World → Prop) (w : World) :
    headA ref15_Table_place_la1 ((dnF Try.prog ref15_Table_place_an (code Try.f35) 397 [0, 0, 1, 0, 1]) (kthen3 (atA ref15_Table_place_la1 K1) (kont3 Try.prog ref15_Table_place_an (code Try.f35) [1, 0, 1, 0] [] (post3 Try.prog Try.f35 [0] R)))) (ref15_Table_place_v1 x_1 bm0 x_5) js (ref15_Table_place_m1 bm0 a_m0_0 n_m0_0 c_m0_0) w = ref15_Table_place_L1 x_1 bm0 a_m0_0 n_m0_0 c_m0_0 x_5 K1 R w := by kernel_rfl
def ref15_Table_place_K1 (x_1 : Int) (bm0 : Nat) (a_m0_0 : Option Addr) (n_m0_0 : Nat) (c_m0_0 : Nat) (I : Nat → Int → World → Prop) (m : Nat) (vals : List Value) (mem : List TB) (w : World) : Prop := ∃ m', m' < m ∧ ∃ x_5, vals = (ref15_Table_place_v1 x_1 bm0 x_5) ∧ mem = (ref15_Table_place_m1 bm0 a_m0_0 n_m0_0 c_m0_0) ∧ I m' x_5 w
theorem ref15_Table_place_leaf1 {x_1 : Int} {bm0 : Nat} {a_m0_0 : Option Addr} {n_m0_0 : Nat} {c_m0_0 : Nat} {I : Nat → Int → World → Prop} {m : Nat} {x_5 : Int} {w : World} (m' : Nat) (h1 : m' < m) (h2 : I m' x_5 w) : ref15_Table_place_K1 x_1 bm0 a_m0_0 n_m0_0 c_m0_0 I m (ref15_Table_place_v1 x_1 bm0 x_5) (ref15_Table_place_m1 bm0 a_m0_0 n_m0_0 c_m0_0) w := ⟨m', h1, _, rfl, rfl, h2⟩
theorem ref15_Table_place_rule1 {x_1 : Int} {bm0 : Nat} {a_m0_0 : Option Addr} {n_m0_0 : Nat} {c_m0_0 : Nat} {x_50 : Int} {R : Value → World → Prop} {w0 : World} (I : Nat → Int → World → Prop) (m0 : Nat) (h0 : I m0 x_50 w0)
    (hr : ∀ (m : Nat) (x_5 : Int) (w : World), I m x_5 w → ref15_Table_place_L1 x_1 bm0 a_m0_0 n_m0_0 c_m0_0 x_5 (ref15_Table_place_K1 x_1 bm0 a_m0_0 n_m0_0 c_m0_0 I m) R w) :
    loopD3 ref15_Table_place_la1 (dnF Try.prog ref15_Table_place_an (code Try.f35) 397 [0, 0, 1, 0, 1]) (kont3 Try.prog ref15_Table_place_an (code Try.f35) [1, 0, 1, 0] [] (post3 Try.prog Try.f35 [0] R)) (ref15_Table_place_v1 x_1 bm0 x_50) (ref15_Table_place_m1 bm0 a_m0_0 n_m0_0 c_m0_0) w0 := by
  refine ⟨fun m vals mem w => ∃ x_5, vals = (ref15_Table_place_v1 x_1 bm0 x_5) ∧ mem = (ref15_Table_place_m1 bm0 a_m0_0 n_m0_0 c_m0_0) ∧ I m x_5 w, m0, ⟨_, rfl, rfl, h0⟩, ?_⟩
  rintro m vals mem w ⟨x_5, rfl, rfl, hI⟩
  refine ⟨rfl, rfl, fun js => ?_⟩
  have h := hr m x_5 w hI
  rw [← ref15_Table_place_L1_eq _ _ _ _ _ _ _ js] at h
  exact h
/-- (*stagecoach/stagecoachref15.Table).place -/
def ref15_Table_place_T (b0 : Nat) (o0_a : Option Addr) (o0_n : Nat) (o0_c : Nat) (a1_client : Int) (R : Value → World → Prop) (w : World) : Prop :=
  loopD3 ref15_Table_place_la1 (dnF Try.prog ref15_Table_place_an (code Try.f35) 397 [0, 0, 1, 0, 1]) (kont3 Try.prog ref15_Table_place_an (code Try.f35) [1, 0, 1, 0] [] (post3 Try.prog Try.f35 [0] R)) (ref15_Table_place_v1 a1_client b0 0) (ref15_Table_place_m1 b0 o0_a o0_n o0_c) w
theorem ref15_Table_place_eq (b0 : Nat) (o0_a : Option Addr) (o0_n : Nat) (o0_c : Nat) (a1_client : Int) (R : Value → World → Prop) (w : World) :
    dnF Try.prog ref15_Table_place_an (code Try.f35) 400 [] (post3 Try.prog Try.f35 [0] R) ⟨(0, .pointer (some ⟨b0, 0, none⟩), some (0, 0)) :: args0 1 [(.int .i64 a1_client)], fun _ => undef⟩ ⟨[⟨b0, 56, [(.slice o0_a o0_n o0_c)], false⟩], w, [], [], true⟩ = ref15_Table_place_T b0 o0_a o0_n o0_c a1_client R w := by kernel_rfl
theorem ref15_Table_place_go {b0 : Nat} {o0_a : Option Addr} {o0_n : Nat} {o0_c : Nat} {a1_client : Int} {R : Value → World → Prop} {w : World} (hb : w.heap[b0]? = some (.cells #[(.slice o0_a o0_n o0_c)] 56)) (h : ref15_Table_place_T b0 o0_a o0_n o0_c a1_client R w) :
    Calls Try.prog 35 #[(.pointer (some ⟨b0, 0, none⟩)), (.int .i64 a1_client)] w fun e w' => ∃ v, e = .returned v ∧ R v w' :=
  calls_one Try.wide_mixed (f := 35) (args := [(.int .i64 a1_client)]) Try.func35 rfl rfl (by kernel_rfl) rfl hb (Eq.mpr (ref15_Table_place_eq b0 o0_a o0_n o0_c a1_client R w) h)
def ref15_Table_Ask_an : List LA := []
/-- (*stagecoach/stagecoachref15.Table).Ask -/
def ref15_Table_Ask_T (b0 : Nat) (o0_a : Option Addr) (o0_n : Nat) (o0_c : Nat) (a1_client : Int) (a2_n : Int) (R : Value → World → Prop) (w : World) : Prop :=
  ∀ b1, w.heap.size ≤ b1 →
  ∀ w2, Adv [] [b1] w w2 →
  Calls Try.prog 28 #[(.int .i64 a1_client)] w2 fun e w3 => ∃ t4 : Bool, e = .returned (.bool t4) ∧ Keep [b0, b1] w2 w3 ∧
  brB (!t4) (
    ∀ w5, Adv [b1] [] w3 w5 → w5.heap[b0]? = some (.cells #[(.slice o0_a o0_n o0_c)] 56) →
    R (.tuple #[(.int .i64 0), (.agg #[(.int .i64 0), (.int .i64 0), (.int .i64 0), (.int .i64 0), (.slice none 0 0), (.slice none 0 0)]), (.int .i64 1)]) w5)
  (
    Calls Try.prog 28 #[(.int .i64 a2_n)] w3 fun e w6 => ∃ t7 : Bool, e = .returned (.bool t7) ∧ Keep [b0, b1] w3 w6 ∧
    brB (!t7) (
      ∀ w8, Adv [b1] [] w6 w8 → w8.heap[b0]? = some (.cells #[(.slice o0_a o0_n o0_c)] 56) →
      R (.tuple #[(.int .i64 0), (.agg #[(.int .i64 0), (.int .i64 0), (.int .i64 0), (.int .i64 0), (.slice none 0 0), (.slice none 0 0)]), (.int .i64 1)]) w8)
    (
      ∀ w9, Adv [] [] w6 w9 → w9.heap[b0]? = some (.cells #[(.slice o0_a o0_n o0_c)] 56) →
      Calls Try.prog 35 #[(.pointer (some ⟨b0, 0, none⟩)), (.int .i64 a1_client)] w9 fun e w10 => ∃ x11 : Int, e = .returned (.int .i64 x11) ∧ Keep [b1] w9 w10 ∧ ∃ (a12 : Option Addr) (n13 c14 : Nat), w10.heap[b0]? = some (.cells #[(.slice a12 n13 c14)] 56) ∧
      brB (decide (x11 < 0)) (
        ∀ w15, Adv [b1] [] w10 w15 → w15.heap[b0]? = some (.cells #[(.slice a12 n13 c14)] 56) →
        R (.tuple #[(.int .i64 0), (.agg #[(.int .i64 0), (.int .i64 0), (.int .i64 0), (.int .i64 0), (.slice none 0 0), (.slice none 0 0)]), (.int .i64 0)]) w15)
      (
        ixA a12 n13 x11 9 fun q16 =>
        ldInt .i64 w10 (Addr.add q16 1) fun x17 =>
        brB (decide (x17 < a2_n)) (
          ∀ w18, Adv [b1] [] w10 w18 → w18.heap[b0]? = some (.cells #[(.slice a12 n13 c14)] 56) →
          R (.tuple #[(.int .i64 0), (.agg #[(.int .i64 0), (.int .i64 0), (.int .i64 0), (.int .i64 0), (.slice none 0 0), (.slice none 0 0)]), (.int .i64 0)]) w18)
        (
          ixA a12 n13 x11 9 fun q19 =>
          ldInt .i64 w10 (Addr.add q19 1) fun x20 =>
          brB (decide (x20 > a2_n)) (
            ∀ w21, Adv [b1] [] w10 w21 → w21.heap[b0]? = some (.cells #[(.slice a12 n13 c14)] 56) →
            R (.tuple #[(.int .i64 0), (.agg #[(.int .i64 0), (.int .i64 0), (.int .i64 0), (.int .i64 0), (.slice none 0 0), (.slice none 0 0)]), (.int .i64 150)]) w21)
          (
            ixA a12 n13 x11 9 fun q22 =>
            ldBool w10 (Addr.add q22 2) fun t23 =>
            brB t23 (
              ixA a12 n13 x11 9 fun q24 =>
              ldInt .i64 w10 (Addr.add q24 3) fun x25 => ldInt .i64 w10 (Addr.add (Addr.add q24 3) 1) fun x26 => ldInt .i64 w10 (Addr.add (Addr.add q24 3) 2) fun x27 => ldInt .i64 w10 (Addr.add (Addr.add q24 3) 3) fun x28 => ldSlice w10 (Addr.add (Addr.add q24 3) 4) fun a29 n30 c31 => ldSlice w10 (Addr.add (Addr.add q24 3) 5) fun a32 n33 c34 =>
              Calls Try.prog 36 #[(.agg #[(.int .i64 x25), (.int .i64 x26), (.int .i64 x27), (.int .i64 x28), (.slice a29 n30 c31), (.slice a32 n33 c34)])] w10 fun e w35 => ∃ x36 : Int, ∃ x37 : Int, ∃ x38 : Int, ∃ x39 : Int, ∃ (a40 : Option Addr) (n41 c42 : Nat), ∃ (a43 : Option Addr) (n44 c45 : Nat), e = .returned (.agg #[(.int .i64 x36), (.int .i64 x37), (.int .i64 x38), (.int .i64 x39), (.slice a40 n41 c42), (.slice a43 n44 c45)]) ∧ Keep [b1] w10 w35 ∧ ∃ (a46 : Option Addr) (n47 c48 : Nat), w35.heap[b0]? = some (.cells #[(.slice a46 n47 c48)] 56) ∧
              ∀ w49, Adv [b1] [] w35 w49 → w49.heap[b0]? = some (.cells #[(.slice a46 n47 c48)] 56) →
              R (.tuple #[(.int .i64 1), (.agg #[(.int .i64 x36), (.int .i64 x37), (.int .i64 x38), (.int .i64 x39), (.slice a40 n41 c42), (.slice a43 n44 c45)]), (.int .i64 0)]) w49)
            (
              ∀ w50, Adv [b1] [] w10 w50 → w50.heap[b0]? = some (.cells #[(.slice a12 n13 c14)] 56) →
              R (.tuple #[(.int .i64 2), (.agg #[(.int .i64 0), (.int .i64 0), (.int .i64 0), (.int .i64 0), (.slice none 0 0), (.slice none 0 0)]), (.int .i64 0)]) w50))))))
theorem ref15_Table_Ask_eq (b0 : Nat) (o0_a : Option Addr) (o0_n : Nat) (o0_c : Nat) (a1_client : Int) (a2_n : Int) (R : Value → World → Prop) (w : World) :
    dnF Try.prog ref15_Table_Ask_an (code Try.f23) 400 [] (post3 Try.prog Try.f23 [0] R) ⟨(0, .pointer (some ⟨b0, 0, none⟩), some (0, 0)) :: args0 1 [(.int .i64 a1_client), (.int .i64 a2_n)], fun _ => undef⟩ ⟨[⟨b0, 56, [(.slice o0_a o0_n o0_c)], false⟩], w, [], [], true⟩ = ref15_Table_Ask_T b0 o0_a o0_n o0_c a1_client a2_n R w := by kernel_rfl
theorem ref15_Table_Ask_go {b0 : Nat} {o0_a : Option Addr} {o0_n : Nat} {o0_c : Nat} {a1_client : Int} {a2_n : Int} {R : Value → World → Prop} {w : World} (hb : w.heap[b0]? = some (.cells #[(.slice o0_a o0_n o0_c)] 56)) (h : ref15_Table_Ask_T b0 o0_a o0_n o0_c a1_client a2_n R w) :
    Calls Try.prog 23 #[(.pointer (some ⟨b0, 0, none⟩)), (.int .i64 a1_client), (.int .i64 a2_n)] w fun e w' => ∃ v, e = .returned v ∧ R v w' :=
  calls_one Try.wide_mixed (f := 23) (args := [(.int .i64 a1_client), (.int .i64 a2_n)]) Try.func23 rfl rfl (by kernel_rfl) rfl hb (Eq.mpr (ref15_Table_Ask_eq b0 o0_a o0_n o0_c a1_client a2_n R w) h)
def ref15_Table_Begin_la1 : LA := ⟨[0, 0, 0, 1, 1, 1, 1, 1, 1, 1], [0, 1, 2, 11], [(0, 0, 0)], 2, [0]⟩
def ref15_Table_Begin_an : List LA := [ref15_Table_Begin_la1]
def ref15_Table_Begin_v1 (x_1 : Int) (x_2 : Int) (bm0 : Nat) (x_11 : Int) : List Value := [(.pointer (some ⟨bm0, 0, none⟩)), (.int .i64 x_1), (.int .i64 x_2), (.int .i64 x_11)]
def ref15_Table_Begin_m1 (bm0 : Nat) (a_m0_0 : Option Addr) (n_m0_0 : Nat) (c_m0_0 : Nat) (bm1 : Nat) (x_m1_0 : Int) (x_m1_1 : Int) (x_m1_2 : Int) (x_m1_3 : Int) (a_m1_4 : Option Addr) (n_m1_4 : Nat) (c_m1_4 : Nat) (a_m1_5 : Option Addr) (n_m1_5 : Nat) (c_m1_5 : Nat) : List TB := [⟨bm0, 56, [(.slice a_m0_0 n_m0_0 c_m0_0)], true⟩, ⟨bm1, 27, [(.int .i64 x_m1_0), (.int .i64 x_m1_1), (.int .i64 x_m1_2), (.int .i64 x_m1_3), (.slice a_m1_4 n_m1_4 c_m1_4), (.slice a_m1_5 n_m1_5 c_m1_5)], false⟩]
def ref15_Table_Begin_L1 (x_1 : Int) (x_2 : Int) (bm0 : Nat) (a_m0_0 : Option Addr) (n_m0_0 : Nat) (c_m0_0 : Nat) (bm1 : Nat) (x_m1_0 : Int) (x_m1_1 : Int) (x_m1_2 : Int) (x_m1_3 : Int) (a_m1_4 : Option Addr) (n_m1_4 : Nat) (c_m1_4 : Nat) (a_m1_5 : Option Addr) (n_m1_5 : Nat) (c_m1_5 : Nat) (x_11 : Int) (K1 : Kh) (R : Value → World → Prop) (w : World) : Prop :=
  w.heap[bm0]? = some (.cells #[(.slice a_m0_0 n_m0_0 c_m0_0)] 56) →
  brB (decide (x_11 < (n_m0_0 : Int))) (
    ixA a_m0_0 n_m0_0 x_11 9 fun q32 =>
    ldInt .i64 w q32 fun x33 =>
    brB (decide (x33 < x_1)) (
      K1 (ref15_Table_Begin_v1 x_1 x_2 bm0 (IntKind.wrap .i64 (x_11 + 1))) (ref15_Table_Begin_m1 bm0 a_m0_0 n_m0_0 c_m0_0 bm1 x_m1_0 x_m1_1 x_m1_2 x_m1_3 a_m1_4 n_m1_4 c_m1_4 a_m1_5 n_m1_5 c_m1_5) w)
    (
      al w (.cells #[] 29) fun b34 w35 =>
      slV a_m0_0 c_m0_0 0 x_11 c_m0_0 9 fun a36 n37 c38 =>
      effSl Try.prog (Builtin.append_ #[22, 22] 22 #[(.slice (some ⟨b34, 0, none⟩) 0 0), (.slice a36 n37 c38)]) w35 fun a40 n41 c42 w39 => Keep [bm0, bm1] w35 w39 ∧
      al w39 (.cells #[(.int .i64 x_1), (.int .i64 x_2), (.bool false), (.int .i64 0), (.int .i64 0), (.int .i64 0), (.int .i64 0), (.slice none 0 0), (.slice none 0 0)] 29) fun b43 w44 =>
      effSl Try.prog (Builtin.append_ #[22, 22] 22 #[(.slice a40 n41 c42), (.slice (some ⟨b43, 0, none⟩) 1 1)]) w44 fun a46 n47 c48 w45 => Keep [bm0, bm1] w44 w45 ∧
      slV a_m0_0 c_m0_0 x_11 n_m0_0 c_m0_0 9 fun a49 n50 c51 =>
      effSl Try.prog (Builtin.append_ #[22, 22] 22 #[(.slice a46 n47 c48), (.slice a49 n50 c51)]) w45 fun a53 n54 c55 w52 => Keep [bm0, bm1] w45 w52 ∧
      ∀ w56, Adv [bm0] [] w52 w56 → w56.heap[bm0]? = some (.cells #[(.slice a53 n54 c55)] 56) →
      R (.int .i64 0) w56))
  (
    al w (.cells #[] 29) fun b57 w58 =>
    slV a_m0_0 c_m0_0 0 x_11 c_m0_0 9 fun a59 n60 c61 =>
    effSl Try.prog (Builtin.append_ #[22, 22] 22 #[(.slice (some ⟨b57, 0, none⟩) 0 0), (.slice a59 n60 c61)]) w58 fun a63 n64 c65 w62 => Keep [bm0, bm1] w58 w62 ∧
    al w62 (.cells #[(.int .i64 x_1), (.int .i64 x_2), (.bool false), (.int .i64 0), (.int .i64 0), (.int .i64 0), (.int .i64 0), (.slice none 0 0), (.slice none 0 0)] 29) fun b66 w67 =>
    effSl Try.prog (Builtin.append_ #[22, 22] 22 #[(.slice a63 n64 c65), (.slice (some ⟨b66, 0, none⟩) 1 1)]) w67 fun a69 n70 c71 w68 => Keep [bm0, bm1] w67 w68 ∧
    slV a_m0_0 c_m0_0 x_11 n_m0_0 c_m0_0 9 fun a72 n73 c74 =>
    effSl Try.prog (Builtin.append_ #[22, 22] 22 #[(.slice a69 n70 c71), (.slice a72 n73 c74)]) w68 fun a76 n77 c78 w75 => Keep [bm0, bm1] w68 w75 ∧
    ∀ w79, Adv [bm0] [] w75 w79 → w79.heap[bm0]? = some (.cells #[(.slice a76 n77 c78)] 56) →
    R (.int .i64 0) w79)
theorem ref15_Table_Begin_L1_eq (x_1 : Int) (x_2 : Int) (bm0 : Nat) (a_m0_0 : Option Addr) (n_m0_0 : Nat) (c_m0_0 : Nat) (bm1 : Nat) (x_m1_0 : Int) (x_m1_1 : Int) (x_m1_2 : Int) (x_m1_3 : Int) (a_m1_4 : Option Addr) (n_m1_4 : Nat) (c_m1_4 : Nat) (a_m1_5 : Option Addr) (n_m1_5 : Nat) (c_m1_5 : Nat) (x_11 : Int) (K1 : Kh) (js : Nat → Value) (R : Value → World → Prop) (w : World) :
    headA ref15_Table_Begin_la1 ((dnF Try.prog ref15_Table_Begin_an (code Try.f20) 392 [0, 0, 0, 1, 1, 1, 1, 1, 1, 1]) (kthen3 (atA ref15_Table_Begin_la1 K1) (kont3 Try.prog ref15_Table_Begin_an (code Try.f20) [1, 1, 1, 1, 1, 1, 1, 0, 0] [] (post3 Try.prog Try.f20 [0] R)))) (ref15_Table_Begin_v1 x_1 x_2 bm0 x_11) js (ref15_Table_Begin_m1 bm0 a_m0_0 n_m0_0 c_m0_0 bm1 x_m1_0 x_m1_1 x_m1_2 x_m1_3 a_m1_4 n_m1_4 c_m1_4 a_m1_5 n_m1_5 c_m1_5) w = ref15_Table_Begin_L1 x_1 x_2 bm0 a_m0_0 n_m0_0 c_m0_0 bm1 x_m1_0 x_m1_1 x_m1_2 x_m1_3 a_m1_4 n_m1_4 c_m1_4 a_m1_5 n_m1_5 c_m1_5 x_11 K1 R w := by kernel_rfl
def ref15_Table_Begin_K1 (x_1 : Int) (x_2 : Int) (bm0 : Nat) (a_m0_0 : Option Addr) (n_m0_0 : Nat) (c_m0_0 : Nat) (bm1 : Nat) (x_m1_0 : Int) (x_m1_1 : Int) (x_m1_2 : Int) (x_m1_3 : Int) (a_m1_4 : Option Addr) (n_m1_4 : Nat) (c_m1_4 : Nat) (a_m1_5 : Option Addr) (n_m1_5 : Nat) (c_m1_5 : Nat) (I : Nat → Int → World → Prop) (m : Nat) (vals : List Value) (mem : List TB) (w : World) : Prop := ∃ m', m' < m ∧ ∃ x_11, vals = (ref15_Table_Begin_v1 x_1 x_2 bm0 x_11) ∧ mem = (ref15_Table_Begin_m1 bm0 a_m0_0 n_m0_0 c_m0_0 bm1 x_m1_0 x_m1_1 x_m1_2 x_m1_3 a_m1_4 n_m1_4 c_m1_4 a_m1_5 n_m1_5 c_m1_5) ∧ I m' x_11 w
theorem ref15_Table_Begin_leaf1 {x_1 : Int} {x_2 : Int} {bm0 : Nat} {a_m0_0 : Option Addr} {n_m0_0 : Nat} {c_m0_0 : Nat} {bm1 : Nat} {x_m1_0 : Int} {x_m1_1 : Int} {x_m1_2 : Int} {x_m1_3 : Int} {a_m1_4 : Option Addr} {n_m1_4 : Nat} {c_m1_4 : Nat} {a_m1_5 : Option Addr} {n_m1_5 : Nat} {c_m1_5 : Nat} {I : Nat → Int → World → Prop} {m : Nat} {x_11 : Int} {w : World} (m' : Nat) (h1 : m' < m) (h2 : I m' x_11 w) : ref15_Table_Begin_K1 x_1 x_2 bm0 a_m0_0 n_m0_0 c_m0_0 bm1 x_m1_0 x_m1_1 x_m1_2 x_m1_3 a_m1_4 n_m1_4 c_m1_4 a_m1_5 n_m1_5 c_m1_5 I m (ref15_Table_Begin_v1 x_1 x_2 bm0 x_11) (ref15_Table_Begin_m1 bm0 a_m0_0 n_m0_0 c_m0_0 bm1 x_m1_0 x_m1_1 x_m1_2 x_m1_3 a_m1_4 n_m1_4 c_m1_4 a_m1_5 n_m1_5 c_m1_5) w := ⟨m', h1, _, rfl, rfl, h2⟩
theorem ref15_Table_Begin_rule1 {x_1 : Int} {x_2 : Int} {bm0 : Nat} {a_m0_0 : Option Addr} {n_m0_0 : Nat} {c_m0_0 : Nat} {bm1 : Nat} {x_m1_0 : Int} {x_m1_1 : Int} {x_m1_2 : Int} {x_m1_3 : Int} {a_m1_4 : Option Addr} {n_m1_4 : Nat} {c_m1_4 : Nat} {a_m1_5 : Option Addr} {n_m1_5 : Nat} {c_m1_5 : Nat} {x_110 : Int} {R : Value → World → Prop} {w0 : World} (I : Nat → Int → World → Prop) (m0 : Nat) (h0 : I m0 x_110 w0)
    (hr : ∀ (m : Nat) (x_11 : Int) (w : World), I m x_11 w → ref15_Table_Begin_L1 x_1 x_2 bm0 a_m0_0 n_m0_0 c_m0_0 bm1 x_m1_0 x_m1_1 x_m1_2 x_m1_3 a_m1_4 n_m1_4 c_m1_4 a_m1_5 n_m1_5 c_m1_5 x_11 (ref15_Table_Begin_K1 x_1 x_2 bm0 a_m0_0 n_m0_0 c_m0_0 bm1 x_m1_0 x_m1_1 x_m1_2 x_m1_3 a_m1_4 n_m1_4 c_m1_4 a_m1_5 n_m1_5 c_m1_5 I m) R w) :
    loopD3 ref15_Table_Begin_la1 (dnF Try.prog ref15_Table_Begin_an (code Try.f20) 392 [0, 0, 0, 1, 1, 1, 1, 1, 1, 1]) (kont3 Try.prog ref15_Table_Begin_an (code Try.f20) [1, 1, 1, 1, 1, 1, 1, 0, 0] [] (post3 Try.prog Try.f20 [0] R)) (ref15_Table_Begin_v1 x_1 x_2 bm0 x_110) (ref15_Table_Begin_m1 bm0 a_m0_0 n_m0_0 c_m0_0 bm1 x_m1_0 x_m1_1 x_m1_2 x_m1_3 a_m1_4 n_m1_4 c_m1_4 a_m1_5 n_m1_5 c_m1_5) w0 := by
  refine ⟨fun m vals mem w => ∃ x_11, vals = (ref15_Table_Begin_v1 x_1 x_2 bm0 x_11) ∧ mem = (ref15_Table_Begin_m1 bm0 a_m0_0 n_m0_0 c_m0_0 bm1 x_m1_0 x_m1_1 x_m1_2 x_m1_3 a_m1_4 n_m1_4 c_m1_4 a_m1_5 n_m1_5 c_m1_5) ∧ I m x_11 w, m0, ⟨_, rfl, rfl, h0⟩, ?_⟩
  rintro m vals mem w ⟨x_11, rfl, rfl, hI⟩
  refine ⟨rfl, rfl, fun js => ?_⟩
  have h := hr m x_11 w hI
  rw [← ref15_Table_Begin_L1_eq _ _ _ _ _ _ _ _ _ _ _ _ _ _ _ _ _ _ _ js] at h
  exact h
/-- (*stagecoach/stagecoachref15.Table).Begin -/
def ref15_Table_Begin_T (b0 : Nat) (o0_a : Option Addr) (o0_n : Nat) (o0_c : Nat) (a1_client : Int) (a2_n : Int) (R : Value → World → Prop) (w : World) : Prop :=
  ∀ w1, Adv [] [] w w1 → w1.heap[b0]? = some (.cells #[(.slice o0_a o0_n o0_c)] 56) →
  Calls Try.prog 23 #[(.pointer (some ⟨b0, 0, none⟩)), (.int .i64 a1_client), (.int .i64 a2_n)] w1 fun e w2 => ∃ x3 : Int, ∃ x4 : Int, ∃ x5 : Int, ∃ x6 : Int, ∃ x7 : Int, ∃ (a8 : Option Addr) (n9 c10 : Nat), ∃ (a11 : Option Addr) (n12 c13 : Nat), ∃ x14 : Int, e = .returned (.tuple #[(.int .i64 x3), (.agg #[(.int .i64 x4), (.int .i64 x5), (.int .i64 x6), (.int .i64 x7), (.slice a8 n9 c10), (.slice a11 n12 c13)]), (.int .i64 x14)]) ∧ ∃ (a15 : Option Addr) (n16 c17 : Nat), w2.heap[b0]? = some (.cells #[(.slice a15 n16 c17)] 56) ∧
  ∀ b18, w2.heap.size ≤ b18 →
  brB (x14 != 0) (
    ∀ w19, Adv [] [b18] w2 w19 → w19.heap[b0]? = some (.cells #[(.slice a15 n16 c17)] 56) →
    R (.int .i64 x14) w19)
  (
    brB (x3 != 0) (
      ∀ w20, Adv [] [b18] w2 w20 → w20.heap[b0]? = some (.cells #[(.slice a15 n16 c17)] 56) →
      R (.int .i64 x14) w20)
    (
      ∀ w21, Adv [] [b18] w2 w21 → w21.heap[b0]? = some (.cells #[(.slice a15 n16 c17)] 56) →
      Calls Try.prog 35 #[(.pointer (some ⟨b0, 0, none⟩)), (.int .i64 a1_client)] w21 fun e w22 => ∃ x23 : Int, e = .returned (.int .i64 x23) ∧ Keep [b18] w21 w22 ∧ ∃ (a24 : Option Addr) (n25 c26 : Nat), w22.heap[b0]? = some (.cells #[(.slice a24 n25 c26)] 56) ∧
      brB (decide (x23 ≥ 0)) (
        ixA a24 n25 x23 9 fun q27 =>
        st w22 q27 [(.int .i64 a1_client), (.int .i64 a2_n), (.bool false), (.int .i64 0), (.int .i64 0), (.int .i64 0), (.int .i64 0), (.slice none 0 0), (.slice none 0 0)] fun w28 => Keep [b18] w22 w28 ∧ ∃ (a29 : Option Addr) (n30 c31 : Nat), w28.heap[b0]? = some (.cells #[(.slice a29 n30 c31)] 56) ∧
        R (.int .i64 0) w28)
      (
        brB (decide ((n25 : Int) ≥ 16)) (
          R (.int .i64 2) w22)
        (
          loopD3 ref15_Table_Begin_la1 (dnF Try.prog ref15_Table_Begin_an (code Try.f20) 392 [0, 0, 0, 1, 1, 1, 1, 1, 1, 1]) (kont3 Try.prog ref15_Table_Begin_an (code Try.f20) [1, 1, 1, 1, 1, 1, 1, 0, 0] [] (post3 Try.prog Try.f20 [0] R)) (ref15_Table_Begin_v1 a1_client a2_n b0 0) (ref15_Table_Begin_m1 b0 a24 n25 c26 b18 x4 x5 x6 x7 a8 n9 c10 a11 n12 c13) w22))))
theorem ref15_Table_Begin_eq (b0 : Nat) (o0_a : Option Addr) (o0_n : Nat) (o0_c : Nat) (a1_client : Int) (a2_n : Int) (R : Value → World → Prop) (w : World) :
    dnF Try.prog ref15_Table_Begin_an (code Try.f20) 400 [] (post3 Try.prog Try.f20 [0] R) ⟨(0, .pointer (some ⟨b0, 0, none⟩), some (0, 0)) :: args0 1 [(.int .i64 a1_client), (.int .i64 a2_n)], fun _ => undef⟩ ⟨[⟨b0, 56, [(.slice o0_a o0_n o0_c)], false⟩], w, [], [], true⟩ = ref15_Table_Begin_T b0 o0_a o0_n o0_c a1_client a2_n R w := by kernel_rfl
theorem ref15_Table_Begin_go {b0 : Nat} {o0_a : Option Addr} {o0_n : Nat} {o0_c : Nat} {a1_client : Int} {a2_n : Int} {R : Value → World → Prop} {w : World} (hb : w.heap[b0]? = some (.cells #[(.slice o0_a o0_n o0_c)] 56)) (h : ref15_Table_Begin_T b0 o0_a o0_n o0_c a1_client a2_n R w) :
    Calls Try.prog 20 #[(.pointer (some ⟨b0, 0, none⟩)), (.int .i64 a1_client), (.int .i64 a2_n)] w fun e w' => ∃ v, e = .returned v ∧ R v w' :=
  calls_one Try.wide_mixed (f := 20) (args := [(.int .i64 a1_client), (.int .i64 a2_n)]) Try.func20 rfl rfl (by kernel_rfl) rfl hb (Eq.mpr (ref15_Table_Begin_eq b0 o0_a o0_n o0_c a1_client a2_n R w) h)
def ref15_Table_Done_an : List LA := []
/-- (*stagecoach/stagecoachref15.Table).Done -/
def ref15_Table_Done_T (b0 : Nat) (o0_a : Option Addr) (o0_n : Nat) (o0_c : Nat) (a1_client : Int) (a2_n : Int) (a3_r_0 : Int) (a3_r_1 : Int) (a3_r_2 : Int) (a3_r_3 : Int) (a3_r_4_a : Option Addr) (a3_r_4_n : Nat) (a3_r_4_c : Nat) (a3_r_5_a : Option Addr) (a3_r_5_n : Nat) (a3_r_5_c : Nat) (R : Value → World → Prop) (w : World) : Prop :=
  ∀ b1, w.heap.size ≤ b1 →
  ∀ w2, Adv [] [b1] w w2 →
  Calls Try.prog 28 #[(.int .i64 a1_client)] w2 fun e w3 => ∃ t4 : Bool, e = .returned (.bool t4) ∧ Keep [b0, b1] w2 w3 ∧
  brB (!t4) (
    ∀ w5, Adv [] [] w3 w5 → w5.heap[b0]? = some (.cells #[(.slice o0_a o0_n o0_c)] 56) →
    R (.int .i64 1) w5)
  (
    Calls Try.prog 28 #[(.int .i64 a2_n)] w3 fun e w6 => ∃ t7 : Bool, e = .returned (.bool t7) ∧ Keep [b0, b1] w3 w6 ∧
    brB (!t7) (
      ∀ w8, Adv [] [] w6 w8 → w8.heap[b0]? = some (.cells #[(.slice o0_a o0_n o0_c)] 56) →
      R (.int .i64 1) w8)
    (
      ∀ w9, Adv [] [] w6 w9 → w9.heap[b0]? = some (.cells #[(.slice o0_a o0_n o0_c)] 56) →
      Calls Try.prog 35 #[(.pointer (some ⟨b0, 0, none⟩)), (.int .i64 a1_client)] w9 fun e w10 => ∃ x11 : Int, e = .returned (.int .i64 x11) ∧ Keep [b1] w9 w10 ∧ ∃ (a12 : Option Addr) (n13 c14 : Nat), w10.heap[b0]? = some (.cells #[(.slice a12 n13 c14)] 56) ∧
      brB (decide (x11 < 0)) (
        R (.int .i64 151) w10)
      (
        ixA a12 n13 x11 9 fun q15 =>
        ldInt .i64 w10 (Addr.add q15 1) fun x16 =>
        brB (x16 != a2_n) (
          R (.int .i64 150) w10)
        (
          ∀ w17, Adv [] [] w10 w17 → w17.heap[b0]? = some (.cells #[(.slice a12 n13 c14)] 56) →
          Calls Try.prog 36 #[(.agg #[(.int .i64 a3_r_0), (.int .i64 a3_r_1), (.int .i64 a3_r_2), (.int .i64 a3_r_3), (.slice a3_r_4_a a3_r_4_n a3_r_4_c), (.slice a3_r_5_a a3_r_5_n a3_r_5_c)])] w17 fun e w18 => ∃ x19 : Int, ∃ x20 : Int, ∃ x21 : Int, ∃ x22 : Int, ∃ (a23 : Option Addr) (n24 c25 : Nat), ∃ (a26 : Option Addr) (n27 c28 : Nat), e = .returned (.agg #[(.int .i64 x19), (.int .i64 x20), (.int .i64 x21), (.int .i64 x22), (.slice a23 n24 c25), (.slice a26 n27 c28)]) ∧ Keep [b1] w17 w18 ∧ ∃ (a29 : Option Addr) (n30 c31 : Nat), w18.heap[b0]? = some (.cells #[(.slice a29 n30 c31)] 56) ∧ (((.slice a29 n30 c31) : Value) = (.slice a12 n13 c14)) ∧
          ixA a12 n13 x11 9 fun q32 =>
          st w18 q32 [(.int .i64 a1_client), (.int .i64 a2_n), (.bool true), (.int .i64 x19), (.int .i64 x20), (.int .i64 x21), (.int .i64 x22), (.slice a23 n24 c25), (.slice a26 n27 c28)] fun w33 => Keep [b1] w18 w33 ∧ ∃ (a34 : Option Addr) (n35 c36 : Nat), w33.heap[b0]? = some (.cells #[(.slice a34 n35 c36)] 56) ∧
          R (.int .i64 0) w33))))
theorem ref15_Table_Done_eq (b0 : Nat) (o0_a : Option Addr) (o0_n : Nat) (o0_c : Nat) (a1_client : Int) (a2_n : Int) (a3_r_0 : Int) (a3_r_1 : Int) (a3_r_2 : Int) (a3_r_3 : Int) (a3_r_4_a : Option Addr) (a3_r_4_n : Nat) (a3_r_4_c : Nat) (a3_r_5_a : Option Addr) (a3_r_5_n : Nat) (a3_r_5_c : Nat) (R : Value → World → Prop) (w : World) :
    dnF Try.prog ref15_Table_Done_an (code Try.f21) 400 [] (post3 Try.prog Try.f21 [0] R) ⟨(0, .pointer (some ⟨b0, 0, none⟩), some (0, 0)) :: args0 1 [(.int .i64 a1_client), (.int .i64 a2_n), (.agg #[(.int .i64 a3_r_0), (.int .i64 a3_r_1), (.int .i64 a3_r_2), (.int .i64 a3_r_3), (.slice a3_r_4_a a3_r_4_n a3_r_4_c), (.slice a3_r_5_a a3_r_5_n a3_r_5_c)])], fun _ => undef⟩ ⟨[⟨b0, 56, [(.slice o0_a o0_n o0_c)], false⟩], w, [], [], true⟩ = ref15_Table_Done_T b0 o0_a o0_n o0_c a1_client a2_n a3_r_0 a3_r_1 a3_r_2 a3_r_3 a3_r_4_a a3_r_4_n a3_r_4_c a3_r_5_a a3_r_5_n a3_r_5_c R w := by kernel_rfl
theorem ref15_Table_Done_go {b0 : Nat} {o0_a : Option Addr} {o0_n : Nat} {o0_c : Nat} {a1_client : Int} {a2_n : Int} {a3_r_0 : Int} {a3_r_1 : Int} {a3_r_2 : Int} {a3_r_3 : Int} {a3_r_4_a : Option Addr} {a3_r_4_n : Nat} {a3_r_4_c : Nat} {a3_r_5_a : Option Addr} {a3_r_5_n : Nat} {a3_r_5_c : Nat} {R : Value → World → Prop} {w : World} (hb : w.heap[b0]? = some (.cells #[(.slice o0_a o0_n o0_c)] 56)) (h : ref15_Table_Done_T b0 o0_a o0_n o0_c a1_client a2_n a3_r_0 a3_r_1 a3_r_2 a3_r_3 a3_r_4_a a3_r_4_n a3_r_4_c a3_r_5_a a3_r_5_n a3_r_5_c R w) :
    Calls Try.prog 21 #[(.pointer (some ⟨b0, 0, none⟩)), (.int .i64 a1_client), (.int .i64 a2_n), (.agg #[(.int .i64 a3_r_0), (.int .i64 a3_r_1), (.int .i64 a3_r_2), (.int .i64 a3_r_3), (.slice a3_r_4_a a3_r_4_n a3_r_4_c), (.slice a3_r_5_a a3_r_5_n a3_r_5_c)])] w fun e w' => ∃ v, e = .returned v ∧ R v w' :=
  calls_one Try.wide_mixed (f := 21) (args := [(.int .i64 a1_client), (.int .i64 a2_n), (.agg #[(.int .i64 a3_r_0), (.int .i64 a3_r_1), (.int .i64 a3_r_2), (.int .i64 a3_r_3), (.slice a3_r_4_a a3_r_4_n a3_r_4_c), (.slice a3_r_5_a a3_r_5_n a3_r_5_c)])]) Try.func21 rfl rfl (by kernel_rfl) rfl hb (Eq.mpr (ref15_Table_Done_eq b0 o0_a o0_n o0_c a1_client a2_n a3_r_0 a3_r_1 a3_r_2 a3_r_3 a3_r_4_a a3_r_4_n a3_r_4_c a3_r_5_a a3_r_5_n a3_r_5_c R w) h)
def ref15_Same_la1 : LA := ⟨[0, 0, 1, 0, 1, 1], [0, 1, 5], [], 0, []⟩
def ref15_Same_an : List LA := [ref15_Same_la1]
def ref15_Same_v1 (a_0 : Option Addr) (n_0 : Nat) (c_0 : Nat) (a_1 : Option Addr) (n_1 : Nat) (c_1 : Nat) (x_5 : Int) : List Value := [(.slice a_0 n_0 c_0), (.slice a_1 n_1 c_1), (.int .i64 x_5)]
def ref15_Same_m1 : List TB := []
def ref15_Same_L1 (a_0 : Option Addr) (n_0 : Nat) (c_0 : Nat) (a_1 : Option Addr) (n_1 : Nat) (c_1 : Nat) (x_5 : Int) (K1 : Kh) (R : Value → World → Prop) (w : World) : Prop :=
  brB (decide (x_5 < (n_0 : Int))) (
    ixA a_0 n_0 x_5 9 fun q1 =>
    ∀ w2, Adv [] [] w w2 →
    ldInt .i64 w2 q1 fun x3 =>
    ixA a_1 n_1 x_5 9 fun q4 =>
    ldInt .i64 w2 q4 fun x5 =>
    brB (x3 != x5) (
      R (.bool false) w2)
    (
      ixA a_0 n_0 x_5 9 fun q6 =>
      ldInt .i64 w2 (Addr.add q6 1) fun x7 =>
      ixA a_1 n_1 x_5 9 fun q8 =>
      ldInt .i64 w2 (Addr.add q8 1) fun x9 =>
      brB (x7 != x9) (
        R (.bool false) w2)
      (
        ixA a_0 n_0 x_5 9 fun q10 =>
        ldBool w2 (Addr.add q10 2) fun t11 =>
        ixA a_1 n_1 x_5 9 fun q12 =>
        ldBool w2 (Addr.add q12 2) fun t13 =>
        brB (!(t11 == t13)) (
          R (.bool false) w2)
        (
          ixA a_0 n_0 x_5 9 fun q14 =>
          ldInt .i64 w2 (Addr.add q14 3) fun x15 => ldInt .i64 w2 (Addr.add (Addr.add q14 3) 1) fun x16 => ldInt .i64 w2 (Addr.add (Addr.add q14 3) 2) fun x17 => ldInt .i64 w2 (Addr.add (Addr.add q14 3) 3) fun x18 => ldSlice w2 (Addr.add (Addr.add q14 3) 4) fun a19 n20 c21 => ldSlice w2 (Addr.add (Addr.add q14 3) 5) fun a22 n23 c24 =>
          ixA a_1 n_1 x_5 9 fun q25 =>
          ldInt .i64 w2 (Addr.add q25 3) fun x26 => ldInt .i64 w2 (Addr.add (Addr.add q25 3) 1) fun x27 => ldInt .i64 w2 (Addr.add (Addr.add q25 3) 2) fun x28 => ldInt .i64 w2 (Addr.add (Addr.add q25 3) 3) fun x29 => ldSlice w2 (Addr.add (Addr.add q25 3) 4) fun a30 n31 c32 => ldSlice w2 (Addr.add (Addr.add q25 3) 5) fun a33 n34 c35 =>
          Calls Try.prog 19 #[(.agg #[(.int .i64 x15), (.int .i64 x16), (.int .i64 x17), (.int .i64 x18), (.slice a19 n20 c21), (.slice a22 n23 c24)]), (.agg #[(.int .i64 x26), (.int .i64 x27), (.int .i64 x28), (.int .i64 x29), (.slice a30 n31 c32), (.slice a33 n34 c35)])] w2 fun e w36 => ∃ t37 : Bool, e = .returned (.bool t37) ∧
          brB (!t37) (
            R (.bool false) w36)
          (
            K1 (ref15_Same_v1 a_0 n_0 c_0 a_1 n_1 c_1 (IntKind.wrap .i64 (x_5 + 1))) (ref15_Same_m1) w36)))))
  (
    R (.bool true) w)
theorem ref15_Same_L1_eq (a_0 : Option Addr) (n_0 : Nat) (c_0 : Nat) (a_1 : Option Addr) (n_1 : Nat) (c_1 : Nat) (x_5 : Int) (K1 : Kh) (js : Nat → Value) (R : Value → World → Prop) (w : World) :
    headA ref15_Same_la1 ((dnF Try.prog ref15_Same_an (code Try.f12) 396 [0, 0, 1, 0, 1, 1]) (kthen3 (atA ref15_Same_la1 K1) (kont3 Try.prog ref15_Same_an (code Try.f12) [1, 1, 0, 1, 0] [] (post3 Try.prog Try.f12 [] R)))) (ref15_Same_v1 a_0 n_0 c_0 a_1 n_1 c_1 x_5) js (ref15_Same_m1) w = ref15_Same_L1 a_0 n_0 c_0 a_1 n_1 c_1 x_5 K1 R w := by kernel_rfl
def ref15_Same_K1 (a_0 : Option Addr) (n_0 : Nat) (c_0 : Nat) (a_1 : Option Addr) (n_1 : Nat) (c_1 : Nat) (I : Nat → Int → World → Prop) (m : Nat) (vals : List Value) (mem : List TB) (w : World) : Prop := ∃ m', m' < m ∧ ∃ x_5, vals = (ref15_Same_v1 a_0 n_0 c_0 a_1 n_1 c_1 x_5) ∧ mem = (ref15_Same_m1) ∧ I m' x_5 w
theorem ref15_Same_leaf1 {a_0 : Option Addr} {n_0 : Nat} {c_0 : Nat} {a_1 : Option Addr} {n_1 : Nat} {c_1 : Nat} {I : Nat → Int → World → Prop} {m : Nat} {x_5 : Int} {w : World} (m' : Nat) (h1 : m' < m) (h2 : I m' x_5 w) : ref15_Same_K1 a_0 n_0 c_0 a_1 n_1 c_1 I m (ref15_Same_v1 a_0 n_0 c_0 a_1 n_1 c_1 x_5) (ref15_Same_m1) w := ⟨m', h1, _, rfl, rfl, h2⟩
theorem ref15_Same_rule1 {a_0 : Option Addr} {n_0 : Nat} {c_0 : Nat} {a_1 : Option Addr} {n_1 : Nat} {c_1 : Nat} {x_50 : Int} {R : Value → World → Prop} {w0 : World} (I : Nat → Int → World → Prop) (m0 : Nat) (h0 : I m0 x_50 w0)
    (hr : ∀ (m : Nat) (x_5 : Int) (w : World), I m x_5 w → ref15_Same_L1 a_0 n_0 c_0 a_1 n_1 c_1 x_5 (ref15_Same_K1 a_0 n_0 c_0 a_1 n_1 c_1 I m) R w) :
    loopD3 ref15_Same_la1 (dnF Try.prog ref15_Same_an (code Try.f12) 396 [0, 0, 1, 0, 1, 1]) (kont3 Try.prog ref15_Same_an (code Try.f12) [1, 1, 0, 1, 0] [] (post3 Try.prog Try.f12 [] R)) (ref15_Same_v1 a_0 n_0 c_0 a_1 n_1 c_1 x_50) (ref15_Same_m1) w0 := by
  refine ⟨fun m vals mem w => ∃ x_5, vals = (ref15_Same_v1 a_0 n_0 c_0 a_1 n_1 c_1 x_5) ∧ mem = (ref15_Same_m1) ∧ I m x_5 w, m0, ⟨_, rfl, rfl, h0⟩, ?_⟩
  rintro m vals mem w ⟨x_5, rfl, rfl, hI⟩
  refine ⟨rfl, rfl, fun js => ?_⟩
  have h := hr m x_5 w hI
  rw [← ref15_Same_L1_eq _ _ _ _ _ _ _ _ js] at h
  exact h
/-- stagecoach/stagecoachref15.Same -/
def ref15_Same_T (a0_a_a : Option Addr) (a0_a_n : Nat) (a0_a_c : Nat) (a1_b_a : Option Addr) (a1_b_n : Nat) (a1_b_c : Nat) (R : Value → World → Prop) (w : World) : Prop :=
  brB ((a0_a_n : Int) != (a1_b_n : Int)) (
    R (.bool false) w)
  (
    loopD3 ref15_Same_la1 (dnF Try.prog ref15_Same_an (code Try.f12) 396 [0, 0, 1, 0, 1, 1]) (kont3 Try.prog ref15_Same_an (code Try.f12) [1, 1, 0, 1, 0] [] (post3 Try.prog Try.f12 [] R)) (ref15_Same_v1 a0_a_a a0_a_n a0_a_c a1_b_a a1_b_n a1_b_c 0) (ref15_Same_m1) w)
theorem ref15_Same_eq (a0_a_a : Option Addr) (a0_a_n : Nat) (a0_a_c : Nat) (a1_b_a : Option Addr) (a1_b_n : Nat) (a1_b_c : Nat) (R : Value → World → Prop) (w : World) :
    dnF Try.prog ref15_Same_an (code Try.f12) 400 [] (post3 Try.prog Try.f12 [] R) ⟨args0 0 [(.slice a0_a_a a0_a_n a0_a_c), (.slice a1_b_a a1_b_n a1_b_c)], fun _ => undef⟩ ⟨[], w, [], [], true⟩ = ref15_Same_T a0_a_a a0_a_n a0_a_c a1_b_a a1_b_n a1_b_c R w := by kernel_rfl
theorem ref15_Same_go {a0_a_a : Option Addr} {a0_a_n : Nat} {a0_a_c : Nat} {a1_b_a : Option Addr} {a1_b_n : Nat} {a1_b_c : Nat} {R : Value → World → Prop} {w : World} (h : ref15_Same_T a0_a_a a0_a_n a0_a_c a1_b_a a1_b_n a1_b_c R w) :
    Calls Try.prog 12 #[(.slice a0_a_a a0_a_n a0_a_c), (.slice a1_b_a a1_b_n a1_b_c)] w fun e w' => ∃ v, e = .returned v ∧ R v w' :=
  calls_none Try.wide_mixed (f := 12) (args := [(.slice a0_a_a a0_a_n a0_a_c), (.slice a1_b_a a1_b_n a1_b_c)]) Try.func12 rfl rfl (by kernel_rfl) rfl (Eq.mpr (ref15_Same_eq a0_a_a a0_a_n a0_a_c a1_b_a a1_b_n a1_b_c R w) h)

end Go.Proofs.Ytdgiemnadpkcfaa
