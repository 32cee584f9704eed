/- Part 3 of the proof of PMGets. -/
import Derived.Test.YtkbcmppbjfpjmaaGreatPMGetsK2
namespace Go.Proofs.YtkbcmppbjfpjmaaGreat
open Go Go.RowKit
set_option linter.all false
section
set_option maxRecDepth 100000
variable {R : VWP} {w w0 : World} {m : Nat} {i0 i1 i2 i3 i4 i5 i6 i7 i8 i9 j0 j1 j2 j3 j4 j5 j6 j7 j8 j9 k0 k1 k2 k3 k4 k5 k6 k7 k8 k9 l0 l1 l2 l3 l4 l5 l6 l7 l8 l9 : Int} {s0 s1 s2 s3 s4 s5 s6 s7 s8 s9 t0 t1 t2 t3 t4 t5 t6 t7 t8 t9 : BA} {n0 n1 n2 n3 n4 n5 n6 n7 n8 n9 o0 o1 o2 o3 o4 o5 o6 o7 o8 o9 p0 p1 p2 p3 p4 p5 p6 p7 p8 p9 : Nat} {q0 q1 q2 q3 q4 q5 q6 q7 q8 q9 r0 r1 r2 r3 r4 r5 r6 r7 r8 r9 : OA} {B0 B1 B2 B3 B4 B5 B6 B7 B8 B9 : Bool} {M0 M1 M2 M3 : Option Nat} {V0 V1 V2 V3 V4 V5 : Value} {A0 A1 A2 : Addr}
theorem yH8 (h :
 brB (decide (i0 ≥ 0)) (
 R (.bool (decide (i0 ≤ 1099511627776))) w)
 (
 R (.bool false) w)) :
 CR pP 164 #[.int .i64 i0] w R :=
 yaA Tryz.wide_mixed (an := []) Tryz.func164 rfl rfl (by kernel_rfl) rfl (Eq.mpr (by kernel_rfl) h)
def ysE : LA := ⟨[0, 0, 1, 0, 1, 1], [34, 35, 36], [], 1, []⟩
def yuG : List LA := [ysE]
abbrev yH9 := dnF pP yuG (code Tryz.f163)
abbrev yLz := yaN pP yuG (code Tryz.f163)
abbrev yIa (p : List Nat) (K : List Kh) (R : VWP) := yaN pP yuG (code Tryz.f163) p K (ya4 pP Tryz.f163 [] R)
def yl2 (a6 : OA) (a8 a7 : Nat) (a9 : Int) (bm0 : Nat) (a3 a4 a5 : Int) (a0 : OA) (a2 a1 : Nat) : Int → List Value × List TB := fun b0 => ([.slice a6 a8 a7, .int .i64 a9, .int .i64 b0], [⟨bm0, 46, [.int .i64 a3, .int .i64 a4, .int .i64 a5, .slice a0 a2 a1], false⟩])
abbrev yD8 (a6 : OA) (a8 a7 : Nat) (a9 : Int) (bm0 : Nat) (a3 a4 a5 : Int) (a0 : OA) (a2 a1 : Nat) (I : Nat → Int → World → Prop) (m : Nat) : Kh := KG (yl2 a6 a8 a7 a9 bm0 a3 a4 a5 a0 a2 a1) (U1 I) m
theorem yAv {I : Nat → Int → World → Prop} (m' : Nat) (h1 : m' < m) (h2 : I m' i4 w) : KS (yD8 q0 n0 n1 i0 n2 i1 i2 i3 q1 n3 n4 I m) (yl2 q0 n0 n1 i0 n2 i1 i2 i3 q1 n3 n4 i4) w := ⟨m', h1, _, rfl, rfl, h2⟩
theorem yAw {a7 : OA} {a0 : OA} (I : Nat → Int → World → Prop) (m0 : Nat) (h0 : I m0 i4 w0)
 (hr : ∀ m a6 w, I m a6 w →
 brB (decide (a6 < i0)) (
 ixA a7 n0 a6 4 fun q9 =>
 yaX w q9 fun b8 => yaT w (Addr.add q9 1) fun b6 => yaX w (Addr.add q9 2) fun b9 => yaT w (Addr.add q9 3) fun b7 =>
 ∀ b2, w.heap.size ≤ b2 →
 ∀ b3, Adv [] [b2] w b3 →
 Calls pP 95 #[(.agg (Z7 b8 b6 b9 b7))] b3 fun e b4 => ∃ b5, e = .returned (.int .i64 b5) ∧ yaD [n2, b2] b3 b4 ∧
 brB (b5 != 0) (
 R (.int .i64 b5) b4)
 (
 KS (yD8 a7 n0 n1 i0 n2 i1 i2 i3 a0 n3 n4 I m) (yl2 a7 n0 n1 i0 n2 i1 i2 i3 a0 n3 n4 (IntKind.wrap .i64 (a6 + 1))) b4))
 (
 R (.int .i64 0) w)) :
 yaK ysE (yH9 396 [0, 0, 1, 0, 1, 1]) (yIa [1, 1, 0, 1, 0] [] R) (yl2 a7 n0 n1 i0 n2 i1 i2 i3 a0 n3 n4 i4) w0 :=
 lrule (yl2 a7 n0 n1 i0 n2 i1 i2 i3 a0 n3 n4) (U1 I) h0 (by rintro m a6 w h; exact ⟨by kernel_rfl, by kernel_rfl, fun js => Eq.mpr (by kernel_rfl) (hr m a6 w h)⟩)
theorem yIb (h :
 ∀ b1, w.heap.size ≤ b1 →
 ∀ w2, Adv [] [b1] w w2 →
 Calls pP 164 #[.int .i64 i0] w2 fun e w3 => ∃ t4, e = .returned (.bool t4) ∧ yaD [b1] w2 w3 ∧
 brB (!t4) (
 R (.int .i64 1) w3)
 (
 Calls pP 164 #[.int .i64 i1] w3 fun e w5 => ∃ t6, e = .returned (.bool t6) ∧ yaD [b1] w3 w5 ∧
 brB (!t6) (
 R (.int .i64 1) w5)
 (
 Calls pP 164 #[.int .i64 i2] w5 fun e w7 => ∃ t8, e = .returned (.bool t8) ∧ yaD [b1] w5 w7 ∧
 brB (!t8) (
 R (.int .i64 1) w7)
 (
 brB ((n0 : Int) == 0) (
 R (.int .i64 30) w7)
 (
 brB (decide ((n0 : Int) > 16)) (
 R (.int .i64 2) w7)
 (
 yaK ysE (yH9 396 [0, 0, 1, 0, 1, 1]) (yIa [1, 1, 0, 1, 0] [] R) (yl2 q0 n0 n1 (n0 : Int) b1 i0 i1 i2 q0 n0 n1 0) w7)))))) :
 CR pP 163 #[(.agg (Z9 i0 i1 i2 q0 n0 n1))] w R :=
 yaA Tryz.wide_mixed (an := yuG) Tryz.func163 rfl rfl (by kernel_rfl) rfl (Eq.mpr (by kernel_rfl) h)
def ysF : LA := ⟨[0, 0, 1, 0, 1, 1, 1, 1], [1, 3], [(1, 0, 0)], 1, []⟩
def yuH : List LA := [ysF]
abbrev yIc := dnF pP yuH (code Tryz.f126)
abbrev yLA := yaN pP yuH (code Tryz.f126)
abbrev yId (p : List Nat) (K : List Kh) (R : VWP) := yaN pP yuH (code Tryz.f126) p K (ya4 pP Tryz.f126 [] R)
def yl3 (bm0 : Nat) (a3 a4 a5 : Int) (a0 : OA) (a2 a1 : Nat) : Int → List Value × List TB := fun a6 => ([(.pointer (some ⟨bm0, 0, none⟩)), .int .i64 a6], [⟨bm0, 46, [.int .i64 a3, .int .i64 a4, .int .i64 a5, .slice a0 a2 a1], false⟩])
abbrev yD9 (bm0 : Nat) (a3 a4 a5 : Int) (a0 : OA) (a2 a1 : Nat) (I : Nat → Int → World → Prop) (m : Nat) : Kh := KG (yl3 bm0 a3 a4 a5 a0 a2 a1) (U1 I) m
theorem yAx {I : Nat → Int → World → Prop} (m' : Nat) (h1 : m' < m) (h2 : I m' i3 w) : KS (yD9 n0 i0 i1 i2 q0 n1 n2 I m) (yl3 n0 i0 i1 i2 q0 n1 n2 i3) w := ⟨m', h1, _, rfl, rfl, h2⟩
theorem yAy {a1 : OA} (I : Nat → Int → World → Prop) (m0 : Nat) (h0 : I m0 i3 w0)
 (hr : ∀ m a6 w, I m a6 w →
 brB (decide (a6 < (n1 : Int))) (
 ixA a1 n1 a6 4 fun q9 =>
 yaX w q9 fun b2 => yaT w (Addr.add q9 1) fun b0 => yaX w (Addr.add q9 2) fun b3 => yaT w (Addr.add q9 3) fun b1 =>
 Calls pP 103 #[(.agg (Z7 b2 b0 b3 b1))] w fun e a7 => ∃ a8, e = .returned (.int .i64 a8) ∧ yaD [n0] w a7 ∧
 brB (a8 != 0) (
 R (.int .i64 a8) a7)
 (
 KS (yD9 n0 i0 i1 i2 a1 n1 n2 I m) (yl3 n0 i0 i1 i2 a1 n1 n2 (IntKind.wrap .i64 (a6 + 1))) a7))
 (
 R (.int .i64 0) w)) :
 yaK ysF (yIc 394 [0, 0, 1, 0, 1, 1, 1, 1]) (yId [1, 1, 1, 1, 0, 1, 0] [] R) (yl3 n0 i0 i1 i2 a1 n1 n2 i3) w0 :=
 lrule (yl3 n0 i0 i1 i2 a1 n1 n2) (U1 I) h0 (by rintro m a6 w h; exact ⟨by kernel_rfl, by kernel_rfl, fun js => Eq.mpr (by kernel_rfl) (hr m a6 w h)⟩)
theorem yIe (h :
 ∀ b1, w.heap.size ≤ b1 →
 ∀ w2, Adv [] [b1] w w2 →
 Calls pP 36 #[.int .i64 i0] w2 fun e w3 => ∃ t4, e = .returned (.bool t4) ∧ yaD [b1] w2 w3 ∧
 brB (!t4) (
 R (.int .i64 1) w3)
 (
 Calls pP 36 #[.int .i64 i1] w3 fun e w5 => ∃ t6, e = .returned (.bool t6) ∧ yaD [b1] w3 w5 ∧
 brB (!t6) (
 R (.int .i64 1) w5)
 (
 Calls pP 36 #[.int .i64 i2] w5 fun e w7 => ∃ t8, e = .returned (.bool t8) ∧ yaD [b1] w5 w7 ∧
 brB (!t8) (
 R (.int .i64 1) w7)
 (
 brB ((n0 : Int) == 0) (
 R (.int .i64 30) w7)
 (
 brB (decide ((n0 : Int) > 16)) (
 R (.int .i64 2) w7)
 (
 yaK ysF (yIc 394 [0, 0, 1, 0, 1, 1, 1, 1]) (yId [1, 1, 1, 1, 0, 1, 0] [] R) (yl3 b1 i0 i1 i2 q0 n0 n1 0) w7)))))) :
 CR pP 126 #[(.agg (Z9 i0 i1 i2 q0 n0 n1))] w R :=
 yaA Tryz.wide_mixed (an := yuH) Tryz.func126 rfl rfl (by kernel_rfl) rfl (Eq.mpr (by kernel_rfl) h)
def ysG : LA := ⟨[0, 0, 1, 0, 1, 1], [0, 1, 5], [], 0, []⟩
def yuI : List LA := [ysG]
abbrev yIf := dnF pP yuI (code Tryz.f130)
abbrev yLB := yaN pP yuI (code Tryz.f130)
abbrev yIg (p : List Nat) (K : List Kh) (R : VWP) := yaN pP yuI (code Tryz.f130) p K (ya4 pP Tryz.f130 [] R)
def yl4 (a0 : OA) (a4 a2 : Nat) (a1 : OA) (a5 a3 : Nat) : Int → List Value × List TB := fun a6 => ([.slice a0 a4 a2, .slice a1 a5 a3, .int .i64 a6], [])
abbrev yEa (a0 : OA) (a4 a2 : Nat) (a1 : OA) (a5 a3 : Nat) (I : Nat → Int → World → Prop) (m : Nat) : Kh := KG (yl4 a0 a4 a2 a1 a5 a3) (U1 I) m
theorem yAz {I : Nat → Int → World → Prop} (m' : Nat) (h1 : m' < m) (h2 : I m' i0 w) : KS (yEa q0 n0 n1 q1 n2 n3 I m) (yl4 q0 n0 n1 q1 n2 n3 i0) w := ⟨m', h1, _, rfl, rfl, h2⟩
theorem yAA {a2 : OA} {a3 : OA} (I : Nat → Int → World → Prop) (m0 : Nat) (h0 : I m0 i0 w0)
 (hr : ∀ m a0 w, I m a0 w →
 brB (decide (a0 < (n0 : Int))) (
 ixA a2 n0 a0 4 fun q1 =>
 yaX w q1 fun t2 => yaT w (Addr.add q1 1) fun s3 => yaX w (Addr.add q1 2) fun t4 => yaT w (Addr.add q1 3) fun s5 =>
 ixA a3 n2 a0 4 fun q6 =>
 yaX w q6 fun t7 => yaT w (Addr.add q6 1) fun s8 => yaX w (Addr.add q6 2) fun t9 => yaT w (Addr.add q6 3) fun a8 =>
 ∃ a9, (∀ w', Mod [] w w' → Sem.run pP (do eqGuard .neq 53 (.tmp 20) (.tmp 24) (.agg (Z7 t2 s3 t4 s5)) (.agg (Z7 t7 s8 t9 a8)); Go.binOp .neq 53 (.agg (Z7 t2 s3 t4 s5)) (.agg (Z7 t7 s8 t9 a8))) w' = .ok (.bool a9) w') ∧
 brB a9 (
 ∀ b0, Adv [] [] w b0 →
 R (.bool false) b0)
 (
 ∀ b1, Adv [] [] w b1 →
 KS (yEa a2 n0 n1 a3 n2 n3 I m) (yl4 a2 n0 n1 a3 n2 n3 (IntKind.wrap .i64 (a0 + 1))) b1))
 (
 R (.bool true) w)) :
 yaK ysG (yIf 396 [0, 0, 1, 0, 1, 1]) (yIg [1, 1, 0, 1, 0] [] R) (yl4 a2 n0 n1 a3 n2 n3 i0) w0 :=
 lrule (yl4 a2 n0 n1 a3 n2 n3) (U1 I) h0 (by rintro m a0 w h; exact ⟨by kernel_rfl, by kernel_rfl, fun js => Eq.mpr (by kernel_rfl) (hr m a0 w h)⟩)
theorem yIh (h :
 brB ((n0 : Int) != (n2 : Int)) (
 R (.bool false) w)
 (
 yaK ysG (yIf 396 [0, 0, 1, 0, 1, 1]) (yIg [1, 1, 0, 1, 0] [] R) (yl4 q0 n0 n1 q1 n2 n3 0) w)) :
 CR pP 130 #[.slice q0 n0 n1, .slice q1 n2 n3] w R :=
 yaA Tryz.wide_mixed (an := yuI) Tryz.func130 rfl rfl (by kernel_rfl) rfl (Eq.mpr (by kernel_rfl) h)
theorem yIi (h :
 ∀ b1, w.heap.size ≤ b1 →
 ∀ b2, w.heap.size ≤ b2 →
 brB (i0 == i3) (
 brB (i1 == i4) (
 brB (i2 == i5) (
 ∀ w3, Adv [] [b2, b1] w w3 →
 Calls pP 130 #[.slice q0 n0 n1, .slice q1 n2 n3] w3 fun e w4 => ∃ t5, e = .returned (.bool t5) ∧ yaD [b1, b2] w3 w4 ∧
 R (.bool t5) w4)
 (
 ∀ w6, Adv [] [b2, b1] w w6 →
 R (.bool false) w6))
 (
 ∀ w7, Adv [] [b2, b1] w w7 →
 R (.bool false) w7))
 (
 ∀ w8, Adv [] [b2, b1] w w8 →
 R (.bool false) w8)) :
 CR pP 108 #[(.agg (Z9 i0 i1 i2 q0 n0 n1)), (.agg (Z9 i3 i4 i5 q1 n2 n3))] w R :=
 yaA Tryz.wide_mixed (an := []) Tryz.func108 rfl rfl (by kernel_rfl) rfl (Eq.mpr (by kernel_rfl) h)
theorem yIj (h :
 al w (.cells #[(.string (⟨#[116, 110]⟩ : BA)), (.string (⟨#[110]⟩ : BA)), (.string (⟨#[112, 98]⟩ : BA)), (.string (⟨#[112, 111, 110]⟩ : BA)), (.string (⟨#[112, 111]⟩ : BA)), (.string (⟨#[112]⟩ : BA)), (.string (⟨#[103, 109, 110, 114, 108]⟩ : BA)), (.string (⟨#[103, 109, 101]⟩ : BA)), (.string (⟨#[103, 109, 101]⟩ : BA)), (.string (⟨#[103, 109, 101]⟩ : BA)), (.string (⟨#[103, 109, 101, 112, 111]⟩ : BA)), (.string (⟨#[103, 112]⟩ : BA)), (.string (⟨#[110]⟩ : BA))] 9) fun b1 w2 =>
 ixA (some ⟨b1, 0, none⟩) 13 i0 1 fun q3 =>
 yaT w2 q3 fun s4 =>
 R (.string s4) w2) :
 CR pP 101 #[.int .i64 i0] w R :=
 yaA Tryz.wide_mixed (an := []) Tryz.func101 rfl rfl (by kernel_rfl) rfl (Eq.mpr (by kernel_rfl) h)
def ysH : LA := ⟨[0, 0, 1, 0, 1], [0, 1, 5], [], 0, []⟩
def yuJ : List LA := [ysH]
abbrev yIk := dnF pP yuJ (code Tryz.f124)
abbrev yLC := yaN pP yuJ (code Tryz.f124)
abbrev yIl (p : List Nat) (K : List Kh) (R : VWP) := yaN pP yuJ (code Tryz.f124) p K (ya4 pP Tryz.f124 [] R)
def yl5 (a0 : BA) (a1 : Int) : Int → List Value × List TB := fun a2 => ([.string a0, .int .u8 a1, .int .i64 a2], [])
abbrev yEb (a0 : BA) (a1 : Int) (I : Nat → Int → World → Prop) (m : Nat) : Kh := KG (yl5 a0 a1) (U1 I) m
theorem yAB {I : Nat → Int → World → Prop} (m' : Nat) (h1 : m' < m) (h2 : I m' i1 w) : KS (yEb s0 i0 I m) (yl5 s0 i0 i1) w := ⟨m', h1, _, rfl, rfl, h2⟩
theorem yAC (I : Nat → Int → World → Prop) (m0 : Nat) (h0 : I m0 i1 w0)
 (hr : ∀ m a1 w, I m a1 w →
 brB (decide (a1 < (s0.size : Int))) (
 ixS s0 a1 fun x1 =>
 brB (x1 == i0) (
 R (.bool true) w)
 (
 KS (yEb s0 i0 I m) (yl5 s0 i0 (IntKind.wrap .i64 (a1 + 1))) w))
 (
 R (.bool false) w)) :
 yaK ysH (yIk 397 [0, 0, 1, 0, 1]) (yIl [1, 0, 1, 0] [] R) (yl5 s0 i0 i1) w0 :=
 lrule (yl5 s0 i0) (U1 I) h0 (by rintro m a1 w h; exact ⟨by kernel_rfl, by kernel_rfl, fun js => Eq.mpr (by kernel_rfl) (hr m a1 w h)⟩)
theorem yIm (h :
 yaK ysH (yIk 397 [0, 0, 1, 0, 1]) (yIl [1, 0, 1, 0] [] R) (yl5 s0 i0 0) w) :
 CR pP 124 #[.string s0, .int .u8 i0] w R :=
 yaA Tryz.wide_mixed (an := yuJ) Tryz.func124 rfl rfl (by kernel_rfl) rfl (Eq.mpr (by kernel_rfl) h)
def ysI : LA := ⟨[0, 0, 1, 0, 1], [0, 1, 5], [], 0, []⟩
def yuK : List LA := [ysI]
abbrev yIn := dnF pP yuK (code Tryz.f136)
abbrev yLD := yaN pP yuK (code Tryz.f136)
abbrev yIo (p : List Nat) (K : List Kh) (R : VWP) := yaN pP yuK (code Tryz.f136) p K (ya4 pP Tryz.f136 [] R)
def yl6 (a0 a1 : BA) : Int → List Value × List TB := fun a2 => ([.string a0, .string a1, .int .i64 a2], [])
abbrev yEc (a0 a1 : BA) (I : Nat → Int → World → Prop) (m : Nat) : Kh := KG (yl6 a0 a1) (U1 I) m
theorem yAD {I : Nat → Int → World → Prop} (m' : Nat) (h1 : m' < m) (h2 : I m' i0 w) : KS (yEc s0 s1 I m) (yl6 s0 s1 i0) w := ⟨m', h1, _, rfl, rfl, h2⟩
theorem yAE (I : Nat → Int → World → Prop) (m0 : Nat) (h0 : I m0 i0 w0)
 (hr : ∀ m a0 w, I m a0 w →
 brB (decide (a0 < (s0.size : Int))) (
 brB (decide (a0 < (s1.size : Int))) (
 ixS s0 a0 fun x1 =>
 ixS s1 a0 fun x2 =>
 brB (x1 != x2) (
 ixS s0 a0 fun x3 =>
 ixS s1 a0 fun x4 =>
 ∀ w5, Adv [] [] w w5 →
 R (.bool (decide (x3 < x4))) w5)
 (
 ∀ w6, Adv [] [] w w6 →
 KS (yEc s0 s1 I m) (yl6 s0 s1 (IntKind.wrap .i64 (a0 + 1))) w6))
 (
 R (.bool (decide ((s0.size : Int) < (s1.size : Int)))) w))
 (
 R (.bool (decide ((s0.size : Int) < (s1.size : Int)))) w)) :
 yaK ysI (yIn 397 [0, 0, 1, 0, 1]) (yIo [1, 0, 1, 0] [] R) (yl6 s0 s1 i0) w0 :=
 lrule (yl6 s0 s1) (U1 I) h0 (by rintro m a0 w h; exact ⟨by kernel_rfl, by kernel_rfl, fun js => Eq.mpr (by kernel_rfl) (hr m a0 w h)⟩)
theorem yIp (h :
 yaK ysI (yIn 397 [0, 0, 1, 0, 1]) (yIo [1, 0, 1, 0] [] R) (yl6 s0 s1 0) w) :
 CR pP 136 #[.string s0, .string s1] w R :=
 yaA Tryz.wide_mixed (an := yuK) Tryz.func136 rfl rfl (by kernel_rfl) rfl (Eq.mpr (by kernel_rfl) h)
def ysJ : LA := ⟨[0, 0, 1, 0, 1, 1], [0, 3], [], 0, []⟩
def yuL : List LA := [ysJ]
abbrev yIq := dnF pP yuL (code Tryz.f125)
abbrev yLE := yaN pP yuL (code Tryz.f125)
abbrev yIr (p : List Nat) (K : List Kh) (R : VWP) := yaN pP yuL (code Tryz.f125) p K (ya4 pP Tryz.f125 [] R)
def ykL (a0 : OA) (a2 a1 : Nat) : Int → List Value × List TB := fun a3 => ([.slice a0 a2 a1, .int .i64 a3], [])
abbrev yAF (a0 : OA) (a2 a1 : Nat) (I : Nat → Int → World → Prop) (m : Nat) : Kh := KG (ykL a0 a2 a1) (U1 I) m
theorem yqR {I : Nat → Int → World → Prop} (m' : Nat) (h1 : m' < m) (h2 : I m' i0 w) : KS (yAF q0 n0 n1 I m) (ykL q0 n0 n1 i0) w := ⟨m', h1, _, rfl, rfl, h2⟩
theorem yAG {a2 : OA} (I : Nat → Int → World → Prop) (m0 : Nat) (h0 : I m0 i0 w0)
 (hr : ∀ m a1 w, I m a1 w →
 brB (decide (a1 < (n0 : Int))) (
 ixA a2 n0 a1 1 fun q1 =>
 ∀ w2, Adv [] [] w w2 →
 yaT w2 q1 fun s3 =>
 Calls pP 104 #[.string s3] w2 fun e w4 => ∃ t5, e = .returned (.bool t5) ∧
 brB (!t5) (
 R (.bool false) w4)
 (
 brB (decide (a1 > 0)) (
 ixA a2 n0 (IntKind.wrap .i64 (a1 - 1)) 1 fun q6 =>
 yaT w4 q6 fun s7 =>
 ixA a2 n0 a1 1 fun q8 =>
 yaT w4 q8 fun s9 =>
 Calls pP 136 #[.string s7, .string s9] w4 fun e a6 => ∃ a5, e = .returned (.bool a5) ∧
 brB (!a5) (
 R (.bool false) a6)
 (
 KS (yAF a2 n0 n1 I m) (ykL a2 n0 n1 (IntKind.wrap .i64 (a1 + 1))) a6))
 (
 KS (yAF a2 n0 n1 I m) (ykL a2 n0 n1 (IntKind.wrap .i64 (a1 + 1))) w4)))
 (
 R (.bool true) w)) :
 yaK ysJ (yIq 396 [0, 0, 1, 0, 1, 1]) (yIr [1, 1, 0, 1, 0] [] R) (ykL a2 n0 n1 i0) w0 :=
 lrule (ykL a2 n0 n1) (U1 I) h0 (by rintro m a1 w h; exact ⟨by kernel_rfl, by kernel_rfl, fun js => Eq.mpr (by kernel_rfl) (hr m a1 w h)⟩)
theorem yIs (h :
 brB (decide ((n0 : Int) < 1)) (
 R (.bool false) w)
 (
 brB (decide ((n0 : Int) > 8)) (
 R (.bool false) w)
 (
 yaK ysJ (yIq 396 [0, 0, 1, 0, 1, 1]) (yIr [1, 1, 0, 1, 0] [] R) (ykL q0 n0 n1 0) w))) :
 CR pP 125 #[.slice q0 n0 n1] w R :=
 yaA Tryz.wide_mixed (an := yuL) Tryz.func125 rfl rfl (by kernel_rfl) rfl (Eq.mpr (by kernel_rfl) h)
def ya3 : LA := ⟨[1, 0, 1, 1, 1], [1, 3, 54], [(1, 0, 0)], 1, []⟩
def yn0 : LA := ⟨[1, 1, 1, 1], [1, 3], [(1, 0, 0)], 1, []⟩
def yfY : LA := ⟨[1, 0, 1, 1, 1, 1], [1, 3, 82], [(1, 0, 0)], 1, []⟩
def yn1 : LA := ⟨[1, 1, 1, 1, 1], [1, 3], [(1, 0, 0)], 1, []⟩
def yc6 : LA := ⟨[1, 0, 1, 1, 1, 1, 1], [1, 3, 110], [(1, 0, 0)], 1, []⟩
def yn2 : LA := ⟨[1, 1, 1, 1, 1, 1], [1, 3], [(1, 0, 0)], 1, []⟩
def yuM : List LA := [ya3, yn0, yfY, yn1, yc6, yn2]
abbrev ya7 := dnF pP yuM (code Tryz.f123)
abbrev yLF := yaN pP yuM (code Tryz.f123)
abbrev ya8 (p : List Nat) (K : List Kh) (R : VWP) := yaN pP yuM (code Tryz.f123) p K (ya4 pP Tryz.f123 [] R)
def ybE : ByteArray × Bool × Nat × Int × ByteArray × Int × Int × Int × Int × Int × Int × (Option Addr) × Nat × Nat × ByteArray × ByteArray × Int × Bool × (Option Addr) × Nat × Nat → List Value × List TB := fun (b9, b8, bm0, b1, a9, b2, b3, b4, b5, b6, b7, a6, a8, a7, b0, a3, a5, a4, a0, a2, a1) => ([(.pointer (some ⟨bm0, 0, none⟩)), .string b9, .bool b8], [⟨bm0, 49, [.int .i64 b1, .string a9, .int .i64 b2, .int .i64 b3, .int .i64 b4, .int .i64 b5, .int .i64 b6, .int .i64 b7, .slice a6 a8 a7, .string b0, .string a3, .int .i64 a5, .bool a4, .slice a0 a2 a1], false⟩])
def yuN : ByteArray × Nat × Int × ByteArray × Int × Int × Int × Int × Int × Int × (Option Addr) × Nat × Nat × ByteArray × ByteArray × Int × Bool × (Option Addr) × Nat × Nat → List Value × List TB := fun (b8, bm0, b1, a9, b2, b3, b4, b5, b6, b7, a6, a8, a7, b0, a3, a5, a4, a0, a2, a1) => ([(.pointer (some ⟨bm0, 0, none⟩)), .string b8], [⟨bm0, 49, [.int .i64 b1, .string a9, .int .i64 b2, .int .i64 b3, .int .i64 b4, .int .i64 b5, .int .i64 b6, .int .i64 b7, .slice a6 a8 a7, .string b0, .string a3, .int .i64 a5, .bool a4, .slice a0 a2 a1], false⟩])
def yi7 : ByteArray × Bool × Nat × Int × ByteArray × Int × Int × Int × Int × Int × Int × (Option Addr) × Nat × Nat × ByteArray × ByteArray × Int × Bool × (Option Addr) × Nat × Nat → List Value × List TB := fun (b9, b8, bm0, b1, a9, b2, b3, b4, b5, b6, b7, a6, a8, a7, b0, a3, a5, a4, a0, a2, a1) => ([(.pointer (some ⟨bm0, 0, none⟩)), .string b9, .bool b8], [⟨bm0, 49, [.int .i64 b1, .string a9, .int .i64 b2, .int .i64 b3, .int .i64 b4, .int .i64 b5, .int .i64 b6, .int .i64 b7, .slice a6 a8 a7, .string b0, .string a3, .int .i64 a5, .bool a4, .slice a0 a2 a1], false⟩])
def yuO : ByteArray × Nat × Int × ByteArray × Int × Int × Int × Int × Int × Int × (Option Addr) × Nat × Nat × ByteArray × ByteArray × Int × Bool × (Option Addr) × Nat × Nat → List Value × List TB := fun (b8, bm0, b1, a9, b2, b3, b4, b5, b6, b7, a6, a8, a7, b0, a3, a5, a4, a0, a2, a1) => ([(.pointer (some ⟨bm0, 0, none⟩)), .string b8], [⟨bm0, 49, [.int .i64 b1, .string a9, .int .i64 b2, .int .i64 b3, .int .i64 b4, .int .i64 b5, .int .i64 b6, .int .i64 b7, .slice a6 a8 a7, .string b0, .string a3, .int .i64 a5, .bool a4, .slice a0 a2 a1], false⟩])
def yeP : ByteArray × Bool × Nat × Int × ByteArray × Int × Int × Int × Int × Int × Int × (Option Addr) × Nat × Nat × ByteArray × ByteArray × Int × Bool × (Option Addr) × Nat × Nat → List Value × List TB := fun (b9, b8, bm0, b1, a9, b2, b3, b4, b5, b6, b7, a6, a8, a7, b0, a3, a5, a4, a0, a2, a1) => ([(.pointer (some ⟨bm0, 0, none⟩)), .string b9, .bool b8], [⟨bm0, 49, [.int .i64 b1, .string a9, .int .i64 b2, .int .i64 b3, .int .i64 b4, .int .i64 b5, .int .i64 b6, .int .i64 b7, .slice a6 a8 a7, .string b0, .string a3, .int .i64 a5, .bool a4, .slice a0 a2 a1], false⟩])
def yuP : ByteArray × Nat × Int × ByteArray × Int × Int × Int × Int × Int × Int × (Option Addr) × Nat × Nat × ByteArray × ByteArray × Int × Bool × (Option Addr) × Nat × Nat → List Value × List TB := fun (b8, bm0, b1, a9, b2, b3, b4, b5, b6, b7, a6, a8, a7, b0, a3, a5, a4, a0, a2, a1) => ([(.pointer (some ⟨bm0, 0, none⟩)), .string b8], [⟨bm0, 49, [.int .i64 b1, .string a9, .int .i64 b2, .int .i64 b3, .int .i64 b4, .int .i64 b5, .int .i64 b6, .int .i64 b7, .slice a6 a8 a7, .string b0, .string a3, .int .i64 a5, .bool a4, .slice a0 a2 a1], false⟩])
def yAH (b9 : BA) (b8 : Bool) (bm0 : Nat) (b1 : Int) (a9 : BA) (b2 b3 b4 b5 b6 b7 : Int) (a6 : OA) (a8 a7 : Nat) (b0 a3 : BA) (a5 : Int) (a4 : Bool) (a0 : OA) (a2 a1 : Nat) (R : VWP) (w : World) : Prop :=
 brB b8 (
 R (.bool false) w)
 (
 yaS yn0 ((ya7 396 [1, 1, 1, 1]) (ya8 [1, 1, 1] [] R)) (yuN (b9, bm0, b1, a9, b2, b3, b4, b5, b6, b7, a6, a8, a7, b0, a3, a5, a4, a0, a2, a1)) w)
theorem yDf (J : ByteArray → Bool → Nat → Int → ByteArray → Int → Int → Int → Int → Int → Int → Option Addr → Nat → Nat → ByteArray → ByteArray → Int → Bool → Option Addr → Nat → Nat → World → Prop) (h0 : J s0 B0 n0 i0 s1 i1 i2 i3 i4 i5 i6 q0 n1 n2 s2 s3 i7 B1 q1 n3 n4 w0)
 (hr : ∀ d6 d5 bm0 b1 a9 b2 b3 b4 b5 b6 b7 a6 a8 a7 b0 s1 a5 a4 a1 a3 a2 w, J d6 d5 bm0 b1 a9 b2 b3 b4 b5 b6 b7 a6 a8 a7 b0 s1 a5 a4 a1 a3 a2 w → yAH d6 d5 bm0 b1 a9 b2 b3 b4 b5 b6 b7 a6 a8 a7 b0 s1 a5 a4 a1 a3 a2 R w) :
 yaS ya3 ((ya7 396 [1, 0, 1, 1, 1]) (ya8 [1, 1, 1, 0] [] R)) (ybE (s0, B0, n0, i0, s1, i1, i2, i3, i4, i5, i6, q0, n1, n2, s2, s3, i7, B1, q1, n3, n4)) w0 :=
 crule (ybE) (V21 J) h0 (by rintro ⟨d6, d5, bm0, b1, a9, b2, b3, b4, b5, b6, b7, a6, a8, a7, b0, s1, a5, a4, a1, a3, a2⟩ w h; exact ⟨by kernel_rfl, by kernel_rfl, fun js => Eq.mpr (by kernel_rfl) (hr d6 d5 bm0 b1 a9 b2 b3 b4 b5 b6 b7 a6 a8 a7 b0 s1 a5 a4 a1 a3 a2 w h)⟩)
theorem yFz (h : yAH s0 B0 n0 i0 s1 i1 i2 i3 i4 i5 i6 q0 n1 n2 s2 s3 i7 B1 q1 n3 n4 R w) :
 yaS ya3 ((ya7 396 [1, 0, 1, 1, 1]) (ya8 [1, 1, 1, 0] [] R)) (ybE (s0, B0, n0, i0, s1, i1, i2, i3, i4, i5, i6, q0, n1, n2, s2, s3, i7, B1, q1, n3, n4)) w :=
 yDf (fun d9 d7 bm0' c9 c7 d0 d1 d2 d3 d4 d5 c4 c6 c5 c8 b3 b7 b5 a6 b0 a8 w' => d9 = s0 ∧ d7 = B0 ∧ bm0' = n0 ∧ c9 = i0 ∧ c7 = s1 ∧ d0 = i1 ∧ d1 = i2 ∧ d2 = i3 ∧ d3 = i4 ∧ d4 = i5 ∧ d5 = i6 ∧ c4 = q0 ∧ c6 = n1 ∧ c5 = n2 ∧ c8 = s2 ∧ b3 = s3 ∧ b7 = i7 ∧ b5 = B1 ∧ a6 = q1 ∧ b0 = n3 ∧ a8 = n4 ∧ w' = w) ⟨rfl, rfl, rfl, rfl, rfl, rfl, rfl, rfl, rfl, rfl, rfl, rfl, rfl, rfl, rfl, rfl, rfl, rfl, rfl, rfl, rfl, rfl⟩ (by rintro d9 d7 bm0' c9 c7 d0 d1 d2 d3 d4 d5 c4 c6 c5 c8 b3 b7 b5 a6 b0 a8 w' ⟨rfl, rfl, rfl, rfl, rfl, rfl, rfl, rfl, rfl, rfl, rfl, rfl, rfl, rfl, rfl, rfl, rfl, rfl, rfl, rfl, rfl, rfl⟩; exact h)
def yuQ (b8 : BA) (bm0 : Nat) (b4 : Int) (b2 : BA) (b5 b6 b7 a7 a8 a9 : Int) (b0 : OA) (a3 b1 : Nat) (b3 a4 : BA) (a6 : Int) (a5 : Bool) (a0 : OA) (a2 a1 : Nat) (R : VWP) (w : World) : Prop :=
 Calls pP 124 #[.string b8, .int .u8 98] w fun e w9 => ∃ b9, e = .returned (.bool b9) ∧ yaD [bm0] w w9 ∧
 brB (!b9) (
 brB (a7 != 0) (
 yaS yfY ((ya7 395 [1, 0, 1, 1, 1, 1]) (ya8 [1, 1, 1, 1, 0] [] R)) (yi7 (b8, true, bm0, b4, b2, b5, b6, b7, a7, a8, a9, b0, a3, b1, b3, a4, a6, a5, a0, a2, a1)) w9)
 (
 brB (a8 != 0) (
 yaS yfY ((ya7 395 [1, 0, 1, 1, 1, 1]) (ya8 [1, 1, 1, 1, 0] [] R)) (yi7 (b8, true, bm0, b4, b2, b5, b6, b7, a7, a8, a9, b0, a3, b1, b3, a4, a6, a5, a0, a2, a1)) w9)
 (
 brB (a9 != 0) (
 yaS yfY ((ya7 395 [1, 0, 1, 1, 1, 1]) (ya8 [1, 1, 1, 1, 0] [] R)) (yi7 (b8, true, bm0, b4, b2, b5, b6, b7, a7, a8, a9, b0, a3, b1, b3, a4, a6, a5, a0, a2, a1)) w9)
 (
 yaS yfY ((ya7 395 [1, 0, 1, 1, 1, 1]) (ya8 [1, 1, 1, 1, 0] [] R)) (yi7 (b8, (decide ((a3 : Int) > 0)), bm0, b4, b2, b5, b6, b7, a7, a8, a9, b0, a3, b1, b3, a4, a6, a5, a0, a2, a1)) w9))))
 (
 yaS yfY ((ya7 395 [1, 0, 1, 1, 1, 1]) (ya8 [1, 1, 1, 1, 0] [] R)) (yi7 (b8, false, bm0, b4, b2, b5, b6, b7, a7, a8, a9, b0, a3, b1, b3, a4, a6, a5, a0, a2, a1)) w9)
theorem yDg (J : ByteArray → Nat → Int → ByteArray → Int → Int → Int → Int → Int → Int → Option Addr → Nat → Nat → ByteArray → ByteArray → Int → Bool → Option Addr → Nat → Nat → World → Prop) (h0 : J s0 n0 i0 s1 i1 i2 i3 i4 i5 i6 q0 n1 n2 s2 s3 i7 B0 q1 n3 n4 w0)
 (hr : ∀ d5 bm0 b1 a9 b2 b3 b4 b5 b6 b7 a6 a8 a7 b0 s1 a5 a4 a1 a3 a2 w, J d5 bm0 b1 a9 b2 b3 b4 b5 b6 b7 a6 a8 a7 b0 s1 a5 a4 a1 a3 a2 w → yuQ d5 bm0 b1 a9 b2 b3 b4 b5 b6 b7 a6 a8 a7 b0 s1 a5 a4 a1 a3 a2 R w) :
 yaS yn0 ((ya7 396 [1, 1, 1, 1]) (ya8 [1, 1, 1] [] R)) (yuN (s0, n0, i0, s1, i1, i2, i3, i4, i5, i6, q0, n1, n2, s2, s3, i7, B0, q1, n3, n4)) w0 :=
 crule (yuN) (V20 J) h0 (by rintro ⟨d5, bm0, b1, a9, b2, b3, b4, b5, b6, b7, a6, a8, a7, b0, s1, a5, a4, a1, a3, a2⟩ w h; exact ⟨by kernel_rfl, by kernel_rfl, fun js => Eq.mpr (by kernel_rfl) (hr d5 bm0 b1 a9 b2 b3 b4 b5 b6 b7 a6 a8 a7 b0 s1 a5 a4 a1 a3 a2 w h)⟩)
theorem yFA (h : yuQ s0 n0 i0 s1 i1 i2 i3 i4 i5 i6 q0 n1 n2 s2 s3 i7 B0 q1 n3 n4 R w) :
 yaS yn0 ((ya7 396 [1, 1, 1, 1]) (ya8 [1, 1, 1] [] R)) (yuN (s0, n0, i0, s1, i1, i2, i3, i4, i5, i6, q0, n1, n2, s2, s3, i7, B0, q1, n3, n4)) w :=
 yDg (fun d7 bm0' c9 c7 d0 d1 d2 d3 d4 d5 c4 c6 c5 c8 b3 b7 b5 a6 b0 a8 w' => d7 = s0 ∧ bm0' = n0 ∧ c9 = i0 ∧ c7 = s1 ∧ d0 = i1 ∧ d1 = i2 ∧ d2 = i3 ∧ d3 = i4 ∧ d4 = i5 ∧ d5 = i6 ∧ c4 = q0 ∧ c6 = n1 ∧ c5 = n2 ∧ c8 = s2 ∧ b3 = s3 ∧ b7 = i7 ∧ b5 = B0 ∧ a6 = q1 ∧ b0 = n3 ∧ a8 = n4 ∧ w' = w) ⟨rfl, rfl, rfl, rfl, rfl, rfl, rfl, rfl, rfl, rfl, rfl, rfl, rfl, rfl, rfl, rfl, rfl, rfl, rfl, rfl, rfl⟩ (by rintro d7 bm0' c9 c7 d0 d1 d2 d3 d4 d5 c4 c6 c5 c8 b3 b7 b5 a6 b0 a8 w' ⟨rfl, rfl, rfl, rfl, rfl, rfl, rfl, rfl, rfl, rfl, rfl, rfl, rfl, rfl, rfl, rfl, rfl, rfl, rfl, rfl, rfl⟩; exact h)
def yAI (b9 : BA) (b8 : Bool) (bm0 : Nat) (b1 : Int) (a9 : BA) (b2 b3 b4 b5 b6 b7 : Int) (a6 : OA) (a8 a7 : Nat) (b0 a3 : BA) (a5 : Int) (a4 : Bool) (a0 : OA) (a2 a1 : Nat) (R : VWP) (w : World) : Prop :=
 brB b8 (
 R (.bool false) w)
 (
 yaS yn1 ((ya7 395 [1, 1, 1, 1, 1]) (ya8 [1, 1, 1, 1] [] R)) (yuO (b9, bm0, b1, a9, b2, b3, b4, b5, b6, b7, a6, a8, a7, b0, a3, a5, a4, a0, a2, a1)) w)
theorem yDh (J : ByteArray → Bool → Nat → Int → ByteArray → Int → Int → Int → Int → Int → Int → Option Addr → Nat → Nat → ByteArray → ByteArray → Int → Bool → Option Addr → Nat → Nat → World → Prop) (h0 : J s0 B0 n0 i0 s1 i1 i2 i3 i4 i5 i6 q0 n1 n2 s2 s3 i7 B1 q1 n3 n4 w0)
 (hr : ∀ d6 d5 bm0 b1 a9 b2 b3 b4 b5 b6 b7 a6 a8 a7 b0 s1 a5 a4 a1 a3 a2 w, J d6 d5 bm0 b1 a9 b2 b3 b4 b5 b6 b7 a6 a8 a7 b0 s1 a5 a4 a1 a3 a2 w → yAI d6 d5 bm0 b1 a9 b2 b3 b4 b5 b6 b7 a6 a8 a7 b0 s1 a5 a4 a1 a3 a2 R w) :
 yaS yfY ((ya7 395 [1, 0, 1, 1, 1, 1]) (ya8 [1, 1, 1, 1, 0] [] R)) (yi7 (s0, B0, n0, i0, s1, i1, i2, i3, i4, i5, i6, q0, n1, n2, s2, s3, i7, B1, q1, n3, n4)) w0 :=
 crule (yi7) (V21 J) h0 (by rintro ⟨d6, d5, bm0, b1, a9, b2, b3, b4, b5, b6, b7, a6, a8, a7, b0, s1, a5, a4, a1, a3, a2⟩ w h; exact ⟨by kernel_rfl, by kernel_rfl, fun js => Eq.mpr (by kernel_rfl) (hr d6 d5 bm0 b1 a9 b2 b3 b4 b5 b6 b7 a6 a8 a7 b0 s1 a5 a4 a1 a3 a2 w h)⟩)
theorem yFB (h : yAI s0 B0 n0 i0 s1 i1 i2 i3 i4 i5 i6 q0 n1 n2 s2 s3 i7 B1 q1 n3 n4 R w) :
 yaS yfY ((ya7 395 [1, 0, 1, 1, 1, 1]) (ya8 [1, 1, 1, 1, 0] [] R)) (yi7 (s0, B0, n0, i0, s1, i1, i2, i3, i4, i5, i6, q0, n1, n2, s2, s3, i7, B1, q1, n3, n4)) w :=
 yDh (fun d9 d7 bm0' c9 c7 d0 d1 d2 d3 d4 d5 c4 c6 c5 c8 b3 b7 b5 a6 b0 a8 w' => d9 = s0 ∧ d7 = B0 ∧ bm0' = n0 ∧ c9 = i0 ∧ c7 = s1 ∧ d0 = i1 ∧ d1 = i2 ∧ d2 = i3 ∧ d3 = i4 ∧ d4 = i5 ∧ d5 = i6 ∧ c4 = q0 ∧ c6 = n1 ∧ c5 = n2 ∧ c8 = s2 ∧ b3 = s3 ∧ b7 = i7 ∧ b5 = B1 ∧ a6 = q1 ∧ b0 = n3 ∧ a8 = n4 ∧ w' = w) ⟨rfl, rfl, rfl, rfl, rfl, rfl, rfl, rfl, rfl, rfl, rfl, rfl, rfl, rfl, rfl, rfl, rfl, rfl, rfl, rfl, rfl, rfl⟩ (by rintro d9 d7 bm0' c9 c7 d0 d1 d2 d3 d4 d5 c4 c6 c5 c8 b3 b7 b5 a6 b0 a8 w' ⟨rfl, rfl, rfl, rfl, rfl, rfl, rfl, rfl, rfl, rfl, rfl, rfl, rfl, rfl, rfl, rfl, rfl, rfl, rfl, rfl, rfl, rfl⟩; exact h)
def yuR (b8 : BA) (bm0 : Nat) (b1 : Int) (b0 : BA) (b2 b3 b4 b5 b6 b7 : Int) (a7 : OA) (a9 a8 : Nat) (a6 a1 : BA) (a0 : Int) (a5 : Bool) (a2 : OA) (a4 a3 : Nat) (R : VWP) (w : World) : Prop :=
 Calls pP 124 #[.string b8, .int .u8 103] w fun e b9 => ∃ c6, e = .returned (.bool c6) ∧ yaD [bm0] w b9 ∧
 brB (!c6) (
 brB (!(a6.toList == (⟨#[]⟩ : BA).toList)) (
 yaS yc6 ((ya7 394 [1, 0, 1, 1, 1, 1, 1]) (ya8 [1, 1, 1, 1, 1, 0] [] R)) (yeP (b8, true, bm0, b1, b0, b2, b3, b4, b5, b6, b7, a7, a9, a8, a6, a1, a0, a5, a2, a4, a3)) b9)
 (
 Calls pP 124 #[.string b8, .int .u8 109] b9 fun e c0 => ∃ c7, e = .returned (.bool c7) ∧ yaD [bm0] b9 c0 ∧
 brB (!c7) (
 brB (!(a1.toList == (⟨#[]⟩ : BA).toList)) (
 yaS yc6 ((ya7 394 [1, 0, 1, 1, 1, 1, 1]) (ya8 [1, 1, 1, 1, 1, 0] [] R)) (yeP (b8, true, bm0, b1, b0, b2, b3, b4, b5, b6, b7, a7, a9, a8, a6, a1, a0, a5, a2, a4, a3)) c0)
 (
 Calls pP 124 #[.string b8, .int .u8 101] c0 fun e c2 => ∃ c8, e = .returned (.bool c8) ∧ yaD [bm0] c0 c2 ∧
 brB (!c8) (
 yaS yc6 ((ya7 394 [1, 0, 1, 1, 1, 1, 1]) (ya8 [1, 1, 1, 1, 1, 0] [] R)) (yeP (b8, (a0 != 0), bm0, b1, b0, b2, b3, b4, b5, b6, b7, a7, a9, a8, a6, a1, a0, a5, a2, a4, a3)) c2)
 (
 yaS yc6 ((ya7 394 [1, 0, 1, 1, 1, 1, 1]) (ya8 [1, 1, 1, 1, 1, 0] [] R)) (yeP (b8, false, bm0, b1, b0, b2, b3, b4, b5, b6, b7, a7, a9, a8, a6, a1, a0, a5, a2, a4, a3)) c2)))
 (
 Calls pP 124 #[.string b8, .int .u8 101] c0 fun e c3 => ∃ c9, e = .returned (.bool c9) ∧ yaD [bm0] c0 c3 ∧
 brB (!c9) (
 yaS yc6 ((ya7 394 [1, 0, 1, 1, 1, 1, 1]) (ya8 [1, 1, 1, 1, 1, 0] [] R)) (yeP (b8, (a0 != 0), bm0, b1, b0, b2, b3, b4, b5, b6, b7, a7, a9, a8, a6, a1, a0, a5, a2, a4, a3)) c3)
 (
 yaS yc6 ((ya7 394 [1, 0, 1, 1, 1, 1, 1]) (ya8 [1, 1, 1, 1, 1, 0] [] R)) (yeP (b8, false, bm0, b1, b0, b2, b3, b4, b5, b6, b7, a7, a9, a8, a6, a1, a0, a5, a2, a4, a3)) c3))))
 (
 Calls pP 124 #[.string b8, .int .u8 109] b9 fun e c1 => ∃ d0, e = .returned (.bool d0) ∧ yaD [bm0] b9 c1 ∧
 brB (!d0) (
 brB (!(a1.toList == (⟨#[]⟩ : BA).toList)) (
 yaS yc6 ((ya7 394 [1, 0, 1, 1, 1, 1, 1]) (ya8 [1, 1, 1, 1, 1, 0] [] R)) (yeP (b8, true, bm0, b1, b0, b2, b3, b4, b5, b6, b7, a7, a9, a8, a6, a1, a0, a5, a2, a4, a3)) c1)
 (
 Calls pP 124 #[.string b8, .int .u8 101] c1 fun e c4 => ∃ d1, e = .returned (.bool d1) ∧ yaD [bm0] c1 c4 ∧
 brB (!d1) (
 yaS yc6 ((ya7 394 [1, 0, 1, 1, 1, 1, 1]) (ya8 [1, 1, 1, 1, 1, 0] [] R)) (yeP (b8, (a0 != 0), bm0, b1, b0, b2, b3, b4, b5, b6, b7, a7, a9, a8, a6, a1, a0, a5, a2, a4, a3)) c4)
 (
 yaS yc6 ((ya7 394 [1, 0, 1, 1, 1, 1, 1]) (ya8 [1, 1, 1, 1, 1, 0] [] R)) (yeP (b8, false, bm0, b1, b0, b2, b3, b4, b5, b6, b7, a7, a9, a8, a6, a1, a0, a5, a2, a4, a3)) c4)))
 (
 Calls pP 124 #[.string b8, .int .u8 101] c1 fun e c5 => ∃ d2, e = .returned (.bool d2) ∧ yaD [bm0] c1 c5 ∧
 brB (!d2) (
 yaS yc6 ((ya7 394 [1, 0, 1, 1, 1, 1, 1]) (ya8 [1, 1, 1, 1, 1, 0] [] R)) (yeP (b8, (a0 != 0), bm0, b1, b0, b2, b3, b4, b5, b6, b7, a7, a9, a8, a6, a1, a0, a5, a2, a4, a3)) c5)
 (
 yaS yc6 ((ya7 394 [1, 0, 1, 1, 1, 1, 1]) (ya8 [1, 1, 1, 1, 1, 0] [] R)) (yeP (b8, false, bm0, b1, b0, b2, b3, b4, b5, b6, b7, a7, a9, a8, a6, a1, a0, a5, a2, a4, a3)) c5)))
theorem yDi (J : ByteArray → Nat → Int → ByteArray → Int → Int → Int → Int → Int → Int → Option Addr → Nat → Nat → ByteArray → ByteArray → Int → Bool → Option Addr → Nat → Nat → World → Prop) (h0 : J s0 n0 i0 s1 i1 i2 i3 i4 i5 i6 q0 n1 n2 s2 s3 i7 B0 q1 n3 n4 w0)
 (hr : ∀ d5 bm0 b1 a9 b2 b3 b4 b5 b6 b7 a6 a8 a7 b0 s1 a5 a4 a1 a3 a2 w, J d5 bm0 b1 a9 b2 b3 b4 b5 b6 b7 a6 a8 a7 b0 s1 a5 a4 a1 a3 a2 w → yuR d5 bm0 b1 a9 b2 b3 b4 b5 b6 b7 a6 a8 a7 b0 s1 a5 a4 a1 a3 a2 R w) :
 yaS yn1 ((ya7 395 [1, 1, 1, 1, 1]) (ya8 [1, 1, 1, 1] [] R)) (yuO (s0, n0, i0, s1, i1, i2, i3, i4, i5, i6, q0, n1, n2, s2, s3, i7, B0, q1, n3, n4)) w0 :=
 crule (yuO) (V20 J) h0 (by rintro ⟨d5, bm0, b1, a9, b2, b3, b4, b5, b6, b7, a6, a8, a7, b0, s1, a5, a4, a1, a3, a2⟩ w h; exact ⟨by kernel_rfl, by kernel_rfl, fun js => Eq.mpr (by kernel_rfl) (hr d5 bm0 b1 a9 b2 b3 b4 b5 b6 b7 a6 a8 a7 b0 s1 a5 a4 a1 a3 a2 w h)⟩)
theorem yFC (h : yuR s0 n0 i0 s1 i1 i2 i3 i4 i5 i6 q0 n1 n2 s2 s3 i7 B0 q1 n3 n4 R w) :
 yaS yn1 ((ya7 395 [1, 1, 1, 1, 1]) (ya8 [1, 1, 1, 1] [] R)) (yuO (s0, n0, i0, s1, i1, i2, i3, i4, i5, i6, q0, n1, n2, s2, s3, i7, B0, q1, n3, n4)) w :=
 yDi (fun d7 bm0' c9 c7 d0 d1 d2 d3 d4 d5 c4 c6 c5 c8 b3 b7 b5 a6 b0 a8 w' => d7 = s0 ∧ bm0' = n0 ∧ c9 = i0 ∧ c7 = s1 ∧ d0 = i1 ∧ d1 = i2 ∧ d2 = i3 ∧ d3 = i4 ∧ d4 = i5 ∧ d5 = i6 ∧ c4 = q0 ∧ c6 = n1 ∧ c5 = n2 ∧ c8 = s2 ∧ b3 = s3 ∧ b7 = i7 ∧ b5 = B0 ∧ a6 = q1 ∧ b0 = n3 ∧ a8 = n4 ∧ w' = w) ⟨rfl, rfl, rfl, rfl, rfl, rfl, rfl, rfl, rfl, rfl, rfl, rfl, rfl, rfl, rfl, rfl, rfl, rfl, rfl, rfl, rfl⟩ (by rintro d7 bm0' c9 c7 d0 d1 d2 d3 d4 d5 c4 c6 c5 c8 b3 b7 b5 a6 b0 a8 w' ⟨rfl, rfl, rfl, rfl, rfl, rfl, rfl, rfl, rfl, rfl, rfl, rfl, rfl, rfl, rfl, rfl, rfl, rfl, rfl, rfl, rfl⟩; exact h)
def yAJ (b9 : BA) (b8 : Bool) (bm0 : Nat) (b1 : Int) (a9 : BA) (b2 b3 b4 b5 b6 b7 : Int) (a6 : OA) (a8 a7 : Nat) (b0 a3 : BA) (a5 : Int) (a4 : Bool) (a0 : OA) (a2 a1 : Nat) (R : VWP) (w : World) : Prop :=
 brB b8 (
 R (.bool false) w)
 (
 yaS yn2 ((ya7 394 [1, 1, 1, 1, 1, 1]) (ya8 [1, 1, 1, 1, 1] [] R)) (yuP (b9, bm0, b1, a9, b2, b3, b4, b5, b6, b7, a6, a8, a7, b0, a3, a5, a4, a0, a2, a1)) w)
theorem yDj (J : ByteArray → Bool → Nat → Int → ByteArray → Int → Int → Int → Int → Int → Int → Option Addr → Nat → Nat → ByteArray → ByteArray → Int → Bool → Option Addr → Nat → Nat → World → Prop) (h0 : J s0 B0 n0 i0 s1 i1 i2 i3 i4 i5 i6 q0 n1 n2 s2 s3 i7 B1 q1 n3 n4 w0)
 (hr : ∀ d7 b8 bm0 b1 a9 b2 b3 b4 b5 b6 b7 a6 a8 a7 b0 s1 a5 a4 a1 a3 a2 w, J d7 b8 bm0 b1 a9 b2 b3 b4 b5 b6 b7 a6 a8 a7 b0 s1 a5 a4 a1 a3 a2 w → yAJ d7 b8 bm0 b1 a9 b2 b3 b4 b5 b6 b7 a6 a8 a7 b0 s1 a5 a4 a1 a3 a2 R w) :
 yaS yc6 ((ya7 394 [1, 0, 1, 1, 1, 1, 1]) (ya8 [1, 1, 1, 1, 1, 0] [] R)) (yeP (s0, B0, n0, i0, s1, i1, i2, i3, i4, i5, i6, q0, n1, n2, s2, s3, i7, B1, q1, n3, n4)) w0 :=
 crule (yeP) (V21 J) h0 (by rintro ⟨d7, b8, bm0, b1, a9, b2, b3, b4, b5, b6, b7, a6, a8, a7, b0, s1, a5, a4, a1, a3, a2⟩ w h; exact ⟨by kernel_rfl, by kernel_rfl, fun js => Eq.mpr (by kernel_rfl) (hr d7 b8 bm0 b1 a9 b2 b3 b4 b5 b6 b7 a6 a8 a7 b0 s1 a5 a4 a1 a3 a2 w h)⟩)
theorem yFD (h : yAJ s0 B0 n0 i0 s1 i1 i2 i3 i4 i5 i6 q0 n1 n2 s2 s3 i7 B1 q1 n3 n4 R w) :
 yaS yc6 ((ya7 394 [1, 0, 1, 1, 1, 1, 1]) (ya8 [1, 1, 1, 1, 1, 0] [] R)) (yeP (s0, B0, n0, i0, s1, i1, i2, i3, i4, i5, i6, q0, n1, n2, s2, s3, i7, B1, q1, n3, n4)) w :=
 yDj (fun d9 d7 bm0' c9 c7 d0 d1 d2 d3 d4 d5 c4 c6 c5 c8 b3 b7 b5 a6 b0 a8 w' => d9 = s0 ∧ d7 = B0 ∧ bm0' = n0 ∧ c9 = i0 ∧ c7 = s1 ∧ d0 = i1 ∧ d1 = i2 ∧ d2 = i3 ∧ d3 = i4 ∧ d4 = i5 ∧ d5 = i6 ∧ c4 = q0 ∧ c6 = n1 ∧ c5 = n2 ∧ c8 = s2 ∧ b3 = s3 ∧ b7 = i7 ∧ b5 = B1 ∧ a6 = q1 ∧ b0 = n3 ∧ a8 = n4 ∧ w' = w) ⟨rfl, rfl, rfl, rfl, rfl, rfl, rfl, rfl, rfl, rfl, rfl, rfl, rfl, rfl, rfl, rfl, rfl, rfl, rfl, rfl, rfl, rfl⟩ (by rintro d9 d7 bm0' c9 c7 d0 d1 d2 d3 d4 d5 c4 c6 c5 c8 b3 b7 b5 a6 b0 a8 w' ⟨rfl, rfl, rfl, rfl, rfl, rfl, rfl, rfl, rfl, rfl, rfl, rfl, rfl, rfl, rfl, rfl, rfl, rfl, rfl, rfl, rfl, rfl⟩; exact h)
def yAK (b1 : BA) (bm0 : Nat) (b4 : Int) (b2 : BA) (b5 b6 b7 b8 b9 c0 : Int) (a8 : OA) (b0 a9 : Nat) (b3 a6 : BA) (a7 : Int) (a2 : Bool) (a4 : OA) (a1 a5 : Nat) (R : VWP) (w : World) : Prop :=
 Calls pP 124 #[.string b1, .int .u8 114] w fun e a0 => ∃ a3, e = .returned (.bool a3) ∧ yaD [bm0] w a0 ∧
 brB a3 (
 R (.bool true) a0)
 (
 brB (!a2) (
 R (.bool ((a1 : Int) == 0)) a0)
 (
 R (.bool false) a0))
theorem yDk (J : ByteArray → Nat → Int → ByteArray → Int → Int → Int → Int → Int → Int → Option Addr → Nat → Nat → ByteArray → ByteArray → Int → Bool → Option Addr → Nat → Nat → World → Prop) (h0 : J s0 n0 i0 s1 i1 i2 i3 i4 i5 i6 q0 n1 n2 s2 s3 i7 B0 q1 n3 n4 w0)
 (hr : ∀ d5 bm0 b1 a9 b2 b3 b4 b5 b6 b7 a6 a8 a7 b0 s1 a5 a4 a1 a3 a2 w, J d5 bm0 b1 a9 b2 b3 b4 b5 b6 b7 a6 a8 a7 b0 s1 a5 a4 a1 a3 a2 w → yAK d5 bm0 b1 a9 b2 b3 b4 b5 b6 b7 a6 a8 a7 b0 s1 a5 a4 a1 a3 a2 R w) :
 yaS yn2 ((ya7 394 [1, 1, 1, 1, 1, 1]) (ya8 [1, 1, 1, 1, 1] [] R)) (yuP (s0, n0, i0, s1, i1, i2, i3, i4, i5, i6, q0, n1, n2, s2, s3, i7, B0, q1, n3, n4)) w0 :=
 crule (yuP) (V20 J) h0 (by rintro ⟨d5, bm0, b1, a9, b2, b3, b4, b5, b6, b7, a6, a8, a7, b0, s1, a5, a4, a1, a3, a2⟩ w h; exact ⟨by kernel_rfl, by kernel_rfl, fun js => Eq.mpr (by kernel_rfl) (hr d5 bm0 b1 a9 b2 b3 b4 b5 b6 b7 a6 a8 a7 b0 s1 a5 a4 a1 a3 a2 w h)⟩)
theorem yFE (h : yAK s0 n0 i0 s1 i1 i2 i3 i4 i5 i6 q0 n1 n2 s2 s3 i7 B0 q1 n3 n4 R w) :
 yaS yn2 ((ya7 394 [1, 1, 1, 1, 1, 1]) (ya8 [1, 1, 1, 1, 1] [] R)) (yuP (s0, n0, i0, s1, i1, i2, i3, i4, i5, i6, q0, n1, n2, s2, s3, i7, B0, q1, n3, n4)) w :=
 yDk (fun d7 bm0' c9 c7 d0 d1 d2 d3 d4 d5 c4 c6 c5 c8 b3 b7 b5 a6 b0 a8 w' => d7 = s0 ∧ bm0' = n0 ∧ c9 = i0 ∧ c7 = s1 ∧ d0 = i1 ∧ d1 = i2 ∧ d2 = i3 ∧ d3 = i4 ∧ d4 = i5 ∧ d5 = i6 ∧ c4 = q0 ∧ c6 = n1 ∧ c5 = n2 ∧ c8 = s2 ∧ b3 = s3 ∧ b7 = i7 ∧ b5 = B0 ∧ a6 = q1 ∧ b0 = n3 ∧ a8 = n4 ∧ w' = w) ⟨rfl, rfl, rfl, rfl, rfl, rfl, rfl, rfl, rfl, rfl, rfl, rfl, rfl, rfl, rfl, rfl, rfl, rfl, rfl, rfl, rfl⟩ (by rintro d7 bm0' c9 c7 d0 d1 d2 d3 d4 d5 c4 c6 c5 c8 b3 b7 b5 a6 b0 a8 w' ⟨rfl, rfl, rfl, rfl, rfl, rfl, rfl, rfl, rfl, rfl, rfl, rfl, rfl, rfl, rfl, rfl, rfl, rfl, rfl, rfl, rfl⟩; exact h)
theorem yIt {b4 : BA} {b8 a7 : BA} (h :
 ∀ b1, w.heap.size ≤ b1 →
 ∀ w2, Adv [] [b1] w w2 →
 Calls pP 101 #[.int .i64 i0] w2 fun e w3 => ∃ s4, e = .returned (.string s4) ∧ yaD [b1] w2 w3 ∧
 Calls pP 124 #[.string s4, .int .u8 112] w3 fun e w5 => ∃ t6, e = .returned (.bool t6) ∧ yaD [b1] w3 w5 ∧
 Calls pP 124 #[.string s4, .int .u8 116] w5 fun e w7 => ∃ t8, e = .returned (.bool t8) ∧ yaD [b1] w5 w7 ∧
 brB (!t6) (
 brB (!t8) (
 brB (!(b4.toList == (⟨#[]⟩ : BA).toList)) (
 yaS ya3 ((ya7 396 [1, 0, 1, 1, 1]) (ya8 [1, 1, 1, 0] [] R)) (ybE (s4, true, b1, i0, b4, i1, i2, i3, i4, i5, i6, q0, n0, n1, b8, a7, i7, B0, q1, n2, n3)) w7)
 (
 brB (!t6) (
 brB (i1 != 0) (
 yaS ya3 ((ya7 396 [1, 0, 1, 1, 1]) (ya8 [1, 1, 1, 0] [] R)) (ybE (s4, true, b1, i0, b4, i1, i2, i3, i4, i5, i6, q0, n0, n1, b8, a7, i7, B0, q1, n2, n3)) w7)
 (
 Calls pP 124 #[.string s4, .int .u8 110] w7 fun e b9 => ∃ d7, e = .returned (.bool d7) ∧ yaD [b1] w7 b9 ∧
 brB (!d7) (
 brB (i2 != 0) (
 yaS ya3 ((ya7 396 [1, 0, 1, 1, 1]) (ya8 [1, 1, 1, 0] [] R)) (ybE (s4, true, b1, i0, b4, i1, i2, i3, i4, i5, i6, q0, n0, n1, b8, a7, i7, B0, q1, n2, n3)) b9)
 (
 Calls pP 124 #[.string s4, .int .u8 111] b9 fun e c5 => ∃ d8, e = .returned (.bool d8) ∧ yaD [b1] b9 c5 ∧
 brB (!d8) (
 yaS ya3 ((ya7 396 [1, 0, 1, 1, 1]) (ya8 [1, 1, 1, 0] [] R)) (ybE (s4, (i3 != 0), b1, i0, b4, i1, i2, i3, i4, i5, i6, q0, n0, n1, b8, a7, i7, B0, q1, n2, n3)) c5)
 (
 yaS ya3 ((ya7 396 [1, 0, 1, 1, 1]) (ya8 [1, 1, 1, 0] [] R)) (ybE (s4, false, b1, i0, b4, i1, i2, i3, i4, i5, i6, q0, n0, n1, b8, a7, i7, B0, q1, n2, n3)) c5)))
 (
 Calls pP 124 #[.string s4, .int .u8 111] b9 fun e c6 => ∃ d9, e = .returned (.bool d9) ∧ yaD [b1] b9 c6 ∧
 brB (!d9) (
 yaS ya3 ((ya7 396 [1, 0, 1, 1, 1]) (ya8 [1, 1, 1, 0] [] R)) (ybE (s4, (i3 != 0), b1, i0, b4, i1, i2, i3, i4, i5, i6, q0, n0, n1, b8, a7, i7, B0, q1, n2, n3)) c6)
 (
 yaS ya3 ((ya7 396 [1, 0, 1, 1, 1]) (ya8 [1, 1, 1, 0] [] R)) (ybE (s4, false, b1, i0, b4, i1, i2, i3, i4, i5, i6, q0, n0, n1, b8, a7, i7, B0, q1, n2, n3)) c6))))
 (
 Calls pP 124 #[.string s4, .int .u8 110] w7 fun e c0 => ∃ e0, e = .returned (.bool e0) ∧ yaD [b1] w7 c0 ∧
 brB (!e0) (
 brB (i2 != 0) (
 yaS ya3 ((ya7 396 [1, 0, 1, 1, 1]) (ya8 [1, 1, 1, 0] [] R)) (ybE (s4, true, b1, i0, b4, i1, i2, i3, i4, i5, i6, q0, n0, n1, b8, a7, i7, B0, q1, n2, n3)) c0)
 (
 Calls pP 124 #[.string s4, .int .u8 111] c0 fun e c7 => ∃ e1, e = .returned (.bool e1) ∧ yaD [b1] c0 c7 ∧
 brB (!e1) (
 yaS ya3 ((ya7 396 [1, 0, 1, 1, 1]) (ya8 [1, 1, 1, 0] [] R)) (ybE (s4, (i3 != 0), b1, i0, b4, i1, i2, i3, i4, i5, i6, q0, n0, n1, b8, a7, i7, B0, q1, n2, n3)) c7)
 (
 yaS ya3 ((ya7 396 [1, 0, 1, 1, 1]) (ya8 [1, 1, 1, 0] [] R)) (ybE (s4, false, b1, i0, b4, i1, i2, i3, i4, i5, i6, q0, n0, n1, b8, a7, i7, B0, q1, n2, n3)) c7)))
 (
 Calls pP 124 #[.string s4, .int .u8 111] c0 fun e c8 => ∃ e2, e = .returned (.bool e2) ∧ yaD [b1] c0 c8 ∧
 brB (!e2) (
 yaS ya3 ((ya7 396 [1, 0, 1, 1, 1]) (ya8 [1, 1, 1, 0] [] R)) (ybE (s4, (i3 != 0), b1, i0, b4, i1, i2, i3, i4, i5, i6, q0, n0, n1, b8, a7, i7, B0, q1, n2, n3)) c8)
 (
 yaS ya3 ((ya7 396 [1, 0, 1, 1, 1]) (ya8 [1, 1, 1, 0] [] R)) (ybE (s4, false, b1, i0, b4, i1, i2, i3, i4, i5, i6, q0, n0, n1, b8, a7, i7, B0, q1, n2, n3)) c8)))))
 (
 brB (!t6) (
 brB (i1 != 0) (
 yaS ya3 ((ya7 396 [1, 0, 1, 1, 1]) (ya8 [1, 1, 1, 0] [] R)) (ybE (s4, true, b1, i0, b4, i1, i2, i3, i4, i5, i6, q0, n0, n1, b8, a7, i7, B0, q1, n2, n3)) w7)
 (
 Calls pP 124 #[.string s4, .int .u8 110] w7 fun e c1 => ∃ e3, e = .returned (.bool e3) ∧ yaD [b1] w7 c1 ∧
 brB (!e3) (
 brB (i2 != 0) (
 yaS ya3 ((ya7 396 [1, 0, 1, 1, 1]) (ya8 [1, 1, 1, 0] [] R)) (ybE (s4, true, b1, i0, b4, i1, i2, i3, i4, i5, i6, q0, n0, n1, b8, a7, i7, B0, q1, n2, n3)) c1)
 (
 Calls pP 124 #[.string s4, .int .u8 111] c1 fun e c9 => ∃ e4, e = .returned (.bool e4) ∧ yaD [b1] c1 c9 ∧
 brB (!e4) (
 yaS ya3 ((ya7 396 [1, 0, 1, 1, 1]) (ya8 [1, 1, 1, 0] [] R)) (ybE (s4, (i3 != 0), b1, i0, b4, i1, i2, i3, i4, i5, i6, q0, n0, n1, b8, a7, i7, B0, q1, n2, n3)) c9)
 (
 yaS ya3 ((ya7 396 [1, 0, 1, 1, 1]) (ya8 [1, 1, 1, 0] [] R)) (ybE (s4, false, b1, i0, b4, i1, i2, i3, i4, i5, i6, q0, n0, n1, b8, a7, i7, B0, q1, n2, n3)) c9)))
 (
 Calls pP 124 #[.string s4, .int .u8 111] c1 fun e d0 => ∃ e5, e = .returned (.bool e5) ∧ yaD [b1] c1 d0 ∧
 brB (!e5) (
 yaS ya3 ((ya7 396 [1, 0, 1, 1, 1]) (ya8 [1, 1, 1, 0] [] R)) (ybE (s4, (i3 != 0), b1, i0, b4, i1, i2, i3, i4, i5, i6, q0, n0, n1, b8, a7, i7, B0, q1, n2, n3)) d0)
 (
 yaS ya3 ((ya7 396 [1, 0, 1, 1, 1]) (ya8 [1, 1, 1, 0] [] R)) (ybE (s4, false, b1, i0, b4, i1, i2, i3, i4, i5, i6, q0, n0, n1, b8, a7, i7, B0, q1, n2, n3)) d0))))
 (
 Calls pP 124 #[.string s4, .int .u8 110] w7 fun e c2 => ∃ e6, e = .returned (.bool e6) ∧ yaD [b1] w7 c2 ∧
 brB (!e6) (
 brB (i2 != 0) (
 yaS ya3 ((ya7 396 [1, 0, 1, 1, 1]) (ya8 [1, 1, 1, 0] [] R)) (ybE (s4, true, b1, i0, b4, i1, i2, i3, i4, i5, i6, q0, n0, n1, b8, a7, i7, B0, q1, n2, n3)) c2)
 (
 Calls pP 124 #[.string s4, .int .u8 111] c2 fun e d1 => ∃ e7, e = .returned (.bool e7) ∧ yaD [b1] c2 d1 ∧
 brB (!e7) (
 yaS ya3 ((ya7 396 [1, 0, 1, 1, 1]) (ya8 [1, 1, 1, 0] [] R)) (ybE (s4, (i3 != 0), b1, i0, b4, i1, i2, i3, i4, i5, i6, q0, n0, n1, b8, a7, i7, B0, q1, n2, n3)) d1)
 (
 yaS ya3 ((ya7 396 [1, 0, 1, 1, 1]) (ya8 [1, 1, 1, 0] [] R)) (ybE (s4, false, b1, i0, b4, i1, i2, i3, i4, i5, i6, q0, n0, n1, b8, a7, i7, B0, q1, n2, n3)) d1)))
 (
 Calls pP 124 #[.string s4, .int .u8 111] c2 fun e d2 => ∃ e8, e = .returned (.bool e8) ∧ yaD [b1] c2 d2 ∧
 brB (!e8) (
 yaS ya3 ((ya7 396 [1, 0, 1, 1, 1]) (ya8 [1, 1, 1, 0] [] R)) (ybE (s4, (i3 != 0), b1, i0, b4, i1, i2, i3, i4, i5, i6, q0, n0, n1, b8, a7, i7, B0, q1, n2, n3)) d2)
 (
 yaS ya3 ((ya7 396 [1, 0, 1, 1, 1]) (ya8 [1, 1, 1, 0] [] R)) (ybE (s4, false, b1, i0, b4, i1, i2, i3, i4, i5, i6, q0, n0, n1, b8, a7, i7, B0, q1, n2, n3)) d2)))))
 (
 brB (!t6) (
 brB (i1 != 0) (
 yaS ya3 ((ya7 396 [1, 0, 1, 1, 1]) (ya8 [1, 1, 1, 0] [] R)) (ybE (s4, true, b1, i0, b4, i1, i2, i3, i4, i5, i6, q0, n0, n1, b8, a7, i7, B0, q1, n2, n3)) w7)
 (
 Calls pP 124 #[.string s4, .int .u8 110] w7 fun e c3 => ∃ e9, e = .returned (.bool e9) ∧ yaD [b1] w7 c3 ∧
 brB (!e9) (
 brB (i2 != 0) (
 yaS ya3 ((ya7 396 [1, 0, 1, 1, 1]) (ya8 [1, 1, 1, 0] [] R)) (ybE (s4, true, b1, i0, b4, i1, i2, i3, i4, i5, i6, q0, n0, n1, b8, a7, i7, B0, q1, n2, n3)) c3)
 (
 Calls pP 124 #[.string s4, .int .u8 111] c3 fun e d3 => ∃ f0, e = .returned (.bool f0) ∧ yaD [b1] c3 d3 ∧
 brB (!f0) (
 yaS ya3 ((ya7 396 [1, 0, 1, 1, 1]) (ya8 [1, 1, 1, 0] [] R)) (ybE (s4, (i3 != 0), b1, i0, b4, i1, i2, i3, i4, i5, i6, q0, n0, n1, b8, a7, i7, B0, q1, n2, n3)) d3)
 (
 yaS ya3 ((ya7 396 [1, 0, 1, 1, 1]) (ya8 [1, 1, 1, 0] [] R)) (ybE (s4, false, b1, i0, b4, i1, i2, i3, i4, i5, i6, q0, n0, n1, b8, a7, i7, B0, q1, n2, n3)) d3)))
 (
 Calls pP 124 #[.string s4, .int .u8 111] c3 fun e d4 => ∃ f1, e = .returned (.bool f1) ∧ yaD [b1] c3 d4 ∧
 brB (!f1) (
 yaS ya3 ((ya7 396 [1, 0, 1, 1, 1]) (ya8 [1, 1, 1, 0] [] R)) (ybE (s4, (i3 != 0), b1, i0, b4, i1, i2, i3, i4, i5, i6, q0, n0, n1, b8, a7, i7, B0, q1, n2, n3)) d4)
 (
 yaS ya3 ((ya7 396 [1, 0, 1, 1, 1]) (ya8 [1, 1, 1, 0] [] R)) (ybE (s4, false, b1, i0, b4, i1, i2, i3, i4, i5, i6, q0, n0, n1, b8, a7, i7, B0, q1, n2, n3)) d4))))
 (
 Calls pP 124 #[.string s4, .int .u8 110] w7 fun e c4 => ∃ f2, e = .returned (.bool f2) ∧ yaD [b1] w7 c4 ∧
 brB (!f2) (
 brB (i2 != 0) (
 yaS ya3 ((ya7 396 [1, 0, 1, 1, 1]) (ya8 [1, 1, 1, 0] [] R)) (ybE (s4, true, b1, i0, b4, i1, i2, i3, i4, i5, i6, q0, n0, n1, b8, a7, i7, B0, q1, n2, n3)) c4)
 (
 Calls pP 124 #[.string s4, .int .u8 111] c4 fun e d5 => ∃ f3, e = .returned (.bool f3) ∧ yaD [b1] c4 d5 ∧
 brB (!f3) (
 yaS ya3 ((ya7 396 [1, 0, 1, 1, 1]) (ya8 [1, 1, 1, 0] [] R)) (ybE (s4, (i3 != 0), b1, i0, b4, i1, i2, i3, i4, i5, i6, q0, n0, n1, b8, a7, i7, B0, q1, n2, n3)) d5)
 (
 yaS ya3 ((ya7 396 [1, 0, 1, 1, 1]) (ya8 [1, 1, 1, 0] [] R)) (ybE (s4, false, b1, i0, b4, i1, i2, i3, i4, i5, i6, q0, n0, n1, b8, a7, i7, B0, q1, n2, n3)) d5)))
 (
 Calls pP 124 #[.string s4, .int .u8 111] c4 fun e d6 => ∃ f4, e = .returned (.bool f4) ∧ yaD [b1] c4 d6 ∧
 brB (!f4) (
 yaS ya3 ((ya7 396 [1, 0, 1, 1, 1]) (ya8 [1, 1, 1, 0] [] R)) (ybE (s4, (i3 != 0), b1, i0, b4, i1, i2, i3, i4, i5, i6, q0, n0, n1, b8, a7, i7, B0, q1, n2, n3)) d6)
 (
 yaS ya3 ((ya7 396 [1, 0, 1, 1, 1]) (ya8 [1, 1, 1, 0] [] R)) (ybE (s4, false, b1, i0, b4, i1, i2, i3, i4, i5, i6, q0, n0, n1, b8, a7, i7, B0, q1, n2, n3)) d6))))) :
 CR pP 123 #[(.agg (Z1 i0 b4 i1 i2 i3 i4 i5 i6 q0 n0 n1 b8 a7 i7 B0 q1 n2 n3))] w R :=
 yaA Tryz.wide_mixed (an := yuM) Tryz.func123 rfl rfl (by kernel_rfl) rfl (Eq.mpr (by kernel_rfl) h)
def ybF : LA := ⟨[1, 1, 1, 1], [1], [(1, 0, 0)], 1, []⟩
def yuS : List LA := [ybF]
abbrev ydQ := dnF pP yuS (code Tryz.f100)
abbrev yLG := yaN pP yuS (code Tryz.f100)
abbrev ydR (p : List Nat) (K : List Kh) (R : VWP) := yaN pP yuS (code Tryz.f100) p K (ya4 pP Tryz.f100 [] R)
def yb3 : Nat × Int × ByteArray × Int × Int × Int × Int × Int × Int × (Option Addr) × Nat × Nat × ByteArray × ByteArray × Int × Bool × (Option Addr) × Nat × Nat → List Value × List TB := fun (bm0, b1, a9, b2, b3, b4, b5, b6, b7, a6, a8, a7, b0, a3, a5, a4, a0, a2, a1) => ([(.pointer (some ⟨bm0, 0, none⟩))], [⟨bm0, 49, [.int .i64 b1, .string a9, .int .i64 b2, .int .i64 b3, .int .i64 b4, .int .i64 b5, .int .i64 b6, .int .i64 b7, .slice a6 a8 a7, .string b0, .string a3, .int .i64 a5, .bool a4, .slice a0 a2 a1], false⟩])
def yAL (bm0 : Nat) (a8 : Int) (c6 : BA) (a9 b0 b1 b2 b3 b4 : Int) (a5 : OA) (a7 a6 : Nat) (c7 c4 : BA) (a4 : Int) (c5 : Bool) (c1 : OA) (c3 c2 : Nat) (R : VWP) (w : World) : Prop :=
 Calls pP 36 #[.int .i64 a9] w fun e a1 => ∃ b5, e = .returned (.bool b5) ∧ yaD [bm0] w a1 ∧
 brB (!b5) (
 R (.int .i64 1) a1)
 (
 Calls pP 36 #[.int .i64 b0] a1 fun e a2 => ∃ b6, e = .returned (.bool b6) ∧ yaD [bm0] a1 a2 ∧
 brB (!b6) (
 R (.int .i64 1) a2)
 (
 Calls pP 36 #[.int .i64 b1] a2 fun e a3 => ∃ b7, e = .returned (.bool b7) ∧ yaD [bm0] a2 a3 ∧
 brB (!b7) (
 R (.int .i64 1) a3)
 (
 Calls pP 36 #[.int .i64 a4] a3 fun e a0 => ∃ b8, e = .returned (.bool b8) ∧ yaD [bm0] a3 a0 ∧
 brB (!b8) (
 R (.int .i64 1) a0)
 (
 brB (a8 == 2) (
 Calls pP 126 #[(.agg (Z9 b2 b3 b4 a5 a7 a6))] a0 fun e b9 => ∃ c0, e = .returned (.int .i64 c0) ∧ yaD [bm0] a0 b9 ∧
 R (.int .i64 c0) b9)
 (
 R (.int .i64 0) a0)))))
theorem yDl (J : Nat → Int → ByteArray → Int → Int → Int → Int → Int → Int → Option Addr → Nat → Nat → ByteArray → ByteArray → Int → Bool → Option Addr → Nat → Nat → World → Prop) (h0 : J n0 i0 s0 i1 i2 i3 i4 i5 i6 q0 n1 n2 s1 s2 i7 B0 q1 n3 n4 w0)
 (hr : ∀ bm0 b1 a9 b2 b3 b4 b5 b6 b7 a6 a8 a7 b0 s0 a5 a4 a1 a3 a2 w, J bm0 b1 a9 b2 b3 b4 b5 b6 b7 a6 a8 a7 b0 s0 a5 a4 a1 a3 a2 w → yAL bm0 b1 a9 b2 b3 b4 b5 b6 b7 a6 a8 a7 b0 s0 a5 a4 a1 a3 a2 R w) :
 yaS ybF ((ydQ 396 [1, 1, 1, 1]) (ydR [1, 1, 1] [] R)) (yb3 (n0, i0, s0, i1, i2, i3, i4, i5, i6, q0, n1, n2, s1, s2, i7, B0, q1, n3, n4)) w0 :=
 crule (yb3) (V19 J) h0 (by rintro ⟨bm0, b1, a9, b2, b3, b4, b5, b6, b7, a6, a8, a7, b0, s0, a5, a4, a1, a3, a2⟩ w h; exact ⟨by kernel_rfl, by kernel_rfl, fun js => Eq.mpr (by kernel_rfl) (hr bm0 b1 a9 b2 b3 b4 b5 b6 b7 a6 a8 a7 b0 s0 a5 a4 a1 a3 a2 w h)⟩)
theorem yAM (h : yAL n0 i0 s0 i1 i2 i3 i4 i5 i6 q0 n1 n2 s1 s2 i7 B0 q1 n3 n4 R w) :
 yaS ybF ((ydQ 396 [1, 1, 1, 1]) (ydR [1, 1, 1] [] R)) (yb3 (n0, i0, s0, i1, i2, i3, i4, i5, i6, q0, n1, n2, s1, s2, i7, B0, q1, n3, n4)) w :=
 yDl (fun bm0' c9 c7 d0 d1 d2 d3 d4 d5 c4 c6 c5 c8 b3 b7 b5 a6 b0 a8 w' => bm0' = n0 ∧ c9 = i0 ∧ c7 = s0 ∧ d0 = i1 ∧ d1 = i2 ∧ d2 = i3 ∧ d3 = i4 ∧ d4 = i5 ∧ d5 = i6 ∧ c4 = q0 ∧ c6 = n1 ∧ c5 = n2 ∧ c8 = s1 ∧ b3 = s2 ∧ b7 = i7 ∧ b5 = B0 ∧ a6 = q1 ∧ b0 = n3 ∧ a8 = n4 ∧ w' = w) ⟨rfl, rfl, rfl, rfl, rfl, rfl, rfl, rfl, rfl, rfl, rfl, rfl, rfl, rfl, rfl, rfl, rfl, rfl, rfl, rfl⟩ (by rintro bm0' c9 c7 d0 d1 d2 d3 d4 d5 c4 c6 c5 c8 b3 b7 b5 a6 b0 a8 w' ⟨rfl, rfl, rfl, rfl, rfl, rfl, rfl, rfl, rfl, rfl, rfl, rfl, rfl, rfl, rfl, rfl, rfl, rfl, rfl, rfl⟩; exact h)
theorem yIu {b2 : BA} {b0 a3 : BA} (h :
 ∀ b1, w.heap.size ≤ b1 →
 brB (decide (i0 < 0)) (
 ∀ w2, Adv [] [b1] w w2 →
 R (.int .i64 41) w2)
 (
 brB (decide (i0 > 12)) (
 ∀ w3, Adv [] [b1] w w3 →
 R (.int .i64 41) w3)
 (
 ∀ w4, Adv [] [b1] w w4 →
 Calls pP 101 #[.int .i64 i0] w4 fun e w5 => ∃ s6, e = .returned (.string s6) ∧ yaD [b1] w4 w5 ∧
 Calls pP 123 #[(.agg (Z1 i0 b2 i1 i2 i3 i4 i5 i6 q0 n0 n1 b0 a3 i7 B0 q1 n2 n3))] w5 fun e w7 => ∃ t8, e = .returned (.bool t8) ∧ yaD [b1] w5 w7 ∧
 brB (!t8) (
 R (.int .i64 40) w7)
 (
 Calls pP 124 #[.string s6, .int .u8 112] w7 fun e w9 => ∃ h0, e = .returned (.bool h0) ∧ yaD [b1] w7 w9 ∧
 brB h0 (
 Calls pP 104 #[.string b2] w9 fun e d4 => ∃ h1, e = .returned (.bool h1) ∧ yaD [b1] w9 d4 ∧
 brB (!h1) (
 R (.int .i64 40) d4)
 (
 Calls pP 124 #[.string s6, .int .u8 103] d4 fun e c2 => ∃ h2, e = .returned (.bool h2) ∧ yaD [b1] d4 c2 ∧
 brB h2 (
 Calls pP 104 #[.string b0] c2 fun e d5 => ∃ h3, e = .returned (.bool h3) ∧ yaD [b1] c2 d5 ∧
 brB (!h3) (
 R (.int .i64 40) d5)
 (
 Calls pP 124 #[.string s6, .int .u8 109] d5 fun e c3 => ∃ h4, e = .returned (.bool h4) ∧ yaD [b1] d5 c3 ∧
 brB h4 (
 Calls pP 104 #[.string a3] c3 fun e d6 => ∃ h5, e = .returned (.bool h5) ∧ yaD [b1] c3 d6 ∧
 brB (!h5) (
 R (.int .i64 40) d6)
 (
 Calls pP 124 #[.string s6, .int .u8 108] d6 fun e d7 => ∃ h6, e = .returned (.bool h6) ∧ yaD [b1] d6 d7 ∧
 brB h6 (
 Calls pP 125 #[.slice q1 n2 n3] d7 fun e g0 => ∃ h7, e = .returned (.bool h7) ∧ yaD [b1] d7 g0 ∧
 brB (!h7) (
 R (.int .i64 40) g0)
 (
 yaS ybF ((ydQ 396 [1, 1, 1, 1]) (ydR [1, 1, 1] [] R)) (yb3 (b1, i0, b2, i1, i2, i3, i4, i5, i6, q0, n0, n1, b0, a3, i7, B0, q1, n2, n3)) g0))
 (
 yaS ybF ((ydQ 396 [1, 1, 1, 1]) (ydR [1, 1, 1] [] R)) (yb3 (b1, i0, b2, i1, i2, i3, i4, i5, i6, q0, n0, n1, b0, a3, i7, B0, q1, n2, n3)) d7)))
 (
 Calls pP 124 #[.string s6, .int .u8 108] c3 fun e d8 => ∃ h8, e = .returned (.bool h8) ∧ yaD [b1] c3 d8 ∧
 brB h8 (
 Calls pP 125 #[.slice q1 n2 n3] d8 fun e g1 => ∃ h9, e = .returned (.bool h9) ∧ yaD [b1] d8 g1 ∧
 brB (!h9) (
 R (.int .i64 40) g1)
 (
 yaS ybF ((ydQ 396 [1, 1, 1, 1]) (ydR [1, 1, 1] [] R)) (yb3 (b1, i0, b2, i1, i2, i3, i4, i5, i6, q0, n0, n1, b0, a3, i7, B0, q1, n2, n3)) g1))
 (
 yaS ybF ((ydQ 396 [1, 1, 1, 1]) (ydR [1, 1, 1] [] R)) (yb3 (b1, i0, b2, i1, i2, i3, i4, i5, i6, q0, n0, n1, b0, a3, i7, B0, q1, n2, n3)) d8))))
 (
 Calls pP 124 #[.string s6, .int .u8 109] c2 fun e c4 => ∃ u0, e = .returned (.bool u0) ∧ yaD [b1] c2 c4 ∧
 brB u0 (
 Calls pP 104 #[.string a3] c4 fun e d9 => ∃ u1, e = .returned (.bool u1) ∧ yaD [b1] c4 d9 ∧
 brB (!u1) (
 R (.int .i64 40) d9)
 (
 Calls pP 124 #[.string s6, .int .u8 108] d9 fun e e0 => ∃ u2, e = .returned (.bool u2) ∧ yaD [b1] d9 e0 ∧
 brB u2 (
 Calls pP 125 #[.slice q1 n2 n3] e0 fun e g2 => ∃ u3, e = .returned (.bool u3) ∧ yaD [b1] e0 g2 ∧
 brB (!u3) (
 R (.int .i64 40) g2)
 (
 yaS ybF ((ydQ 396 [1, 1, 1, 1]) (ydR [1, 1, 1] [] R)) (yb3 (b1, i0, b2, i1, i2, i3, i4, i5, i6, q0, n0, n1, b0, a3, i7, B0, q1, n2, n3)) g2))
 (
 yaS ybF ((ydQ 396 [1, 1, 1, 1]) (ydR [1, 1, 1] [] R)) (yb3 (b1, i0, b2, i1, i2, i3, i4, i5, i6, q0, n0, n1, b0, a3, i7, B0, q1, n2, n3)) e0)))
 (
 Calls pP 124 #[.string s6, .int .u8 108] c4 fun e e1 => ∃ u4, e = .returned (.bool u4) ∧ yaD [b1] c4 e1 ∧
 brB u4 (
 Calls pP 125 #[.slice q1 n2 n3] e1 fun e g3 => ∃ u5, e = .returned (.bool u5) ∧ yaD [b1] e1 g3 ∧
 brB (!u5) (
 R (.int .i64 40) g3)
 (
 yaS ybF ((ydQ 396 [1, 1, 1, 1]) (ydR [1, 1, 1] [] R)) (yb3 (b1, i0, b2, i1, i2, i3, i4, i5, i6, q0, n0, n1, b0, a3, i7, B0, q1, n2, n3)) g3))
 (
 yaS ybF ((ydQ 396 [1, 1, 1, 1]) (ydR [1, 1, 1] [] R)) (yb3 (b1, i0, b2, i1, i2, i3, i4, i5, i6, q0, n0, n1, b0, a3, i7, B0, q1, n2, n3)) e1)))))
 (
 Calls pP 124 #[.string s6, .int .u8 116] w9 fun e c5 => ∃ u6, e = .returned (.bool u6) ∧ yaD [b1] w9 c5 ∧
 brB u6 (
 Calls pP 104 #[.string b2] c5 fun e e2 => ∃ u7, e = .returned (.bool u7) ∧ yaD [b1] c5 e2 ∧
 brB (!u7) (
 R (.int .i64 40) e2)
 (
 Calls pP 124 #[.string s6, .int .u8 103] e2 fun e c6 => ∃ u9, e = .returned (.bool u9) ∧ yaD [b1] e2 c6 ∧
 brB u9 (
 Calls pP 104 #[.string b0] c6 fun e e3 => ∃ v0, e = .returned (.bool v0) ∧ yaD [b1] c6 e3 ∧
 brB (!v0) (
 R (.int .i64 40) e3)
 (
 Calls pP 124 #[.string s6, .int .u8 109] e3 fun e c7 => ∃ v1, e = .returned (.bool v1) ∧ yaD [b1] e3 c7 ∧
 brB v1 (
 Calls pP 104 #[.string a3] c7 fun e e4 => ∃ v2, e = .returned (.bool v2) ∧ yaD [b1] c7 e4 ∧
 brB (!v2) (
 R (.int .i64 40) e4)
 (
 Calls pP 124 #[.string s6, .int .u8 108] e4 fun e e5 => ∃ v3, e = .returned (.bool v3) ∧ yaD [b1] e4 e5 ∧
 brB v3 (
 Calls pP 125 #[.slice q1 n2 n3] e5 fun e g4 => ∃ v4, e = .returned (.bool v4) ∧ yaD [b1] e5 g4 ∧
 brB (!v4) (
 R (.int .i64 40) g4)
 (
 yaS ybF ((ydQ 396 [1, 1, 1, 1]) (ydR [1, 1, 1] [] R)) (yb3 (b1, i0, b2, i1, i2, i3, i4, i5, i6, q0, n0, n1, b0, a3, i7, B0, q1, n2, n3)) g4))
 (
 yaS ybF ((ydQ 396 [1, 1, 1, 1]) (ydR [1, 1, 1] [] R)) (yb3 (b1, i0, b2, i1, i2, i3, i4, i5, i6, q0, n0, n1, b0, a3, i7, B0, q1, n2, n3)) e5)))
 (
 Calls pP 124 #[.string s6, .int .u8 108] c7 fun e e6 => ∃ v5, e = .returned (.bool v5) ∧ yaD [b1] c7 e6 ∧
 brB v5 (
 Calls pP 125 #[.slice q1 n2 n3] e6 fun e g5 => ∃ v6, e = .returned (.bool v6) ∧ yaD [b1] e6 g5 ∧
 brB (!v6) (
 R (.int .i64 40) g5)
 (
 yaS ybF ((ydQ 396 [1, 1, 1, 1]) (ydR [1, 1, 1] [] R)) (yb3 (b1, i0, b2, i1, i2, i3, i4, i5, i6, q0, n0, n1, b0, a3, i7, B0, q1, n2, n3)) g5))
 (
 yaS ybF ((ydQ 396 [1, 1, 1, 1]) (ydR [1, 1, 1] [] R)) (yb3 (b1, i0, b2, i1, i2, i3, i4, i5, i6, q0, n0, n1, b0, a3, i7, B0, q1, n2, n3)) e6))))
 (
 Calls pP 124 #[.string s6, .int .u8 109] c6 fun e c8 => ∃ v7, e = .returned (.bool v7) ∧ yaD [b1] c6 c8 ∧
 brB v7 (
 Calls pP 104 #[.string a3] c8 fun e e7 => ∃ v8, e = .returned (.bool v8) ∧ yaD [b1] c8 e7 ∧
 brB (!v8) (
 R (.int .i64 40) e7)
 (
 Calls pP 124 #[.string s6, .int .u8 108] e7 fun e e8 => ∃ v9, e = .returned (.bool v9) ∧ yaD [b1] e7 e8 ∧
 brB v9 (
 Calls pP 125 #[.slice q1 n2 n3] e8 fun e g6 => ∃ w0, e = .returned (.bool w0) ∧ yaD [b1] e8 g6 ∧
 brB (!w0) (
 R (.int .i64 40) g6)
 (
 yaS ybF ((ydQ 396 [1, 1, 1, 1]) (ydR [1, 1, 1] [] R)) (yb3 (b1, i0, b2, i1, i2, i3, i4, i5, i6, q0, n0, n1, b0, a3, i7, B0, q1, n2, n3)) g6))
 (
 yaS ybF ((ydQ 396 [1, 1, 1, 1]) (ydR [1, 1, 1] [] R)) (yb3 (b1, i0, b2, i1, i2, i3, i4, i5, i6, q0, n0, n1, b0, a3, i7, B0, q1, n2, n3)) e8)))
 (
 Calls pP 124 #[.string s6, .int .u8 108] c8 fun e e9 => ∃ w1, e = .returned (.bool w1) ∧ yaD [b1] c8 e9 ∧
 brB w1 (
 Calls pP 125 #[.slice q1 n2 n3] e9 fun e g7 => ∃ w6, e = .returned (.bool w6) ∧ yaD [b1] e9 g7 ∧
 brB (!w6) (
 R (.int .i64 40) g7)
 (
 yaS ybF ((ydQ 396 [1, 1, 1, 1]) (ydR [1, 1, 1] [] R)) (yb3 (b1, i0, b2, i1, i2, i3, i4, i5, i6, q0, n0, n1, b0, a3, i7, B0, q1, n2, n3)) g7))
 (
 yaS ybF ((ydQ 396 [1, 1, 1, 1]) (ydR [1, 1, 1] [] R)) (yb3 (b1, i0, b2, i1, i2, i3, i4, i5, i6, q0, n0, n1, b0, a3, i7, B0, q1, n2, n3)) e9)))))
 (
 Calls pP 124 #[.string s6, .int .u8 103] c5 fun e c9 => ∃ w8, e = .returned (.bool w8) ∧ yaD [b1] c5 c9 ∧
 brB w8 (
 Calls pP 104 #[.string b0] c9 fun e f0 => ∃ x0, e = .returned (.bool x0) ∧ yaD [b1] c9 f0 ∧
 brB (!x0) (
 R (.int .i64 40) f0)
 (
 Calls pP 124 #[.string s6, .int .u8 109] f0 fun e d0 => ∃ x1, e = .returned (.bool x1) ∧ yaD [b1] f0 d0 ∧
 brB x1 (
 Calls pP 104 #[.string a3] d0 fun e f1 => ∃ x2, e = .returned (.bool x2) ∧ yaD [b1] d0 f1 ∧
 brB (!x2) (
 R (.int .i64 40) f1)
 (
 Calls pP 124 #[.string s6, .int .u8 108] f1 fun e f2 => ∃ x3, e = .returned (.bool x3) ∧ yaD [b1] f1 f2 ∧
 brB x3 (
 Calls pP 125 #[.slice q1 n2 n3] f2 fun e g8 => ∃ x4, e = .returned (.bool x4) ∧ yaD [b1] f2 g8 ∧
 brB (!x4) (
 R (.int .i64 40) g8)
 (
 yaS ybF ((ydQ 396 [1, 1, 1, 1]) (ydR [1, 1, 1] [] R)) (yb3 (b1, i0, b2, i1, i2, i3, i4, i5, i6, q0, n0, n1, b0, a3, i7, B0, q1, n2, n3)) g8))
 (
 yaS ybF ((ydQ 396 [1, 1, 1, 1]) (ydR [1, 1, 1] [] R)) (yb3 (b1, i0, b2, i1, i2, i3, i4, i5, i6, q0, n0, n1, b0, a3, i7, B0, q1, n2, n3)) f2)))
 (
 Calls pP 124 #[.string s6, .int .u8 108] d0 fun e f3 => ∃ x5, e = .returned (.bool x5) ∧ yaD [b1] d0 f3 ∧
 brB x5 (
 Calls pP 125 #[.slice q1 n2 n3] f3 fun e g9 => ∃ x6, e = .returned (.bool x6) ∧ yaD [b1] f3 g9 ∧
 brB (!x6) (
 R (.int .i64 40) g9)
 (
 yaS ybF ((ydQ 396 [1, 1, 1, 1]) (ydR [1, 1, 1] [] R)) (yb3 (b1, i0, b2, i1, i2, i3, i4, i5, i6, q0, n0, n1, b0, a3, i7, B0, q1, n2, n3)) g9))
 (
 yaS ybF ((ydQ 396 [1, 1, 1, 1]) (ydR [1, 1, 1] [] R)) (yb3 (b1, i0, b2, i1, i2, i3, i4, i5, i6, q0, n0, n1, b0, a3, i7, B0, q1, n2, n3)) f3))))
 (
 Calls pP 124 #[.string s6, .int .u8 109] c9 fun e d1 => ∃ f4, e = .returned (.bool f4) ∧ yaD [b1] c9 d1 ∧
 brB f4 (
 Calls pP 104 #[.string a3] d1 fun e b9 => ∃ f5, e = .returned (.bool f5) ∧ yaD [b1] d1 b9 ∧
 brB (!f5) (
 R (.int .i64 40) b9)
 (
 Calls pP 124 #[.string s6, .int .u8 108] b9 fun e c0 => ∃ f6, e = .returned (.bool f6) ∧ yaD [b1] b9 c0 ∧
 brB f6 (
 Calls pP 125 #[.slice q1 n2 n3] c0 fun e d2 => ∃ f7, e = .returned (.bool f7) ∧ yaD [b1] c0 d2 ∧
 brB (!f7) (
 R (.int .i64 40) d2)
 (
 yaS ybF ((ydQ 396 [1, 1, 1, 1]) (ydR [1, 1, 1] [] R)) (yb3 (b1, i0, b2, i1, i2, i3, i4, i5, i6, q0, n0, n1, b0, a3, i7, B0, q1, n2, n3)) d2))
 (
 yaS ybF ((ydQ 396 [1, 1, 1, 1]) (ydR [1, 1, 1] [] R)) (yb3 (b1, i0, b2, i1, i2, i3, i4, i5, i6, q0, n0, n1, b0, a3, i7, B0, q1, n2, n3)) c0)))
 (
 Calls pP 124 #[.string s6, .int .u8 108] d1 fun e c1 => ∃ f8, e = .returned (.bool f8) ∧ yaD [b1] d1 c1 ∧
 brB f8 (
 Calls pP 125 #[.slice q1 n2 n3] c1 fun e d3 => ∃ f9, e = .returned (.bool f9) ∧ yaD [b1] c1 d3 ∧
 brB (!f9) (
 R (.int .i64 40) d3)
 (
 yaS ybF ((ydQ 396 [1, 1, 1, 1]) (ydR [1, 1, 1] [] R)) (yb3 (b1, i0, b2, i1, i2, i3, i4, i5, i6, q0, n0, n1, b0, a3, i7, B0, q1, n2, n3)) d3))
 (
 yaS ybF ((ydQ 396 [1, 1, 1, 1]) (ydR [1, 1, 1] [] R)) (yb3 (b1, i0, b2, i1, i2, i3, i4, i5, i6, q0, n0, n1, b0, a3, i7, B0, q1, n2, n3)) c1))))))))) :
 CR pP 100 #[(.agg (Z1 i0 b2 i1 i2 i3 i4 i5 i6 q0 n0 n1 b0 a3 i7 B0 q1 n2 n3))] w R :=
 yaA Tryz.wide_mixed (an := yuS) Tryz.func100 rfl rfl (by kernel_rfl) rfl (Eq.mpr (by kernel_rfl) h)
def ysK : LA := ⟨[0, 0, 1, 0, 1, 1], [0, 1, 5], [], 0, []⟩
def yuT : List LA := [ysK]
abbrev yIv := dnF pP yuT (code Tryz.f109)
abbrev yLH := yaN pP yuT (code Tryz.f109)
abbrev yIw (p : List Nat) (K : List Kh) (R : VWP) := yaN pP yuT (code Tryz.f109) p K (ya4 pP Tryz.f109 [] R)
def yl7 (a0 : OA) (a4 a2 : Nat) (a1 : OA) (a5 a3 : Nat) : Int → List Value × List TB := fun a6 => ([.slice a0 a4 a2, .slice a1 a5 a3, .int .i64 a6], [])
abbrev yEd (a0 : OA) (a4 a2 : Nat) (a1 : OA) (a5 a3 : Nat) (I : Nat → Int → World → Prop) (m : Nat) : Kh := KG (yl7 a0 a4 a2 a1 a5 a3) (U1 I) m
theorem yAN {I : Nat → Int → World → Prop} (m' : Nat) (h1 : m' < m) (h2 : I m' i0 w) : KS (yEd q0 n0 n1 q1 n2 n3 I m) (yl7 q0 n0 n1 q1 n2 n3 i0) w := ⟨m', h1, _, rfl, rfl, h2⟩
theorem yAO {a2 : OA} {a3 : OA} (I : Nat → Int → World → Prop) (m0 : Nat) (h0 : I m0 i0 w0)
 (hr : ∀ m a0 w, I m a0 w →
 brB (decide (a0 < (n0 : Int))) (
 ixA a2 n0 a0 1 fun q1 =>
 yaT w q1 fun s2 =>
 ixA a3 n2 a0 1 fun q3 =>
 yaT w q3 fun s4 =>
 brB (!(s2.toList == s4.toList)) (
 ∀ w5, Adv [] [] w w5 →
 R (.bool false) w5)
 (
 ∀ w6, Adv [] [] w w6 →
 KS (yEd a2 n0 n1 a3 n2 n3 I m) (yl7 a2 n0 n1 a3 n2 n3 (IntKind.wrap .i64 (a0 + 1))) w6))
 (
 R (.bool true) w)) :
 yaK ysK (yIv 396 [0, 0, 1, 0, 1, 1]) (yIw [1, 1, 0, 1, 0] [] R) (yl7 a2 n0 n1 a3 n2 n3 i0) w0 :=
 lrule (yl7 a2 n0 n1 a3 n2 n3) (U1 I) h0 (by rintro m a0 w h; exact ⟨by kernel_rfl, by kernel_rfl, fun js => Eq.mpr (by kernel_rfl) (hr m a0 w h)⟩)
theorem yIx (h :
 brB ((n0 : Int) != (n2 : Int)) (
 R (.bool false) w)
 (
 yaK ysK (yIv 396 [0, 0, 1, 0, 1, 1]) (yIw [1, 1, 0, 1, 0] [] R) (yl7 q0 n0 n1 q1 n2 n3 0) w)) :
 CR pP 109 #[.slice q0 n0 n1, .slice q1 n2 n3] w R :=
 yaA Tryz.wide_mixed (an := yuT) Tryz.func109 rfl rfl (by kernel_rfl) rfl (Eq.mpr (by kernel_rfl) h)
theorem yIy {a6 : BA} {d0 b8 : BA} {b3 : BA} {d7 c1 : BA} (h :
 ∀ b1, w.heap.size ≤ b1 →
 ∀ b2, w.heap.size ≤ b2 →
 brB (i0 == i8) (
 ∀ w3, Adv [] [b2, b1] w w3 →
 ∃ t4, (∀ w', Mod [] w3 w' → Sem.run pP (do eqGuard .eql 43 (.tmp 12) (.tmp 14) (.agg #[.string a6, .int .i64 i1]) (.agg #[.string b3, .int .i64 i9]); Go.binOp .eql 43 (.agg #[.string a6, .int .i64 i1]) (.agg #[.string b3, .int .i64 i9])) w' = .ok (.bool t4) w') ∧
 brB t4 (
 brB (i2 == j0) (
 brB (i3 == j1) (
 Calls pP 108 #[(.agg (Z9 i4 i5 i6 q0 n0 n1)), (.agg (Z9 j2 j3 j4 q2 n4 n5))] w3 fun e w5 => ∃ t6, e = .returned (.bool t6) ∧ yaD [b1, b2] w3 w5 ∧
 brB t6 (
 brB (d0.toList == d7.toList) (
 brB (b8.toList == c1.toList) (
 brB (i7 == j5) (
 brB (B0 == B1) (
 Calls pP 109 #[.slice q1 n2 n3, .slice q3 n6 n7] w5 fun e w7 => ∃ t8, e = .returned (.bool t8) ∧ yaD [b1, b2] w5 w7 ∧
 R (.bool t8) w7)
 (
 R (.bool false) w5))
 (
 R (.bool false) w5))
 (
 R (.bool false) w5))
 (
 R (.bool false) w5))
 (
 R (.bool false) w5))
 (
 R (.bool false) w3))
 (
 R (.bool false) w3))
 (
 R (.bool false) w3))
 (
 ∀ w9, Adv [] [b2, b1] w w9 →
 R (.bool false) w9)) :
 CR pP 75 #[(.agg (Z1 i0 a6 i1 i2 i3 i4 i5 i6 q0 n0 n1 d0 b8 i7 B0 q1 n2 n3)), (.agg (Z1 i8 b3 i9 j0 j1 j2 j3 j4 q2 n4 n5 d7 c1 j5 B1 q3 n6 n7))] w R :=
 yaA Tryz.wide_mixed (an := []) Tryz.func75 rfl rfl (by kernel_rfl) rfl (Eq.mpr (by kernel_rfl) h)
theorem yIz (h :
 ∀ b1, w.heap.size ≤ b1 →
 ∀ b2, w.heap.size ≤ b2 →
 brB (i0 == i3) (
 brB (i1 == i4) (
 brB (i2 == i5) (
 ∀ w3, Adv [] [b2, b1] w w3 →
 Calls pP 129 #[.slice q0 n0 n1, .slice q1 n2 n3] w3 fun e w4 => ∃ t5, e = .returned (.bool t5) ∧ yaD [b1, b2] w3 w4 ∧
 R (.bool t5) w4)
 (
 ∀ w6, Adv [] [b2, b1] w w6 →
 R (.bool false) w6))
 (
 ∀ w7, Adv [] [b2, b1] w w7 →
 R (.bool false) w7))
 (
 ∀ w8, Adv [] [b2, b1] w w8 →
 R (.bool false) w8)) :
 CR pP 106 #[(.agg (Z9 i0 i1 i2 q0 n0 n1)), (.agg (Z9 i3 i4 i5 q1 n2 n3))] w R :=
 yaA Tryz.wide_mixed (an := []) Tryz.func106 rfl rfl (by kernel_rfl) rfl (Eq.mpr (by kernel_rfl) h)
theorem yIA {a6 : BA} {d0 b8 : BA} {b3 : BA} {d7 c1 : BA} (h :
 ∀ b1, w.heap.size ≤ b1 →
 ∀ b2, w.heap.size ≤ b2 →
 brB (i0 == i8) (
 ∀ w3, Adv [] [b2, b1] w w3 →
 ∃ t4, (∀ w', Mod [] w3 w' → Sem.run pP (do eqGuard .eql 43 (.tmp 13) (.tmp 15) (.agg #[.string a6, .int .i64 i1]) (.agg #[.string b3, .int .i64 i9]); Go.binOp .eql 43 (.agg #[.string a6, .int .i64 i1]) (.agg #[.string b3, .int .i64 i9])) w' = .ok (.bool t4) w') ∧
 brB t4 (
 brB (i2 == j0) (
 brB (i3 == j1) (
 brB (d0.toList == d7.toList) (
 brB (b8.toList == c1.toList) (
 brB (i7 == j5) (
 brB (B0 == B1) (
 Calls pP 106 #[(.agg (Z9 i4 i5 i6 q0 n0 n1)), (.agg (Z9 j2 j3 j4 q2 n4 n5))] w3 fun e w5 => ∃ t6, e = .returned (.bool t6) ∧ yaD [b1, b2] w3 w5 ∧
 brB t6 (
 Calls pP 107 #[.slice q1 n2 n3, .slice q3 n6 n7] w5 fun e w7 => ∃ t8, e = .returned (.bool t8) ∧ yaD [b1, b2] w5 w7 ∧
 R (.bool t8) w7)
 (
 R (.bool false) w5))
 (
 R (.bool false) w3))
 (
 R (.bool false) w3))
 (
 R (.bool false) w3))
 (
 R (.bool false) w3))
 (
 R (.bool false) w3))
 (
 R (.bool false) w3))
 (
 R (.bool false) w3))
 (
 ∀ w9, Adv [] [b2, b1] w w9 →
 R (.bool false) w9)) :
 CR pP 72 #[(.agg (Z1 i0 a6 i1 i2 i3 i4 i5 i6 q0 n0 n1 d0 b8 i7 B0 q1 n2 n3)), (.agg (Z1 i8 b3 i9 j0 j1 j2 j3 j4 q2 n4 n5 d7 c1 j5 B1 q3 n6 n7))] w R :=
 yaA Tryz.wide_mixed (an := []) Tryz.func72 rfl rfl (by kernel_rfl) rfl (Eq.mpr (by kernel_rfl) h)
def ysL : LA := ⟨[0, 0, 1, 0, 1, 1], [0, 1, 12, 13], [], 0, []⟩
def yuU : List LA := [ysL]
abbrev yIB := dnF pP yuU (code Tryz.f107)
abbrev yLI := yaN pP yuU (code Tryz.f107)
abbrev yIC (p : List Nat) (K : List Kh) (R : VWP) := yaN pP yuU (code Tryz.f107) p K (ya4 pP Tryz.f107 [] R)
def yl8 (a2 : OA) (a6 a4 : Nat) (a3 : OA) (a7 a5 : Nat) (a0 : Int) : Int → List Value × List TB := fun a1 => ([.slice a2 a6 a4, .slice a3 a7 a5, .int .i64 a0, .int .i64 a1], [])
abbrev yEe (a1 : OA) (a5 a3 : Nat) (a2 : OA) (a6 a4 : Nat) (a0 : Int) (I : Nat → Int → World → Prop) (m : Nat) : Kh := KG (yl8 a1 a5 a3 a2 a6 a4 a0) (U1 I) m
theorem yAP {I : Nat → Int → World → Prop} (m' : Nat) (h1 : m' < m) (h2 : I m' i1 w) : KS (yEe q0 n0 n1 q1 n2 n3 i0 I m) (yl8 q0 n0 n1 q1 n2 n3 i0 i1) w := ⟨m', h1, _, rfl, rfl, h2⟩
theorem yAQ {a2 : OA} {a3 : OA} (I : Nat → Int → World → Prop) (m0 : Nat) (h0 : I m0 i1 w0)
 (hr : ∀ m a0 w, I m a0 w →
 brB (decide (a0 < i0)) (
 ixA a2 n0 a0 1 fun q1 =>
 yaT w q1 fun s2 =>
 ixA a3 n2 a0 1 fun q3 =>
 yaT w q3 fun s4 =>
 brB (!(s2.toList == s4.toList)) (
 ∀ w5, Adv [] [] w w5 →
 R (.bool false) w5)
 (
 ∀ w6, Adv [] [] w w6 →
 KS (yEe a2 n0 n1 a3 n2 n3 i0 I m) (yl8 a2 n0 n1 a3 n2 n3 i0 (IntKind.wrap .i64 (a0 + 1))) w6))
 (
 R (.bool true) w)) :
 yaK ysL (yIB 396 [0, 0, 1, 0, 1, 1]) (yIC [1, 1, 0, 1, 0] [] R) (yl8 a2 n0 n1 a3 n2 n3 i0 i1) w0 :=
 lrule (yl8 a2 n0 n1 a3 n2 n3 i0) (U1 I) h0 (by rintro m a0 w h; exact ⟨by kernel_rfl, by kernel_rfl, fun js => Eq.mpr (by kernel_rfl) (hr m a0 w h)⟩)
theorem yID (h :
 brB ((n0 : Int) != (n2 : Int)) (
 R (.bool false) w)
 (
 yaK ysL (yIB 396 [0, 0, 1, 0, 1, 1]) (yIC [1, 1, 0, 1, 0] [] R) (yl8 q0 n0 n1 q1 n2 n3 (n0 : Int) 0) w)) :
 CR pP 107 #[.slice q0 n0 n1, .slice q1 n2 n3] w R :=
 yaA Tryz.wide_mixed (an := yuU) Tryz.func107 rfl rfl (by kernel_rfl) rfl (Eq.mpr (by kernel_rfl) h)
def ysM : LA := ⟨[0, 0, 1, 0, 1, 1], [0, 1, 12, 13], [], 0, []⟩
def yuV : List LA := [ysM]
abbrev yIE := dnF pP yuV (code Tryz.f129)
abbrev yLJ := yaN pP yuV (code Tryz.f129)
abbrev yIF (p : List Nat) (K : List Kh) (R : VWP) := yaN pP yuV (code Tryz.f129) p K (ya4 pP Tryz.f129 [] R)
def yl9 (a2 : OA) (a6 a4 : Nat) (a3 : OA) (a7 a5 : Nat) (a0 : Int) : Int → List Value × List TB := fun a1 => ([.slice a2 a6 a4, .slice a3 a7 a5, .int .i64 a0, .int .i64 a1], [])
abbrev yEf (a1 : OA) (a5 a3 : Nat) (a2 : OA) (a6 a4 : Nat) (a0 : Int) (I : Nat → Int → World → Prop) (m : Nat) : Kh := KG (yl9 a1 a5 a3 a2 a6 a4 a0) (U1 I) m
theorem yAR {I : Nat → Int → World → Prop} (m' : Nat) (h1 : m' < m) (h2 : I m' i1 w) : KS (yEf q0 n0 n1 q1 n2 n3 i0 I m) (yl9 q0 n0 n1 q1 n2 n3 i0 i1) w := ⟨m', h1, _, rfl, rfl, h2⟩
theorem yAS {a2 : OA} {a3 : OA} (I : Nat → Int → World → Prop) (m0 : Nat) (h0 : I m0 i1 w0)
 (hr : ∀ m a0 w, I m a0 w →
 brB (decide (a0 < i0)) (
 ixA a2 n0 a0 4 fun q1 =>
 yaX w q1 fun t2 => yaT w (Addr.add q1 1) fun s3 => yaX w (Addr.add q1 2) fun t4 => yaT w (Addr.add q1 3) fun s5 =>
 ixA a3 n2 a0 4 fun q6 =>
 yaX w q6 fun t7 => yaT w (Addr.add q6 1) fun s8 => yaX w (Addr.add q6 2) fun t9 => yaT w (Addr.add q6 3) fun a9 =>
 ∃ b0, (∀ w', Mod [] w w' → Sem.run pP (do eqGuard .neq 53 (.tmp 19) (.tmp 23) (.agg (Z7 t2 s3 t4 s5)) (.agg (Z7 t7 s8 t9 a9)); Go.binOp .neq 53 (.agg (Z7 t2 s3 t4 s5)) (.agg (Z7 t7 s8 t9 a9))) w' = .ok (.bool b0) w') ∧
 brB b0 (
 ∀ b1, Adv [] [] w b1 →
 R (.bool false) b1)
 (
 ∀ b2, Adv [] [] w b2 →
 KS (yEf a2 n0 n1 a3 n2 n3 i0 I m) (yl9 a2 n0 n1 a3 n2 n3 i0 (IntKind.wrap .i64 (a0 + 1))) b2))
 (
 R (.bool true) w)) :
 yaK ysM (yIE 396 [0, 0, 1, 0, 1, 1]) (yIF [1, 1, 0, 1, 0] [] R) (yl9 a2 n0 n1 a3 n2 n3 i0 i1) w0 :=
 lrule (yl9 a2 n0 n1 a3 n2 n3 i0) (U1 I) h0 (by rintro m a0 w h; exact ⟨by kernel_rfl, by kernel_rfl, fun js => Eq.mpr (by kernel_rfl) (hr m a0 w h)⟩)
theorem yIG (h :
 brB ((n0 : Int) != (n2 : Int)) (
 R (.bool false) w)
 (
 yaK ysM (yIE 396 [0, 0, 1, 0, 1, 1]) (yIF [1, 1, 0, 1, 0] [] R) (yl9 q0 n0 n1 q1 n2 n3 (n0 : Int) 0) w)) :
 CR pP 129 #[.slice q0 n0 n1, .slice q1 n2 n3] w R :=
 yaA Tryz.wide_mixed (an := yuV) Tryz.func129 rfl rfl (by kernel_rfl) rfl (Eq.mpr (by kernel_rfl) h)
theorem yIH {a2 a1 : Nat} (h :
 brB (Option.isNone q0) (
 R (.slice none 0 0) w)
 (
 al w (.cells #[] 9) fun b1 w2 =>
 ycR pP (Builtin.append_ #[47, 47] 47 #[(.slice (some ⟨b1, 0, none⟩) 0 0), .slice q0 a2 a1]) w2 fun a4 n5 c6 w3 =>
 R (.slice a4 n5 c6) w3)) :
 CR pP 48 #[.slice q0 a2 a1] w R :=
 yaA Tryz.wide_mixed (an := []) Tryz.func48 rfl rfl (by kernel_rfl) rfl (Eq.mpr (by kernel_rfl) h)
theorem yII {a2 a1 : Nat} (h :
 brB (Option.isNone q0) (
 R (.slice none 0 0) w)
 (
 al w (.cells #[] 53) fun b1 w2 =>
 ycR pP (Builtin.append_ #[44, 44] 44 #[(.slice (some ⟨b1, 0, none⟩) 0 0), .slice q0 a2 a1]) w2 fun a4 n5 c6 w3 =>
 R (.slice a4 n5 c6) w3)) :
 CR pP 49 #[.slice q0 a2 a1] w R :=
 yaA Tryz.wide_mixed (an := []) Tryz.func49 rfl rfl (by kernel_rfl) rfl (Eq.mpr (by kernel_rfl) h)
end
section
set_option maxRecDepth 100000
variable {R : VWP} {w w0 : World} {m : Nat} {i0 i1 i2 i3 i4 i5 i6 i7 i8 i9 j0 j1 j2 j3 j4 j5 j6 j7 j8 j9 k0 k1 k2 k3 k4 k5 k6 k7 k8 k9 l0 l1 l2 l3 l4 l5 l6 l7 l8 l9 : Int} {s0 s1 s2 s3 s4 s5 s6 s7 s8 s9 t0 t1 t2 t3 t4 t5 t6 t7 t8 t9 : BA} {n0 n1 n2 n3 n4 n5 n6 n7 n8 n9 o0 o1 o2 o3 o4 o5 o6 o7 o8 o9 p0 p1 p2 p3 p4 p5 p6 p7 p8 p9 : Nat} {q0 q1 q2 q3 q4 q5 q6 q7 q8 q9 r0 r1 r2 r3 r4 r5 r6 r7 r8 r9 : OA} {B0 B1 B2 B3 B4 B5 B6 B7 B8 B9 : Bool} {M0 M1 M2 M3 : Option Nat} {V0 V1 V2 V3 V4 V5 : Value} {A0 A1 A2 : Addr}
theorem yIJ (h :
 yaX w (Addr.add A0 1) fun t1 =>
 brB t1 (
 st w (Addr.add A0 1) [.bool true] fun w2 =>
 st w2 A1 [.int .i64 0] fun w3 =>
 R (.tuple #[]) w3)
 (
 yaH .i64 w A1 fun x4 =>
 Calls pP 94 #[.int .i64 x4] w fun e w5 => ∃ t6, e = .returned (.bool t6) ∧
 st w5 (Addr.add A0 1) [(.bool (!t6))] fun w7 =>
 st w7 A1 [.int .i64 0] fun w8 =>
 R (.tuple #[]) w8)) :
 CR pP 176 #[(.pointer (some A0)), (.pointer (some A1))] w R :=
 yaA Tryz.wide_mixed (an := []) Tryz.func176 rfl rfl (by kernel_rfl) rfl (Eq.mpr (by kernel_rfl) h)
theorem yIK (h :
 yaX w A0 fun t1 =>
 brB t1 (
 st w A0 [.bool true] fun w2 =>
 st w2 A1 [(.string (⟨#[]⟩ : BA))] fun w3 =>
 R (.tuple #[]) w3)
 (
 yaT w A1 fun s4 =>
 Calls pP 96 #[.string s4] w fun e w5 => ∃ t6, e = .returned (.bool t6) ∧
 st w5 A0 [(.bool (!t6))] fun w7 =>
 st w7 A1 [(.string (⟨#[]⟩ : BA))] fun w8 =>
 R (.tuple #[]) w8)) :
 CR pP 174 #[(.pointer (some A0)), (.pointer (some A1))] w R :=
 yaA Tryz.wide_mixed (an := []) Tryz.func174 rfl rfl (by kernel_rfl) rfl (Eq.mpr (by kernel_rfl) h)
theorem yIL (h :
 st w A1 [.bool false] fun w1 =>
 R (.tuple #[]) w1) :
 CR pP 173 #[(.pointer (some A0)), (.pointer (some A1))] w R :=
 yaA Tryz.wide_mixed (an := []) Tryz.func173 rfl rfl (by kernel_rfl) rfl (Eq.mpr (by kernel_rfl) h)
theorem yIM (h :
 yaH .i64 w A1 fun x1 => yaH .i64 w (Addr.add A1 1) fun x2 => yaH .i64 w (Addr.add A1 2) fun x3 => yaY w (Addr.add A1 3) fun a4 n5 c6 =>
 Calls pP 163 #[(.agg (Z9 x1 x2 x3 a4 n5 c6))] w fun e w7 => ∃ x8, e = .returned (.int .i64 x8) ∧
 st w7 (Addr.add A0 2) [.int .i64 x8] fun w9 =>
 st w9 A1 [.int .i64 0, .int .i64 0, .int .i64 0, .slice none 0 0] fun a2 =>
 R (.tuple #[]) a2) :
 CR pP 172 #[(.pointer (some A0)), (.pointer (some A1))] w R :=
 yaA Tryz.wide_mixed (an := []) Tryz.func172 rfl rfl (by kernel_rfl) rfl (Eq.mpr (by kernel_rfl) h)
def ysN : LA := ⟨[0, 0, 1, 0, 1], [0, 1, 4, 5], [], 0, []⟩
def yuW : List LA := [ysN]
abbrev yIN := dnF pP yuW (code Tryz.f175)
abbrev yLK := yaN pP yuW (code Tryz.f175)
abbrev yIO (p : List Nat) (K : List Kh) (R : VWP) := yaN pP yuW (code Tryz.f175) p K (ya4 pP Tryz.f175 [] R)
def ykM (a0 : Addr) (a1 : Addr) : Bool × Int → List Value × List TB := fun (a2, a3) => ([(.pointer (some a0)), (.pointer (some a1)), .bool a2, .int .i64 a3], [])
abbrev yAT (a0 : Addr) (a1 : Addr) (I : Nat → Bool → Int → World → Prop) (m : Nat) : Kh := KG (ykM a0 a1) (U2 I) m
theorem yqS {I : Nat → Bool → Int → World → Prop} (m' : Nat) (h1 : m' < m) (h2 : I m' B0 i0 w) : KS (yAT A0 A1 I m) (ykM A0 A1 (B0, i0)) w := ⟨m', h1, _, rfl, rfl, h2⟩
theorem yAU (I : Nat → Bool → Int → World → Prop) (m0 : Nat) (h0 : I m0 B0 i0 w0)
 (hr : ∀ m a6 a5 w, I m a6 a5 w →
 yaY w A1 fun a1 n2 c3 =>
 brB (decide (a5 < (n2 : Int))) (
 brB a6 (
 yaY w A1 fun a4 n5 c6 =>
 ixA a4 n5 (IntKind.wrap .i64 (a5 - 1)) 1 fun q7 =>
 yaT w q7 fun s8 =>
 yaY w A1 fun a9 b5 d6 =>
 ixA a9 b5 a5 1 fun b9 =>
 yaT w b9 fun c0 =>
 ∀ b1, Adv [] [] w b1 →
 KS (yAT A0 A1 I m) (ykM A0 A1 ((Op.bytesLess s8.toList c0.toList), (IntKind.wrap .i64 (a5 + 1)))) b1)
 (
 ∀ b2, Adv [] [] w b2 →
 KS (yAT A0 A1 I m) (ykM A0 A1 (false, (IntKind.wrap .i64 (a5 + 1)))) b2))
 (
 yaY w A1 fun b3 b6 b4 =>
 Calls pP 177 #[.slice b3 b6 b4, (.func (.func 178) #[] #[])] w fun e a3 => ∃ b0, e = .returned (.bool b0) ∧
 yaX a3 A0 fun c1 =>
 brB c1 (
 st a3 A0 [.bool true] fun c2 =>
 st c2 A1 [.slice none 0 0] fun c4 =>
 R (.tuple #[]) c4)
 (
 yaY a3 A1 fun d4 b7 d7 =>
 brB ((b7 : Int) == 0) (
 st a3 A0 [.bool true] fun c5 =>
 st c5 A1 [.slice none 0 0] fun c7 =>
 R (.tuple #[]) c7)
 (
 yaY a3 A1 fun d5 b8 d8 =>
 brB (decide ((b8 : Int) > 8)) (
 st a3 A0 [.bool true] fun c8 =>
 st c8 A1 [.slice none 0 0] fun c9 =>
 R (.tuple #[]) c9)
 (
 brB b0 (
 st a3 A0 [.bool true] fun d0 =>
 st d0 A1 [.slice none 0 0] fun d1 =>
 R (.tuple #[]) d1)
 (
 st a3 A0 [(.bool (!a6))] fun d2 =>
 st d2 A1 [.slice none 0 0] fun d3 =>
 R (.tuple #[]) d3)))))) :
 yaK ysN (yIN 397 [0, 0, 1, 0, 1]) (yIO [1, 0, 1, 0] [] R) (ykM A0 A1 (B0, i0)) w0 :=
 lrule (ykM A0 A1) (U2 I) h0 (by rintro m ⟨a6, a5⟩ w h; exact ⟨by kernel_rfl, by kernel_rfl, fun js => Eq.mpr (by kernel_rfl) (hr m a6 a5 w h)⟩)
theorem yIP (h :
 yaK ysN (yIN 397 [0, 0, 1, 0, 1]) (yIO [1, 0, 1, 0] [] R) (ykM A0 A1 (true, 1)) w) :
 CR pP 175 #[(.pointer (some A0)), (.pointer (some A1))] w R :=
 yaA Tryz.wide_mixed (an := yuW) Tryz.func175 rfl rfl (by kernel_rfl) rfl (Eq.mpr (by kernel_rfl) h)
theorem yIQ {a0 : BA} (h :
 Calls pP 96 #[.string a0] w fun e w1 => ∃ t2, e = .returned (.bool t2) ∧
 R (.bool (!t2)) w1) :
 CR pP 178 #[.string a0] w R :=
 yaA Tryz.wide_mixed (an := []) Tryz.func178 rfl rfl (by kernel_rfl) rfl (Eq.mpr (by kernel_rfl) h)
theorem yIR (h :
 Calls pP 179 #[.slice q0 n0 n1, (.func (.func 178) #[] #[])] w fun e w1 => ∃ x2, e = .returned (.int .i64 x2) ∧
 R (.bool (decide (x2 ≥ 0))) w1) :
 CR pP 177 #[.slice q0 n0 n1, (.func (.func 178) #[] #[])] w R :=
 yaA Tryz.wide_mixed (an := []) Tryz.func177 rfl rfl (by kernel_rfl) rfl (Eq.mpr (by kernel_rfl) h)
def ysO : LA := ⟨[0, 0, 1, 0, 1], [0, 1, 7, 8], [], 0, []⟩
def yuX : List LA := [ysO]
abbrev yIS := dnF pP yuX (code Tryz.f179)
abbrev yLL := yaN pP yuX (code Tryz.f179)
abbrev yIT (p : List Nat) (K : List Kh) (R : VWP) := yaN pP yuX (code Tryz.f179) p K (ya4 pP Tryz.f179 [] R)
def ymA (a0 : OA) (a2 a1 : Nat) (a3 : Int) : Int → List Value × List TB := fun a4 => ([.slice a0 a2 a1, (.func (.func 178) #[] #[]), .int .i64 a3, .int .i64 a4], [])
abbrev yEg (a0 : OA) (a2 a1 : Nat) (a3 : Int) (I : Nat → Int → World → Prop) (m : Nat) : Kh := KG (ymA a0 a2 a1 a3) (U1 I) m
theorem yAV {I : Nat → Int → World → Prop} (m' : Nat) (h1 : m' < m) (h2 : I m' i1 w) : KS (yEg q0 n0 n1 i0 I m) (ymA q0 n0 n1 i0 i1) w := ⟨m', h1, _, rfl, rfl, h2⟩
theorem yAW {a1 : OA} (I : Nat → Int → World → Prop) (m0 : Nat) (h0 : I m0 i1 w0)
 (hr : ∀ m a0 w, I m a0 w →
 brB (decide (a0 < i0)) (
 ixA a1 n0 a0 1 fun q1 =>
 yaT w q1 fun s2 =>
 Calls pP 178 #[.string s2] w fun e w3 => ∃ t4, e = .returned (.bool t4) ∧
 brB t4 (
 R (.int .i64 a0) w3)
 (
 KS (yEg a1 n0 n1 i0 I m) (ymA a1 n0 n1 i0 (IntKind.wrap .i64 (a0 + 1))) w3))
 (
 R (.int .i64 (-1)) w)) :
 yaK ysO (yIS 397 [0, 0, 1, 0, 1]) (yIT [1, 0, 1, 0] [] R) (ymA a1 n0 n1 i0 i1) w0 :=
 lrule (ymA a1 n0 n1 i0) (U1 I) h0 (by rintro m a0 w h; exact ⟨by kernel_rfl, by kernel_rfl, fun js => Eq.mpr (by kernel_rfl) (hr m a0 w h)⟩)
theorem yIU (h :
 yaK ysO (yIS 397 [0, 0, 1, 0, 1]) (yIT [1, 0, 1, 0] [] R) (ymA q0 n0 n1 (n0 : Int) 0) w) :
 CR pP 179 #[.slice q0 n0 n1, (.func (.func 178) #[] #[])] w R :=
 yaA Tryz.wide_mixed (an := yuX) Tryz.func179 rfl rfl (by kernel_rfl) rfl (Eq.mpr (by kernel_rfl) h)
theorem yIV (h :
 ∀ w1, Adv [] [] w w1 →
 Calls pP 174 #[(.pointer (some A1)), (.pointer (some A0))] w1 fun e w2 => e = .returned (.tuple #[]) ∧
 ∀ w3, Adv [] [] w2 w3 →
 Calls pP 176 #[(.pointer (some A1)), (.pointer (some (Addr.add A0 1)))] w3 fun e w4 => e = .returned (.tuple #[]) ∧
 R (.tuple #[]) w4) :
 CR pP 60 #[(.iface 158 (.pointer (some A1))), (.pointer (some A0))] w R :=
 yaA Tryz.wide_mixed (an := []) Tryz.func60 rfl rfl (by kernel_rfl) rfl (Eq.mpr (by kernel_rfl) h)
theorem yIW (h :
 ∀ w1, Adv [] [] w w1 →
 Calls pP 174 #[(.pointer (some A1)), (.pointer (some (Addr.add A0 9)))] w1 fun e w2 => e = .returned (.tuple #[]) ∧
 ∀ w3, Adv [] [] w2 w3 →
 Calls pP 174 #[(.pointer (some A1)), (.pointer (some (Addr.add A0 10)))] w3 fun e w4 => e = .returned (.tuple #[]) ∧
 R (.tuple #[]) w4) :
 CR pP 118 #[(.iface 158 (.pointer (some A1))), (.pointer (some A0))] w R :=
 yaA Tryz.wide_mixed (an := []) Tryz.func118 rfl rfl (by kernel_rfl) rfl (Eq.mpr (by kernel_rfl) h)
theorem yIX (h :
 yaH .i64 w A0 fun x1 =>
 brB (x1 == 0) (
 ∀ w2, Adv [] [] w w2 →
 Calls pP 174 #[(.pointer (some A1)), (.pointer (some (Addr.add A0 1)))] w2 fun e w3 => e = .returned (.tuple #[]) ∧
 ∀ w4, Adv [] [] w3 w4 →
 Calls pP 176 #[(.pointer (some A1)), (.pointer (some (Addr.add A0 3)))] w4 fun e w5 => e = .returned (.tuple #[]) ∧
 R (.tuple #[]) w5)
 (
 brB (x1 == 1) (
 brB (x1 == 1) (
 ∀ w6, Adv [] [] w w6 →
 Calls pP 176 #[(.pointer (some A1)), (.pointer (some (Addr.add A0 3)))] w6 fun e w7 => e = .returned (.tuple #[]) ∧
 R (.tuple #[]) w7)
 (
 brB (x1 == 2) (
 Calls pP 60 #[(.iface 158 (.pointer (some A1))), (.pointer (some (Addr.add A0 1)))] w fun e w8 => e = .returned (.tuple #[]) ∧
 ∀ w9, Adv [] [] w8 w9 →
 Calls pP 172 #[(.pointer (some A1)), (.pointer (some (Addr.add A0 5)))] w9 fun e f3 => e = .returned (.tuple #[]) ∧
 R (.tuple #[]) f3)
 (
 brB (x1 == 3) (
 Calls pP 60 #[(.iface 158 (.pointer (some A1))), (.pointer (some (Addr.add A0 1)))] w fun e f4 => e = .returned (.tuple #[]) ∧
 ∀ a9, Adv [] [] f4 a9 →
 Calls pP 176 #[(.pointer (some A1)), (.pointer (some (Addr.add A0 4)))] a9 fun e f5 => e = .returned (.tuple #[]) ∧
 ∀ b0, Adv [] [] f5 b0 →
 Calls pP 176 #[(.pointer (some A1)), (.pointer (some (Addr.add A0 3)))] b0 fun e f6 => e = .returned (.tuple #[]) ∧
 R (.tuple #[]) f6)
 (
 brB (x1 == 4) (
 Calls pP 60 #[(.iface 158 (.pointer (some A1))), (.pointer (some (Addr.add A0 1)))] w fun e f7 => e = .returned (.tuple #[]) ∧
 ∀ b1, Adv [] [] f7 b1 →
 Calls pP 176 #[(.pointer (some A1)), (.pointer (some (Addr.add A0 4)))] b1 fun e f8 => e = .returned (.tuple #[]) ∧
 R (.tuple #[]) f8)
 (
 brB (x1 == 5) (
 Calls pP 60 #[(.iface 158 (.pointer (some A1))), (.pointer (some (Addr.add A0 1)))] w fun e f9 => e = .returned (.tuple #[]) ∧
 R (.tuple #[]) f9)
 (
 brB (x1 == 6) (
 Calls pP 118 #[(.iface 158 (.pointer (some A1))), (.pointer (some A0))] w fun e g0 => e = .returned (.tuple #[]) ∧
 ∀ b2, Adv [] [] g0 b2 →
 Calls pP 176 #[(.pointer (some A1)), (.pointer (some (Addr.add A0 3)))] b2 fun e g1 => e = .returned (.tuple #[]) ∧
 ∀ b3, Adv [] [] g1 b3 →
 Calls pP 173 #[(.pointer (some A1)), (.pointer (some (Addr.add A0 12)))] b3 fun e g2 => e = .returned (.tuple #[]) ∧
 ∀ b4, Adv [] [] g2 b4 →
 Calls pP 175 #[(.pointer (some A1)), (.pointer (some (Addr.add A0 13)))] b4 fun e g3 => e = .returned (.tuple #[]) ∧
 R (.tuple #[]) g3)
 (
 brB (x1 == 7) (
 brB (x1 == 7) (
 Calls pP 118 #[(.iface 158 (.pointer (some A1))), (.pointer (some A0))] w fun e g4 => e = .returned (.tuple #[]) ∧
 ∀ b5, Adv [] [] g4 b5 →
 Calls pP 176 #[(.pointer (some A1)), (.pointer (some (Addr.add A0 11)))] b5 fun e g5 => e = .returned (.tuple #[]) ∧
 R (.tuple #[]) g5)
 (
 brB (x1 == 10) (
 Calls pP 118 #[(.iface 158 (.pointer (some A1))), (.pointer (some A0))] w fun e g6 => e = .returned (.tuple #[]) ∧
 ∀ b6, Adv [] [] g6 b6 →
 Calls pP 176 #[(.pointer (some A1)), (.pointer (some (Addr.add A0 11)))] b6 fun e g7 => e = .returned (.tuple #[]) ∧
 Calls pP 60 #[(.iface 158 (.pointer (some A1))), (.pointer (some (Addr.add A0 1)))] g7 fun e g8 => e = .returned (.tuple #[]) ∧
 ∀ b7, Adv [] [] g8 b7 →
 Calls pP 176 #[(.pointer (some A1)), (.pointer (some (Addr.add A0 4)))] b7 fun e g9 => e = .returned (.tuple #[]) ∧
 R (.tuple #[]) g9)
 (
 brB (x1 == 11) (
 ∀ b8, Adv [] [] w b8 →
 Calls pP 174 #[(.pointer (some A1)), (.pointer (some (Addr.add A0 9)))] b8 fun e h0 => e = .returned (.tuple #[]) ∧
 Calls pP 60 #[(.iface 158 (.pointer (some A1))), (.pointer (some (Addr.add A0 1)))] h0 fun e h1 => e = .returned (.tuple #[]) ∧
 R (.tuple #[]) h1)
 (
 R (.tuple #[]) w))))
 (
 brB (x1 == 8) (
 brB (x1 == 8) (
 Calls pP 118 #[(.iface 158 (.pointer (some A1))), (.pointer (some A0))] w fun e h2 => e = .returned (.tuple #[]) ∧
 ∀ b9, Adv [] [] h2 b9 →
 Calls pP 176 #[(.pointer (some A1)), (.pointer (some (Addr.add A0 11)))] b9 fun e h3 => e = .returned (.tuple #[]) ∧
 R (.tuple #[]) h3)
 (
 brB (x1 == 10) (
 Calls pP 118 #[(.iface 158 (.pointer (some A1))), (.pointer (some A0))] w fun e h4 => e = .returned (.tuple #[]) ∧
 ∀ c0, Adv [] [] h4 c0 →
 Calls pP 176 #[(.pointer (some A1)), (.pointer (some (Addr.add A0 11)))] c0 fun e h5 => e = .returned (.tuple #[]) ∧
 Calls pP 60 #[(.iface 158 (.pointer (some A1))), (.pointer (some (Addr.add A0 1)))] h5 fun e h6 => e = .returned (.tuple #[]) ∧
 ∀ c1, Adv [] [] h6 c1 →
 Calls pP 176 #[(.pointer (some A1)), (.pointer (some (Addr.add A0 4)))] c1 fun e h7 => e = .returned (.tuple #[]) ∧
 R (.tuple #[]) h7)
 (
 brB (x1 == 11) (
 ∀ c2, Adv [] [] w c2 →
 Calls pP 174 #[(.pointer (some A1)), (.pointer (some (Addr.add A0 9)))] c2 fun e h8 => e = .returned (.tuple #[]) ∧
 Calls pP 60 #[(.iface 158 (.pointer (some A1))), (.pointer (some (Addr.add A0 1)))] h8 fun e h9 => e = .returned (.tuple #[]) ∧
 R (.tuple #[]) h9)
 (
 R (.tuple #[]) w))))
 (
 brB (x1 == 9) (
 Calls pP 118 #[(.iface 158 (.pointer (some A1))), (.pointer (some A0))] w fun e u0 => e = .returned (.tuple #[]) ∧
 ∀ c3, Adv [] [] u0 c3 →
 Calls pP 176 #[(.pointer (some A1)), (.pointer (some (Addr.add A0 11)))] c3 fun e u1 => e = .returned (.tuple #[]) ∧
 R (.tuple #[]) u1)
 (
 brB (x1 == 10) (
 Calls pP 118 #[(.iface 158 (.pointer (some A1))), (.pointer (some A0))] w fun e u2 => e = .returned (.tuple #[]) ∧
 ∀ c4, Adv [] [] u2 c4 →
 Calls pP 176 #[(.pointer (some A1)), (.pointer (some (Addr.add A0 11)))] c4 fun e u3 => e = .returned (.tuple #[]) ∧
 Calls pP 60 #[(.iface 158 (.pointer (some A1))), (.pointer (some (Addr.add A0 1)))] u3 fun e u4 => e = .returned (.tuple #[]) ∧
 ∀ c5, Adv [] [] u4 c5 →
 Calls pP 176 #[(.pointer (some A1)), (.pointer (some (Addr.add A0 4)))] c5 fun e u5 => e = .returned (.tuple #[]) ∧
 R (.tuple #[]) u5)
 (
 brB (x1 == 11) (
 ∀ c6, Adv [] [] w c6 →
 Calls pP 174 #[(.pointer (some A1)), (.pointer (some (Addr.add A0 9)))] c6 fun e u6 => e = .returned (.tuple #[]) ∧
 Calls pP 60 #[(.iface 158 (.pointer (some A1))), (.pointer (some (Addr.add A0 1)))] u6 fun e u7 => e = .returned (.tuple #[]) ∧
 R (.tuple #[]) u7)
 (
 R (.tuple #[]) w))))))))))))
 (
 brB (x1 == 12) (
 ∀ c7, Adv [] [] w c7 →
 Calls pP 176 #[(.pointer (some A1)), (.pointer (some (Addr.add A0 3)))] c7 fun e u9 => e = .returned (.tuple #[]) ∧
 R (.tuple #[]) u9)
 (
 brB (x1 == 2) (
 Calls pP 60 #[(.iface 158 (.pointer (some A1))), (.pointer (some (Addr.add A0 1)))] w fun e v0 => e = .returned (.tuple #[]) ∧
 ∀ c8, Adv [] [] v0 c8 →
 Calls pP 172 #[(.pointer (some A1)), (.pointer (some (Addr.add A0 5)))] c8 fun e v1 => e = .returned (.tuple #[]) ∧
 R (.tuple #[]) v1)
 (
 brB (x1 == 3) (
 Calls pP 60 #[(.iface 158 (.pointer (some A1))), (.pointer (some (Addr.add A0 1)))] w fun e v2 => e = .returned (.tuple #[]) ∧
 ∀ c9, Adv [] [] v2 c9 →
 Calls pP 176 #[(.pointer (some A1)), (.pointer (some (Addr.add A0 4)))] c9 fun e v3 => e = .returned (.tuple #[]) ∧
 ∀ d0, Adv [] [] v3 d0 →
 Calls pP 176 #[(.pointer (some A1)), (.pointer (some (Addr.add A0 3)))] d0 fun e v4 => e = .returned (.tuple #[]) ∧
 R (.tuple #[]) v4)
 (
 brB (x1 == 4) (
 Calls pP 60 #[(.iface 158 (.pointer (some A1))), (.pointer (some (Addr.add A0 1)))] w fun e v5 => e = .returned (.tuple #[]) ∧
 ∀ d1, Adv [] [] v5 d1 →
 Calls pP 176 #[(.pointer (some A1)), (.pointer (some (Addr.add A0 4)))] d1 fun e v6 => e = .returned (.tuple #[]) ∧
 R (.tuple #[]) v6)
 (
 brB (x1 == 5) (
 Calls pP 60 #[(.iface 158 (.pointer (some A1))), (.pointer (some (Addr.add A0 1)))] w fun e v7 => e = .returned (.tuple #[]) ∧
 R (.tuple #[]) v7)
 (
 brB (x1 == 6) (
 Calls pP 118 #[(.iface 158 (.pointer (some A1))), (.pointer (some A0))] w fun e v8 => e = .returned (.tuple #[]) ∧
 ∀ d2, Adv [] [] v8 d2 →
 Calls pP 176 #[(.pointer (some A1)), (.pointer (some (Addr.add A0 3)))] d2 fun e v9 => e = .returned (.tuple #[]) ∧
 ∀ d3, Adv [] [] v9 d3 →
 Calls pP 173 #[(.pointer (some A1)), (.pointer (some (Addr.add A0 12)))] d3 fun e w0 => e = .returned (.tuple #[]) ∧
 ∀ d4, Adv [] [] w0 d4 →
 Calls pP 175 #[(.pointer (some A1)), (.pointer (some (Addr.add A0 13)))] d4 fun e w1 => e = .returned (.tuple #[]) ∧
 R (.tuple #[]) w1)
 (
 brB (x1 == 7) (
 brB (x1 == 7) (
 Calls pP 118 #[(.iface 158 (.pointer (some A1))), (.pointer (some A0))] w fun e x0 => e = .returned (.tuple #[]) ∧
 ∀ d5, Adv [] [] x0 d5 →
 Calls pP 176 #[(.pointer (some A1)), (.pointer (some (Addr.add A0 11)))] d5 fun e x2 => e = .returned (.tuple #[]) ∧
 R (.tuple #[]) x2)
 (
 brB (x1 == 10) (
 Calls pP 118 #[(.iface 158 (.pointer (some A1))), (.pointer (some A0))] w fun e x3 => e = .returned (.tuple #[]) ∧
 ∀ d6, Adv [] [] x3 d6 →
 Calls pP 176 #[(.pointer (some A1)), (.pointer (some (Addr.add A0 11)))] d6 fun e x4 => e = .returned (.tuple #[]) ∧
 Calls pP 60 #[(.iface 158 (.pointer (some A1))), (.pointer (some (Addr.add A0 1)))] x4 fun e x5 => e = .returned (.tuple #[]) ∧
 ∀ d7, Adv [] [] x5 d7 →
 Calls pP 176 #[(.pointer (some A1)), (.pointer (some (Addr.add A0 4)))] d7 fun e x6 => e = .returned (.tuple #[]) ∧
 R (.tuple #[]) x6)
 (
 brB (x1 == 11) (
 ∀ d8, Adv [] [] w d8 →
 Calls pP 174 #[(.pointer (some A1)), (.pointer (some (Addr.add A0 9)))] d8 fun e x7 => e = .returned (.tuple #[]) ∧
 Calls pP 60 #[(.iface 158 (.pointer (some A1))), (.pointer (some (Addr.add A0 1)))] x7 fun e x8 => e = .returned (.tuple #[]) ∧
 R (.tuple #[]) x8)
 (
 R (.tuple #[]) w))))
 (
 brB (x1 == 8) (
 brB (x1 == 8) (
 Calls pP 118 #[(.iface 158 (.pointer (some A1))), (.pointer (some A0))] w fun e x9 => e = .returned (.tuple #[]) ∧
 ∀ d9, Adv [] [] x9 d9 →
 Calls pP 176 #[(.pointer (some A1)), (.pointer (some (Addr.add A0 11)))] d9 fun e y0 => e = .returned (.tuple #[]) ∧
 R (.tuple #[]) y0)
 (
 brB (x1 == 10) (
 Calls pP 118 #[(.iface 158 (.pointer (some A1))), (.pointer (some A0))] w fun e y1 => e = .returned (.tuple #[]) ∧
 ∀ a2, Adv [] [] y1 a2 →
 Calls pP 176 #[(.pointer (some A1)), (.pointer (some (Addr.add A0 11)))] a2 fun e e0 => e = .returned (.tuple #[]) ∧
 Calls pP 60 #[(.iface 158 (.pointer (some A1))), (.pointer (some (Addr.add A0 1)))] e0 fun e e1 => e = .returned (.tuple #[]) ∧
 ∀ a3, Adv [] [] e1 a3 →
 Calls pP 176 #[(.pointer (some A1)), (.pointer (some (Addr.add A0 4)))] a3 fun e e2 => e = .returned (.tuple #[]) ∧
 R (.tuple #[]) e2)
 (
 brB (x1 == 11) (
 ∀ a4, Adv [] [] w a4 →
 Calls pP 174 #[(.pointer (some A1)), (.pointer (some (Addr.add A0 9)))] a4 fun e e3 => e = .returned (.tuple #[]) ∧
 Calls pP 60 #[(.iface 158 (.pointer (some A1))), (.pointer (some (Addr.add A0 1)))] e3 fun e e4 => e = .returned (.tuple #[]) ∧
 R (.tuple #[]) e4)
 (
 R (.tuple #[]) w))))
 (
 brB (x1 == 9) (
 Calls pP 118 #[(.iface 158 (.pointer (some A1))), (.pointer (some A0))] w fun e e5 => e = .returned (.tuple #[]) ∧
 ∀ a5, Adv [] [] e5 a5 →
 Calls pP 176 #[(.pointer (some A1)), (.pointer (some (Addr.add A0 11)))] a5 fun e e6 => e = .returned (.tuple #[]) ∧
 R (.tuple #[]) e6)
 (
 brB (x1 == 10) (
 Calls pP 118 #[(.iface 158 (.pointer (some A1))), (.pointer (some A0))] w fun e e7 => e = .returned (.tuple #[]) ∧
 ∀ a6, Adv [] [] e7 a6 →
 Calls pP 176 #[(.pointer (some A1)), (.pointer (some (Addr.add A0 11)))] a6 fun e e8 => e = .returned (.tuple #[]) ∧
 Calls pP 60 #[(.iface 158 (.pointer (some A1))), (.pointer (some (Addr.add A0 1)))] e8 fun e e9 => e = .returned (.tuple #[]) ∧
 ∀ a7, Adv [] [] e9 a7 →
 Calls pP 176 #[(.pointer (some A1)), (.pointer (some (Addr.add A0 4)))] a7 fun e f0 => e = .returned (.tuple #[]) ∧
 R (.tuple #[]) f0)
 (
 brB (x1 == 11) (
 ∀ a8, Adv [] [] w a8 →
 Calls pP 174 #[(.pointer (some A1)), (.pointer (some (Addr.add A0 9)))] a8 fun e f1 => e = .returned (.tuple #[]) ∧
 Calls pP 60 #[(.iface 158 (.pointer (some A1))), (.pointer (some (Addr.add A0 1)))] f1 fun e f2 => e = .returned (.tuple #[]) ∧
 R (.tuple #[]) f2)
 (
 R (.tuple #[]) w)))))))))))))) :
 CR pP 93 #[(.iface 158 (.pointer (some A1))), (.pointer (some A0))] w R :=
 yaA Tryz.wide_mixed (an := []) Tryz.func93 rfl rfl (by kernel_rfl) rfl (Eq.mpr (by kernel_rfl) h)
theorem yIY {b0 : BA} {b9 a7 : BA} (h :
 ∀ b1, w.heap.size ≤ b1 →
 brB (decide (i0 < 0)) (
 ∀ w2, Adv [] [b1] w w2 →
 R (.int .i64 41) w2)
 (
 brB (decide (i0 ≥ 13)) (
 ∀ w3, Adv [] [b1] w w3 →
 R (.int .i64 41) w3)
 (
 ∀ b4, w.heap.size ≤ b4 →
 ∀ w5, Adv [] [b4, b1] w w5 → w5.heap[b1]? = some (.cells (Z1 i0 b0 i1 i2 i3 i4 i5 i6 q0 n0 n1 b9 a7 i7 B0 q1 n2 n3) 49) →
 w5.heap[b4]? = some (.cells #[.bool false, .bool false, .int .i64 0] 160) →
 Calls pP 93 #[(.iface 158 (.pointer (some ⟨b4, 0, none⟩))), (.pointer (some ⟨b1, 0, none⟩))] w5 fun e w6 => e = .returned (.tuple #[]) ∧ ∃ x7 s8 x9 d3 d4 d5 d6 d7 c1 c5 c3 c7 c8 d8 c9 c2 c6 c4, w6.heap[b1]? = some (.cells (Z1 x7 s8 x9 d3 d4 d5 d6 d7 c1 c5 c3 c7 c8 d8 c9 c2 c6 c4) 49) ∧ ∃ d0 d9 e0, w6.heap[b4]? = some (.cells #[.bool d0, .bool d9, .int .i64 e0] 160) ∧
 brB d0 (
 ∀ d1, Adv [b1] [] w6 d1 → d1.heap[b1]? = some (.cells (Z1 0 s8 x9 d3 d4 d5 d6 d7 c1 c5 c3 c7 c8 d8 c9 c2 c6 c4) 49) →
 d1.heap[b4]? = some (.cells #[.bool d0, .bool d9, .int .i64 e0] 160) →
 R (.int .i64 40) d1)
 (
 ∀ d2, Adv [b1] [] w6 d2 → d2.heap[b1]? = some (.cells (Z1 0 s8 x9 d3 d4 d5 d6 d7 c1 c5 c3 c7 c8 d8 c9 c2 c6 c4) 49) →
 d2.heap[b4]? = some (.cells #[.bool d0, .bool d9, .int .i64 e0] 160) →
 Calls pP 72 #[(.agg (Z1 0 s8 x9 d3 d4 d5 d6 d7 c1 c5 c3 c7 c8 d8 c9 c2 c6 c4)), (.agg (Z1 0 ByteArray.empty 0 0 0 0 0 0 none 0 0 ByteArray.empty ByteArray.empty 0 false none 0 0))] d2 fun e c0 => ∃ e1, e = .returned (.bool e1) ∧ ∃ f5 f0 f6 f7 f8 f9 g0 g1 e4 e8 e6 f1 f2 g2 f3 e5 e9 e7, c0.heap[b1]? = some (.cells (Z1 f5 f0 f6 f7 f8 f9 g0 g1 e4 e8 e6 f1 f2 g2 f3 e5 e9 e7) 49) ∧ ∃ f4 e2 e3, c0.heap[b4]? = some (.cells #[.bool f4, .bool e2, .int .i64 e3] 160) ∧
 brB (!e1) (
 R (.int .i64 40) c0)
 (
 brB e2 (
 R (.int .i64 1) c0)
 (
 R (.int .i64 e3) c0)))))) :
 CR pP 92 #[(.agg (Z1 i0 b0 i1 i2 i3 i4 i5 i6 q0 n0 n1 b9 a7 i7 B0 q1 n2 n3))] w R :=
 yaA Tryz.wide_mixed (an := []) Tryz.func92 rfl rfl (by kernel_rfl) rfl (Eq.mpr (by kernel_rfl) h)
end
theorem yIZ {w : World} {a1 a2 : Option Addr} {n1 c1 n2 c2 : Nat} {l1 l2 : List ByteArray} (h1 : ycQ w 1 yjD a1 n1 l1) (h2 : ycQ w 1 yjD a2 n2 l2) (hl : l1.length ≤ 1000000) :
  Calls pP 107 #[.slice a1 n1 c1, .slice a2 n2 c2] w fun e w' => e = .returned (.bool (decide (l1 = l2))) ∧ Mod [] w w' := by
 refine yaP (yID ?_)
 have e1 := h1.1
 have e2 := h2.1
 refine yaB (fun h => ⟨congrArg Value.bool (decide_eq_false fun e => ?_).symm, Mod.refl _⟩) fun h => ?_
 ·subst e
  rw [e1, e2] at h
  simp at h
 have hlen : l1.length = l2.length := by
  simp at h
  omega
 refine yAQ (fun mm x w' => ∃ k : Nat, x = k ∧ k ≤ l1.length ∧ l1.take k = l2.take k ∧ Mod [] w w' ∧ mm = l1.length - k) l1.length ⟨0, rfl, by omega, by simp, Mod.refl _, rfl⟩ ?_
 rintro mm x w1 ⟨k, rfl, hk, ht, M, rfl⟩
 refine yaC (fun hlt => ?_) fun hge => ?_
 ·have g1 : k < l1.length := by omega
  have g2 : k < l2.length := by omega
  obtain ⟨x, hx⟩ : ∃ x, l1[k]? = some x := ⟨_, List.getElem?_eq_getElem g1⟩
  obtain ⟨y, hy⟩ : ∃ y, l2[k]? = some y := ⟨_, List.getElem?_eq_getElem g2⟩
  refine (h1.keep0 M).ix hx fun q hq => yaI (by simpa [add_zero] using hq 0 _ rfl) ?_
  refine (h2.keep0 M).ix hy fun q hq => yaI (by simpa [add_zero] using hq 0 _ rfl) ?_
  rw [yfW x y]
  refine yaB (fun hne => ?_) fun heq => ?_
  rotate_left
  rotate_right
  ·intro w2 A2
   refine ⟨congrArg Value.bool (decide_eq_false fun e => (show ¬ x = y by simpa using hne) ?_).symm, M.go0 A2.mod (by simp)⟩
   subst e
   rw [hx] at hy
   exact Option.some.inj hy
  ·intro w2 A2
   have he : x = y := by simpa using heq
   subst he
   exact yAP (l1.length - (k + 1)) (by omega) ⟨k + 1, by rw [yaG (by omega) (by omega)]; omega, by omega, ycH ht hx hy, M.go0 A2.mod (by simp), rfl⟩
 ·have hk : k = l1.length := by omega
  subst hk
  rw [List.take_length, hlen, List.take_length] at ht
  exact ⟨congrArg Value.bool (decide_eq_true ht).symm, M⟩
theorem neR (x y : PRec) (o1 o2 : Operand) (w : World) : Sem.run pP (do eqGuard .neq 53 o1 o2 x.v y.v; Go.binOp .neq 53 x.v y.v) w = .ok (.bool (decide (x ≠ y))) w := by
 obtain ⟨a, b, c, d⟩ := x
 obtain ⟨a', b', c', d'⟩ := y
 simp [go_sem, Sem.run_bind, PRec.v]
 by_cases h1 : a = a' <;> by_cases h2 : b = b' <;> by_cases h3 : c = c' <;> by_cases h4 : d = d' <;> simp [h1, h2, h3, h4, ycL]
theorem yKZ (x y : PPart) (o1 o2 : Operand) (w : World) : Sem.run pP (do eqGuard .eql 43 o1 o2 x.v y.v; Go.binOp .eql 43 x.v y.v) w = .ok (.bool (decide (x = y))) w := by
 obtain ⟨a, b⟩ := x
 obtain ⟨a', b'⟩ := y
 simp [go_sem, Sem.run_bind, PPart.v]
 by_cases h1 : a = a' <;> by_cases h2 : b = b' <;> simp [h1, h2, ycL]
theorem yI0 {w : World} {a1 a2 : Option Addr} {n1 c1 n2 c2 : Nat} {l1 l2 : List PRec} (h1 : ycQ w 4 yg2 a1 n1 l1) (h2 : ycQ w 4 yg2 a2 n2 l2) (hl : l1.length ≤ 1000000) :
  Calls pP 129 #[.slice a1 n1 c1, .slice a2 n2 c2] w fun e w' => e = .returned (.bool (decide (l1 = l2))) ∧ Mod [] w w' := by
 refine yaP (yIG ?_)
 have e1 := h1.1
 have e2 := h2.1
 refine yaB (fun h => ⟨congrArg Value.bool (decide_eq_false fun e => ?_).symm, Mod.refl _⟩) fun h => ?_
 ·subst e
  rw [e1, e2] at h
  simp at h
 have hlen : l1.length = l2.length := by
  simp at h
  omega
 refine yAS (fun mm x w' => ∃ k : Nat, x = k ∧ k ≤ l1.length ∧ l1.take k = l2.take k ∧ Mod [] w w' ∧ mm = l1.length - k) l1.length ⟨0, rfl, by omega, by simp, Mod.refl _, rfl⟩ ?_
 rintro mm x w1 ⟨k, rfl, hk, ht, M, rfl⟩
 refine yaC (fun hlt => ?_) fun hge => ?_
 ·have g1 : k < l1.length := by omega
  have g2 : k < l2.length := by omega
  obtain ⟨x, hx⟩ : ∃ x, l1[k]? = some x := ⟨_, List.getElem?_eq_getElem g1⟩
  obtain ⟨y, hy⟩ : ∃ y, l2[k]? = some y := ⟨_, List.getElem?_eq_getElem g2⟩
  refine (h1.keep0 M).ix hx fun q hq => yaO (by simpa [add_zero] using hq 0 _ rfl) (yaI (hq 1 _ rfl) (yaO (hq 2 _ rfl) (yaI (hq 3 _ rfl) ?_)))
  refine (h2.keep0 M).ix hy fun q hq => yaO (by simpa [add_zero] using hq 0 _ rfl) (yaI (hq 1 _ rfl) (yaO (hq 2 _ rfl) (yaI (hq 3 _ rfl) ?_)))
  refine ⟨_, fun w' _ => neR x y _ _ w', ?_⟩
  refine yaC (fun hne => ?_) fun heq => ?_
  ·intro w2 A2
   refine ⟨congrArg Value.bool (decide_eq_false fun e => hne ?_).symm, M.go0 A2.mod (by simp)⟩
   subst e
   rw [hx] at hy
   exact Option.some.inj hy
  ·intro w2 A2
   have he : x = y := Decidable.not_not.1 heq
   subst he
   exact yAR (l1.length - (k + 1)) (by omega) ⟨k + 1, by rw [yaG (by omega) (by omega)]; omega, by omega, ycH ht hx hy, M.go0 A2.mod (by simp), rfl⟩
 ·have hk : k = l1.length := by omega
  subst hk
  rw [List.take_length, hlen, List.take_length] at ht
  exact ⟨congrArg Value.bool (decide_eq_true ht).symm, M⟩
def PBatch.v (b : PBatch) (rs : Sl) : Value := .agg #[.int .i64 b.prod, .int .i64 b.epoch, .int .i64 b.seq, .slice rs.a rs.n rs.c]
theorem ywR {w : World} {x y : PBatch} {s t : Sl} (h1 : ycQ w 4 yg2 s.a s.n x.recs) (h2 : ycQ w 4 yg2 t.a t.n y.recs) (hl : x.recs.length ≤ 1000000) :
  Calls pP 106 #[x.v s, y.v t] w fun e w' => e = .returned (.bool (decide (x = y))) ∧ Mod [] w w' := by
 obtain ⟨a1, a2, a3, a4⟩ := x
 obtain ⟨b1, b2, b3, b4⟩ := y
 refine yaP (yIz ?_)
 intro c1 f1 c2 f2
 simp only [PBatch.mk.injEq]
 refine yaB (fun g1 => ?_) fun g1 => ?_
 ·have g1 : a1 = b1 := by simpa using g1
  refine yaB (fun g2 => ?_) fun g2 => ?_
  ·have g2 : a2 = b2 := by simpa using g2
   refine yaB (fun g3 => ?_) fun g3 => ?_
   ·have g3 : a3 = b3 := by simpa using g3
    intro w1 A1
    refine (yI0 (h1.keep0 A1.mod) (h2.keep0 A1.mod) hl).mono ?_
    rintro e w2 ⟨rfl, M2⟩
    exact ⟨_, rfl, yaD.of0 M2, by simp [g1, g2, g3], A1.mod.go0 M2 (by simp)⟩
   ·intro w1 A1
    exact ⟨congrArg Value.bool (decide_eq_false (by simp at g3; rintro ⟨_, _, h, _⟩; exact g3 h)).symm, A1.mod⟩
  ·intro w1 A1
   exact ⟨congrArg Value.bool (decide_eq_false (by simp at g2; rintro ⟨_, h, _⟩; exact g2 h)).symm, A1.mod⟩
 ·intro w1 A1
  exact ⟨congrArg Value.bool (decide_eq_false (by simp at g1; rintro ⟨h, _⟩; exact g1 h)).symm, A1.mod⟩
theorem yqT {w : World} {x y : POp} {rs ts rs' ts' : Sl} (h1 : OpAt w x rs ts) (h2 : OpAt w y rs' ts') :
  Calls pP 72 #[x.v rs ts, y.v rs' ts'] w fun e w' => e = .returned (.bool (decide (x = y))) ∧ Mod [] w w' := by
 obtain ⟨k1, p1, n1, o1, b1, g1, m1, e1, r1, t1⟩ := x
 obtain ⟨k2, p2, n2, o2, b2, g2, m2, e2, r2, t2⟩ := y
 refine yaP (yIA ?_)
 intro c1 f1 c2 f2
 simp only [POp.mk.injEq]
 have no : ∀ {P : Prop} [Decidable P] {w' : World}, ¬ P → Mod [] w w' → (Value.bool false = Value.bool (decide P) ∧ Mod [] w w') := fun hn M => ⟨congrArg Value.bool (decide_eq_false hn).symm, M⟩
 refine yaB (fun q1 => ?_) fun q1 => ?_
 rotate_left
 ·intro w1 A1
  exact no (by simp at q1; rintro ⟨h, _⟩; exact q1 h) A1.mod
 have q1 : k1 = k2 := by simpa using q1
 intro w1 A1
 have M1 := A1.mod
 refine ⟨_, fun w' _ => yKZ p1 p2 _ _ w', yaB (fun q2 => ?_) fun q2 => no (by simp at q2; rintro ⟨_, h, _⟩; exact q2 h) M1⟩
 have q2 : p1 = p2 := by simpa using q2
 refine yaB (fun q3 => ?_) fun q3 => no (by simp at q3; rintro ⟨_, _, h, _⟩; exact q3 h) M1
 have q3 : n1 = n2 := by simpa using q3
 refine yaB (fun q4 => ?_) fun q4 => no (by simp at q4; rintro ⟨_, _, _, h, _⟩; exact q4 h) M1
 have q4 : o1 = o2 := by simpa using q4
 rw [yfW, yfW]
 refine yaB (fun q5 => ?_) fun q5 => no (by simp at q5; rintro ⟨_, _, _, _, _, h, _⟩; exact q5 h) M1
 have q5 : g1 = g2 := by simpa using q5
 refine yaB (fun q6 => ?_) fun q6 => no (by simp at q6; rintro ⟨_, _, _, _, _, _, h, _⟩; exact q6 h) M1
 have q6 : m1 = m2 := by simpa using q6
 refine yaB (fun q7 => ?_) fun q7 => no (by simp at q7; rintro ⟨_, _, _, _, _, _, _, h, _⟩; exact q7 h) M1
 have q7 : e1 = e2 := by simpa using q7
 refine yaB (fun q8 => ?_) fun q8 => no (by simp at q8; rintro ⟨_, _, _, _, _, _, _, _, h, _⟩; exact q8 h) M1
 have q8 : r1 = r2 := by simpa using q8
 refine (ywR (x := b1) (y := b2) (s := rs) (t := rs') (h1.recs.keep0 M1) (h2.recs.keep0 M1) h1.lr).mono ?_
 rintro e w2 ⟨rfl, M2⟩
 have N2 := M1.go0 M2 (by simp)
 refine ⟨_, rfl, yaD.of0 M2, yaB (fun q9 => ?_) fun q9 => no (by simp at q9; rintro ⟨_, _, _, _, h, _⟩; exact q9 h) N2⟩
 have q9 : b1 = b2 := by simpa using q9
 refine (yIZ (h1.topics.keep0 N2) (h2.topics.keep0 N2) h1.lt).mono ?_
 rintro e w3 ⟨rfl, M3⟩
 exact ⟨_, rfl, yaD.of0 M3, by simp [q1, q2, q3, q4, q5, q6, q7, q8, q9], N2.go0 M3 (by simp)⟩
theorem ykN (n : Int) (w : World) : Calls pP 164 #[.int .i64 n] w fun e w' => e = .returned (.bool (num n)) ∧ w' = w :=
 yaP (yH8 (yaC (fun h => ⟨by simp [num]; omega, rfl⟩) (fun h => ⟨by simp [num]; omega, rfl⟩)))
theorem yqU {l : List PRec} {k : Nat} {x : PRec} (hx : l[k]? = some x) (h : ∀ y ∈ l.take k, ygB y = 0) (hne : ygB x ≠ 0) : (l.find? fun r => ygB r ≠ 0) = some x := by
 have hk : k < l.length := (List.getElem?_eq_some_iff.1 hx).1
 have e : l = l.take k ++ x :: l.drop (k + 1) := by
  have h2 : l[k] = x := (List.getElem?_eq_some_iff.1 hx).2
  conv => lhs; rw [← List.take_append_drop k l, List.drop_eq_getElem_cons hk, h2]
 rw [e, List.find?_append, List.find?_eq_none.2 (by intro y hy; simp [h y hy])]
 simp [hne]
theorem yqV {w : World} {b : PBatch} {rs : Sl} (h : ycQ w 4 yg2 rs.a rs.n b.recs) (hl : b.recs.length ≤ 1000000) :
  Calls pP 163 #[b.v rs] w fun e w' => e = .returned (.int .i64 (ybH b)) ∧ Mod [] w w' := by
 refine yaP (yIb ?_)
 have hn := h.1
 intro b1 f1 w1 A1
 have l1 := A1.lt b1 (by simp)
 have bad : ∀ {k : Int} {w' : World}, ybH b = k → Mod [] w w' → (Value.int .i64 k = Value.int .i64 (ybH b) ∧ Mod [] w w') := fun e M => ⟨by rw [e], M⟩
 refine (ykN b.prod w1).mono ?_
 rintro e w2 ⟨rfl, rfl⟩
 refine ⟨_, rfl, yaD.of0 (Mod.refl _), yaB (fun q1 => bad (by rw [ybH, if_pos (by rw [yjM q1]; rfl)]) A1.mod) fun q1 => ?_⟩
 refine (ykN b.epoch w2).mono ?_
 rintro e w3 ⟨rfl, rfl⟩
 refine ⟨_, rfl, yaD.of0 (Mod.refl _), yaB (fun q2 => bad (by rw [ybH, if_pos (by rw [yjM q2]; simp)]) A1.mod) fun q2 => ?_⟩
 refine (ykN b.seq w3).mono ?_
 rintro e w4 ⟨rfl, rfl⟩
 refine ⟨_, rfl, yaD.of0 (Mod.refl _), yaB (fun q3 => bad (by rw [ybH, if_pos (by rw [yjM q3]; simp)]) A1.mod) fun q3 => ?_⟩
 have e0 : ybH b = if b.recs.length = 0 then 30 else if b.recs.length > 16 then 2 else match b.recs.find? fun r => ygB r ≠ 0 with | none => 0 | some r => ygB r := by
  rw [ybH, if_neg (by rw [yh5 q1, yh5 q2, yh5 q3]; decide)] <;> rfl
 refine yaB (fun q4 => bad (by rw [e0, if_pos (by simp at q4; omega)]) A1.mod) fun q4 => ?_
 rw [if_neg (by simp at q4; omega)] at e0
 refine yaC (fun q5 => bad (by rw [e0, if_pos (by omega)]) A1.mod) fun q5 => ?_
 rw [if_neg (by omega)] at e0
 refine yAw (fun mm x w' => ∃ k : Nat, x = k ∧ k ≤ b.recs.length ∧ (∀ y ∈ b.recs.take k, ygB y = 0) ∧ Mod [] w w' ∧ mm = b.recs.length - k) b.recs.length ⟨0, rfl, by omega, by simp, A1.mod, rfl⟩ ?_
 rintro mm x w5 ⟨k, rfl, hk, hz, M5, rfl⟩
 refine yaC (fun hlt => ?_) fun hge => ?_
 ·obtain ⟨y, hy⟩ : ∃ y, b.recs[k]? = some y := ⟨_, List.getElem?_eq_getElem (by omega)⟩
  refine (h.keep0 M5).ix hy fun q hq => yaO (by simpa [add_zero] using hq 0 _ rfl) (yaI (hq 1 _ rfl) (yaO (hq 2 _ rfl) (yaI (hq 3 _ rfl) ?_)))
  intro b6 f6 w6 A6
  refine (yfG y w6).mono ?_
  rintro e w7 ⟨rfl, M7⟩
  have N7 := (M5.go0 A6.mod (by simp)).go0 M7 (by simp)
  refine ⟨_, rfl, yaD.of0 M7, yaB (fun q6 => ?_) fun q6 => ?_⟩
  ·have q6 : ygB y ≠ 0 := by simpa using q6
   exact bad (by rw [e0, yqU hy hz q6]) N7
  ·have q6 : ygB y = 0 := by simpa using q6
   refine yAv (b.recs.length - (k + 1)) (by omega) ⟨k + 1, by rw [yaG (by omega) (by omega)]; omega, by omega, ?_, N7, rfl⟩
   rw [List.take_add_one, hy]
   intro z hz'
   rcases List.mem_append.1 hz' with h | h
   ·exact hz z h
   ·simp at h; subst h; exact q6
 ·have : k = b.recs.length := by omega
  subst this
  rw [List.take_length] at hz
  refine bad ?_ M5
  rw [e0, List.find?_eq_none.2 (by intro y hy; simp [hz y hy])]
structure ChSt (w0 w : World) (bc bo : Nat) (F A : Bool) (E : Int) (cs : List Value) : Prop where
 c : w.heap[bc]? = some (.cells #[.bool F, .bool A, .int .i64 E] 160)
 o : w.heap[bo]? = some (.cells cs.toArray 49)
 m : Mod [bc, bo] w0 w
 ne : bc ≠ bo
theorem ChSt.adv {w0 w w' : World} {bc bo : Nat} {F A : Bool} {E : Int} {cs : List Value} (h : ChSt w0 w bc bo F A E cs) {N : List Nat} (M : Adv [] N w w') : ChSt w0 w' bc bo F A E cs :=
 ⟨M.mod.keep0 h.c, M.mod.keep0 h.o, (h.m.trans M.mod).less (by simp), h.ne⟩
theorem ChSt.m0 {w0 w w' : World} {bc bo : Nat} {F A : Bool} {E : Int} {cs : List Value} (h : ChSt w0 w bc bo F A E cs) (M : Mod [] w w') : ChSt w0 w' bc bo F A E cs :=
 ⟨M.keep0 h.c, M.keep0 h.o, (h.m.trans M).less (by simp), h.ne⟩
theorem ChSt.setC {w0 w w' : World} {bc bo : Nat} {F A F' A' : Bool} {E E' : Int} {cs : List Value} (h : ChSt w0 w bc bo F A E cs) (hc : w'.heap[bc]? = some (.cells #[.bool F', .bool A', .int .i64 E'] 160)) (M : Mod [bc] w w') : ChSt w0 w' bc bo F' A' E' cs :=
 ⟨hc, M.keep h.o (by simpa using h.ne.symm), (h.m.trans M).less (by simp), h.ne⟩
theorem ChSt.setO {w0 w w' : World} {bc bo : Nat} {F A : Bool} {E : Int} {cs cs' : List Value} (h : ChSt w0 w bc bo F A E cs) (ho : w'.heap[bo]? = some (.cells cs'.toArray 49)) (M : Mod [bo] w w') : ChSt w0 w' bc bo F A E cs' :=
 ⟨M.keep h.c (by simpa using h.ne), ho, (h.m.trans M).less (by simp), h.ne⟩
theorem yGV {cs : List Value} {off : Nat} {v : Value} : ycP cs.toArray off [v] = (cs.set off v).toArray := by simp [ycP]
theorem ymB {w0 w : World} {bc bo off : Nat} {F A : Bool} {E x : Int} {cs : List Value} {R : World → Prop} (H : ChSt w0 w bc bo F A E cs) (hc : cs[off]? = some (.int .i64 x)) (k : ∀ w', ChSt w0 w' bc bo F (A || !num x) E (cs.set off (.int .i64 0)) → R w') :
  Calls pP 176 #[.pointer (some ⟨bc, 0, none⟩), .pointer (some ⟨bo, off, none⟩)] w fun e w' => e = .returned (.tuple #[]) ∧ R w' := by
 have hlt : off < cs.length := (List.getElem?_eq_some_iff.1 hc).1
 refine yaP (yIJ ?_)
 refine yjX (b := bc) (i := 1) H.c rfl ?_
 refine yaB (fun g => ?_) fun g => ?_
 ·subst g
  refine yd8 (b := bc) (o := 1) H.c rfl (by simp) fun w1 h1 M1 => ?_
  have H1 := H.setC (F' := F) (A' := true) (E' := E) h1 M1
  refine yd8 (b := bo) (o := off) H1.o rfl (by simp; omega) fun w2 h2 M2 => ?_
  exact ⟨rfl, k w2 (H1.setO (by rw [h2, yGV]) M2)⟩
 ·subst g
  refine yf9 (b := bo) (i := off) H.o (by simpa using hc) ?_
  refine (ydI x w).mono ?_
  rintro e w1 ⟨rfl, rfl⟩
  refine ⟨_, rfl, ?_⟩
  refine yd8 (b := bc) (o := 1) H.c rfl (by simp) fun w2 h2 M2 => ?_
  have H2 := H.setC (F' := F) (A' := !num x) (E' := E) h2 M2
  refine yd8 (b := bo) (o := off) H2.o rfl (by simp; omega) fun w3 h3 M3 => ?_
  exact ⟨rfl, k w3 (H2.setO (by rw [h3, yGV]) M3)⟩
theorem yfH {w0 w : World} {bc bo off : Nat} {F A : Bool} {E : Int} {x : ByteArray} {cs : List Value} {R : World → Prop} (H : ChSt w0 w bc bo F A E cs) (hc : cs[off]? = some (.string x)) (k : ∀ w', ChSt w0 w' bc bo (F || !ybS x) A E (cs.set off (.string es)) → R w') :
  Calls pP 174 #[.pointer (some ⟨bc, 0, none⟩), .pointer (some ⟨bo, off, none⟩)] w fun e w' => e = .returned (.tuple #[]) ∧ R w' := by
 have hlt : off < cs.length := (List.getElem?_eq_some_iff.1 hc).1
 refine yaP (yIK ?_)
 refine yjX (b := bc) (i := 0) H.c rfl ?_
 refine yaB (fun g => ?_) fun g => ?_
 ·subst g
  refine yd8 (b := bc) (o := 0) H.c rfl (by simp) fun w1 h1 M1 => ?_
  have H1 := H.setC (F' := true) (A' := A) (E' := E) h1 M1
  refine yd8 (b := bo) (o := off) H1.o rfl (by simp; omega) fun w2 h2 M2 => ?_
  exact ⟨rfl, k w2 (H1.setO (by rw [h2, yGV]; rfl) M2)⟩
 ·subst g
  refine yCL (b := bo) (i := off) H.o (by simpa using hc) ?_
  refine (yr4 x w).mono ?_
  rintro e w1 ⟨rfl, M1⟩
  have H1 := H.m0 M1
  refine ⟨_, rfl, ?_⟩
  refine yd8 (b := bc) (o := 0) H1.c rfl (by simp) fun w2 h2 M2 => ?_
  have H2 := H1.setC (F' := !ybS x) (A' := A) (E' := E) h2 M2
  refine yd8 (b := bo) (o := off) H2.o rfl (by simp; omega) fun w3 h3 M3 => ?_
  exact ⟨rfl, k w3 (H2.setO (by rw [h3, yGV]; rfl) M3)⟩
theorem ysP {w0 w : World} {bc bo off : Nat} {F A : Bool} {E : Int} {x : Bool} {cs : List Value} {R : World → Prop} (H : ChSt w0 w bc bo F A E cs) (hc : cs[off]? = some (.bool x)) (k : ∀ w', ChSt w0 w' bc bo F A E (cs.set off (.bool false)) → R w') :
  Calls pP 173 #[.pointer (some ⟨bc, 0, none⟩), .pointer (some ⟨bo, off, none⟩)] w fun e w' => e = .returned (.tuple #[]) ∧ R w' := by
 have hlt : off < cs.length := (List.getElem?_eq_some_iff.1 hc).1
 refine yaP (yIL ?_)
 refine yd8 (b := bo) (o := off) H.o rfl (by simp; omega) fun w2 h2 M2 => ?_
 exact ⟨rfl, k w2 (H.setO (by rw [h2, yGV]) M2)⟩
theorem yqW {w0 w : World} {bc bo : Nat} {F A : Bool} {E : Int} {b : PBatch} {rs : Sl} {cs : List Value} {R : World → Prop} (H : ChSt w0 w bc bo F A E cs) (h5 : cs[5]? = some (.int .i64 b.prod)) (h6 : cs[6]? = some (.int .i64 b.epoch)) (h7 : cs[7]? = some (.int .i64 b.seq)) (h8 : cs[8]? = some (.slice rs.a rs.n rs.c))
  (hs : ycQ w 4 yg2 rs.a rs.n b.recs) (hl : b.recs.length ≤ 1000000) (k : ∀ w', ChSt w0 w' bc bo F A (ybH b) ((((cs.set 5 (.int .i64 0)).set 6 (.int .i64 0)).set 7 (.int .i64 0)).set 8 (.slice none 0 0)) → R w') :
  Calls pP 172 #[.pointer (some ⟨bc, 0, none⟩), .pointer (some ⟨bo, 5, none⟩)] w fun e w' => e = .returned (.tuple #[]) ∧ R w' := by
 have hlt : 8 < cs.length := (List.getElem?_eq_some_iff.1 h8).1
 refine yaP (yIM ?_)
 refine yf9 (b := bo) (i := 5) H.o (by simpa using h5) (yf9 (b := bo) (i := 6) H.o (by simpa using h6) (yf9 (b := bo) (i := 7) H.o (by simpa using h7) (ydF (b := bo) (i := 8) H.o (by simpa using h8) ?_)))
 refine (yqV (b := b) (rs := rs) hs hl).mono ?_
 rintro e w1 ⟨rfl, M1⟩
 have H1 := H.m0 M1
 refine ⟨_, rfl, ?_⟩
 refine yd8 (b := bc) (o := 2) H1.c rfl (by simp) fun w2 h2 M2 => ?_
 have H2 := H1.setC (F' := F) (A' := A) (E' := ybH b) h2 M2
 refine yd8 (b := bo) (o := 5) H2.o rfl (by simp; omega) fun w3 h3 M3 => ?_
 exact ⟨rfl, k w3 (H2.setO (by rw [h3]; simp [ycP]) M3)⟩
theorem yI1 (s : ByteArray) (w : World) : Calls pP 178 #[.string s] w fun e w' => e = .returned (.bool (!ybS s)) ∧ Mod [] w w' := by
 refine yaP (yIQ ?_)
 refine (yr4 s w).mono ?_
 rintro e w1 ⟨rfl, M1⟩
 exact ⟨_, rfl, rfl, M1⟩
theorem ysQ {w : World} {a : Option Addr} {n c : Nat} {l : List ByteArray} (h : ycQ w 1 yjD a n l) (hl : l.length ≤ 1000000) :
  Calls pP 179 #[.slice a n c, .func (.func 178) #[] #[]] w fun e w' => ∃ v, e = .returned v ∧ ∃ x : Int, v = .int .i64 x ∧ (0 ≤ x ↔ l.all ybS = false) ∧ Mod [] w w' := by
 refine yIU ?_
 have hn := h.1
 refine yAW (fun mm x w' => ∃ k : Nat, x = k ∧ k ≤ l.length ∧ (l.take k).all ybS = true ∧ Mod [] w w' ∧ mm = l.length - k) l.length ⟨0, rfl, by omega, by simp, Mod.refl _, rfl⟩ ?_
 rintro mm x w1 ⟨k, rfl, hk, ha, M1, rfl⟩
 refine yaC (fun hlt => ?_) fun hge => ?_
 ·obtain ⟨y, hy⟩ : ∃ y, l[k]? = some y := ⟨_, List.getElem?_eq_getElem (by omega)⟩
  refine (h.keep0 M1).ix hy fun q hq => yaI (by simpa [add_zero] using hq 0 _ rfl) ?_
  refine (yI1 y w1).mono ?_
  rintro e w2 ⟨rfl, M2⟩
  have N2 := M1.go0 M2 (by simp)
  refine ⟨_, rfl, yaB (fun g => ?_) fun g => ?_⟩
  ·refine ⟨_, rfl, ⟨fun _ => ?_, fun _ => by omega⟩, N2⟩
   rw [List.all_eq_false]
   exact ⟨y, List.mem_of_getElem? hy, by simpa using g⟩
  ·refine yAV (l.length - (k + 1)) (by omega) ⟨k + 1, by rw [yaG (by omega) (by omega)]; omega, by omega, ?_, N2, rfl⟩
   rw [ycD hy, ha]; simpa using g
 ·have : k = l.length := by omega
  subst this
  rw [List.take_length] at ha
  exact ⟨_, rfl, ⟨fun h => by omega, fun h => by rw [ha] at h; cases h⟩, M1⟩
theorem ylD {w : World} {a : Option Addr} {n c : Nat} {l : List ByteArray} (h : ycQ w 1 yjD a n l) (hl : l.length ≤ 1000000) :
  Calls pP 177 #[.slice a n c, .func (.func 178) #[] #[]] w fun e w' => e = .returned (.bool (!l.all ybS)) ∧ Mod [] w w' := by
 refine yaP (yIR ?_)
 refine (ysQ h hl).mono ?_
 rintro e w1 ⟨_, rfl, x, rfl, hx, M1⟩
 refine ⟨_, rfl, congrArg Value.bool ?_, M1⟩
 cases ha : l.all ybS
 ·exact decide_eq_true (hx.2 ha)
 ·exact decide_eq_false fun h => by have := hx.1 h; rw [ha] at this; cases this
theorem ymC : ∀ (l : List ByteArray) (x y : ByteArray), ye0 (l ++ [x, y]) = (ye0 (l ++ [x]) && ysD x y)
 | [], x, y => by simp [ye0]
 | [a], x, y => by simp [ye0, Bool.and_assoc]
 | a :: b :: r, x, y => by
  have := ymC (b :: r) x y
  simp only [List.cons_append] at this ⊢
  rw [ye0, ye0, this, Bool.and_assoc]
theorem yfZ {l : List ByteArray} {k : Nat} {x y : ByteArray} (hx : l[k]? = some x) (hy : l[k + 1]? = some y) : ye0 (l.take (k + 2)) = (ye0 (l.take (k + 1)) && ysD x y) := by
 have e1 : l.take (k + 1) = l.take k ++ [x] := by rw [List.take_add_one, hx]; rfl
 have e2 : l.take (k + 2) = l.take k ++ [x, y] := by rw [List.take_add_one, hy, e1]; simp
 rw [e1, e2, ymC]
theorem yqX {w0 w : World} {bc bo : Nat} {F A : Bool} {E : Int} {l : List ByteArray} {ts : Sl} {cs : List Value} {R : World → Prop} (H : ChSt w0 w bc bo F A E cs) (hc : cs[13]? = some (.slice ts.a ts.n ts.c))
  (hs : ycQ w 1 yjD ts.a ts.n l) (hl : l.length ≤ 1000000) (k : ∀ w', ChSt w0 w' bc bo (F || !ycJ l) A E (cs.set 13 (.slice none 0 0)) → R w') :
  Calls pP 175 #[.pointer (some ⟨bc, 0, none⟩), .pointer (some ⟨bo, 13, none⟩)] w fun e w' => e = .returned (.tuple #[]) ∧ R w' := by
 have hlt : 13 < cs.length := (List.getElem?_eq_some_iff.1 hc).1
 have hn := hs.1
 refine yaP (yIP ?_)
 refine yAU (fun mm t x w' => ∃ j : Nat, x = ((j + 1 : Nat) : Int) ∧ j ≤ l.length ∧ t = ye0 (l.take (j + 1)) ∧ Mod [] w w' ∧ mm = l.length - j) l.length ⟨0, rfl, by omega, ?_, Mod.refl _, rfl⟩ ?_
 ·cases l <;> simp [ye0]
 rintro mm t x w1 ⟨j, rfl, hj, rfl, M1, rfl⟩
 have H1 := H.m0 M1
 have hcell : cs.toArray[13]? = some (.slice ts.a ts.n ts.c) := by simpa using hc
 refine ydF (b := bo) (i := 13) H1.o hcell ?_
 refine yaC (fun hlt2 => ?_) fun hge => ?_
 ·have g1 : j + 1 < l.length := by omega
  obtain ⟨x, hx⟩ : ∃ x, l[j]? = some x := ⟨_, List.getElem?_eq_getElem (by omega)⟩
  obtain ⟨y, hy⟩ : ∃ y, l[j + 1]? = some y := ⟨_, List.getElem?_eq_getElem g1⟩
  have ew : IntKind.wrap .i64 (((j + 1 : Nat) : Int) + 1) = ((j + 1 + 1 : Nat) : Int) := by rw [yaG (by omega) (by omega)]; omega
  have em : IntKind.wrap .i64 (((j + 1 : Nat) : Int) - 1) = (j : Int) := by rw [yaG (by omega) (by omega)]; omega
  refine yaB (fun g => ?_) fun g => ?_
  ·refine ydF (b := bo) (i := 13) H1.o hcell ?_
   rw [em]
   refine (hs.keep0 M1).ix hx fun q hq => yaI (x := x) (by simpa [add_zero] using hq 0 _ rfl) ?_
   refine ydF (b := bo) (i := 13) H1.o hcell ?_
   refine (hs.keep0 M1).ix hy fun q hq => yaI (x := y) (by simpa [add_zero] using hq 0 _ rfl) ?_
   intro w2 A2
   refine yqS (l.length - (j + 1)) (by omega) ⟨j + 1, ew, by omega, ?_, M1.go0 A2.mod (by simp), rfl⟩
   rw [yfZ hx hy, g]; rfl
  ·intro w2 A2
   refine yqS (l.length - (j + 1)) (by omega) ⟨j + 1, ew, by omega, ?_, M1.go0 A2.mod (by simp), rfl⟩
   rw [yfZ hx hy, g]; rfl
 ·rw [List.take_of_length_le (by omega)]
  refine ydF (b := bo) (i := 13) H1.o hcell ?_
  refine (ylD (hs.keep0 M1) hl).mono ?_
  rintro e w2 ⟨rfl, M2⟩
  have H2 := H1.m0 M2
  refine ⟨_, rfl, ?_⟩
  have fin : ∀ {f : Bool}, (F || !ycJ l) = f → st w2 ⟨bc, 0, none⟩ [.bool f] fun w3 => st w3 ⟨bo, 13, none⟩ [.slice none 0 0] fun w4 => (Value.tuple #[] = Value.tuple #[] ∧ R w4) := fun {f} hf => by
   refine yd8 (b := bc) (o := 0) H2.c rfl (by simp) fun w3 h3 M3 => ?_
   have H3 := H2.setC (F' := f) (A' := A) (E' := E) h3 M3
   refine yd8 (b := bo) (o := 13) H3.o rfl (by simp; omega) fun w4 h4 M4 => ?_
   refine ⟨rfl, k w4 ?_⟩
   rw [hf]
   exact H3.setO (by rw [h4, yGV]) M4
  refine yjX (b := bc) (i := 0) H2.c rfl ?_
  refine yaB (fun g => fin (by rw [g]; rfl)) fun g => ?_
  subst g
  refine ydF (b := bo) (i := 13) H2.o hcell ?_
  refine yaB (fun g => fin ?_) fun g => ?_
  ·have : l.length = 0 := by simp at g; omega
   simp [ycJ, this]
  refine ydF (b := bo) (i := 13) H2.o hcell ?_
  refine yaC (fun g2 => fin ?_) fun g2 => ?_
  ·have : ¬ (l.length ≤ 8) := by omega
   simp [ycJ, this]
  have hl8 : decide (1 ≤ l.length ∧ l.length ≤ 8) = true := decide_eq_true (by simp at g; omega)
  refine yaB (fun g3 => fin ?_) fun g3 => fin ?_
  ·rw [ycJ, yjM g3]; simp
  ·rw [ycJ, yh5 g3, hl8]; simp
theorem ysR {w0 w : World} {bc bo : Nat} {F A : Bool} {E x : Int} {t : ByteArray} {cs : List Value} {R : World → Prop} (H : ChSt w0 w bc bo F A E cs) (h1 : cs[1]? = some (.string t)) (h2 : cs[2]? = some (.int .i64 x)) (k : ∀ w', ChSt w0 w' bc bo (F || !ybS t) (A || !num x) E ((cs.set 1 (.string es)).set 2 (.int .i64 0)) → R w') :
  Calls pP 60 #[.iface 158 (.pointer (some ⟨bc, 0, none⟩)), .pointer (some ⟨bo, 1, none⟩)] w fun e w' => e = .returned (.tuple #[]) ∧ R w' := by
 refine yaP (yIV ?_)
 intro w1 A1
 refine yfH (off := 1) (H.adv A1) h1 fun w2 H => ?_
 intro w3 A3
 refine ymB (off := 2) (x := x) (H.adv A3) (by rw [List.getElem?_set_ne (by decide)]; exact h2) fun w4 H => ?_
 exact ⟨rfl, k w4 H⟩
theorem yn3 {w0 w : World} {bc bo : Nat} {F A : Bool} {E : Int} {g m : ByteArray} {cs : List Value} {R : World → Prop} (H : ChSt w0 w bc bo F A E cs) (h1 : cs[9]? = some (.string g)) (h2 : cs[10]? = some (.string m)) (k : ∀ w', ChSt w0 w' bc bo ((F || !ybS g) || !ybS m) A E ((cs.set 9 (.string es)).set 10 (.string es)) → R w') :
  Calls pP 118 #[.iface 158 (.pointer (some ⟨bc, 0, none⟩)), .pointer (some ⟨bo, 0, none⟩)] w fun e w' => e = .returned (.tuple #[]) ∧ R w' := by
 refine yaP (yIW ?_)
 intro w1 A1
 refine yfH (off := 9) (H.adv A1) h1 fun w2 H => ?_
 intro w3 A3
 refine yfH (off := 10) (x := m) (H.adv A3) (by rw [List.getElem?_set_ne (by decide)]; exact h2) fun w4 H => ?_
 exact ⟨rfl, k w4 H⟩
def ya6 : Sl := ⟨none, 0, 0⟩
def chR (o : POp) (rs : Sl) : Sl := if ha o.kind 98 then ya6 else rs
def chT (o : POp) (ts : Sl) : Sl := if ha o.kind 114 then ya6 else ts
set_option maxHeartbeats 2000000 in
theorem yqY {w0 w : World} {bc bo : Nat} {o : POp} {rs ts : Sl} {R : World → Prop} (H : ChSt w0 w bc bo false false 0 (o.cs rs ts)) (h0 : ¬ (o.kind < 0 ∨ o.kind > 12))
  (hop : ∀ w', Mod [bc, bo] w0 w' → OpAt w' o rs ts) (k : ∀ w', ChSt w0 w' bc bo (chF o) (chA o) (chE o) ((chO o).cs (chR o rs) (chT o ts)) → R w') :
  Calls pP 93 #[.iface 158 (.pointer (some ⟨bc, 0, none⟩)), .pointer (some ⟨bo, 0, none⟩)] w fun e w' => e = .returned (.tuple #[]) ∧ R w' := by
 refine yaP (yIX ?_)
 obtain ⟨kd, pt, n, off, b, g, m, gen, robin, topics⟩ := o
 obtain ⟨b1, b2, b3, b4⟩ := b
 simp only at h0
 refine yf9 (b := bo) (i := 0) H.o rfl ?_
 have hk : kd = 0 ∨ kd = 1 ∨ kd = 2 ∨ kd = 3 ∨ kd = 4 ∨ kd = 5 ∨ kd = 6 ∨ kd = 7 ∨ kd = 8 ∨ kd = 9 ∨ kd = 10 ∨ kd = 11 ∨ kd = 12 := by omega
 rcases hk with rfl | rfl | rfl | rfl | rfl | rfl | rfl | rfl | rfl | rfl | rfl | rfl | rfl
 all_goals
  repeat (first
   | refine brT rfl ?_
   | refine brF rfl ?_
   | (intro w' A'; have H := H.adv A'; clear A')
   | refine ymB H rfl fun w' H => ?_
   | refine yfH H rfl fun w' H => ?_
   | refine ysP H rfl fun w' H => ?_
   | refine ysR H rfl rfl fun w' H => ?_
   | refine yn3 H rfl rfl fun w' H => ?_
   | refine yqW (b := ⟨b1, b2, b3, b4⟩) (rs := rs) H rfl rfl rfl rfl (hop _ H.m).recs (hop _ H.m).lr fun w' H => ?_
   | refine yqX (ts := ts) H rfl (hop _ H.m).topics (hop _ H.m).lt fun w' H => ?_)
  refine ⟨rfl, k _ ?_⟩
  simpa [chF, chA, chE, chO, chR, chT, ha, ygE, POp.cs, ya6, ybK, Bool.or_comm, Bool.or_left_comm, Bool.or_assoc] using H
theorem yuY {w : World} {o : POp} {rs ts : Sl} (h : OpAt w o rs ts) :
  Calls pP 92 #[o.v rs ts] w fun e w' => e = .returned (.int .i64 (opE o)) ∧ Mod [] w w' := by
 refine yaP (yIY ?_)
 intro b1 f1
 refine yaC (fun q1 => ?_) fun q1 => ?_
 ·intro w1 A1
  exact ⟨by rw [opE, if_pos (.inl q1)], A1.mod⟩
 refine yaC (fun q2 => ?_) fun q2 => ?_
 ·intro w1 A1
  exact ⟨by rw [opE, if_pos (.inr (by omega))], A1.mod⟩
 have h0 : ¬ (o.kind < 0 ∨ o.kind > 12) := by omega
 intro b4 f4 w5 A5 c1 c4
 have hne : b4 ≠ b1 := by
  rintro rfl
  rw [c1] at c4; cases c4
 have l1 := A5.lt b1 (by simp)
 have l4 := A5.lt b4 (by simp)
 have hop : ∀ w', Mod [b4, b1] w5 w' → OpAt w' o rs ts := fun w' M => h.keep0 (A5.mod.go0 M (by simp; omega))
 refine yqY (o := o) (rs := rs) (ts := ts) ⟨c4, c1, (Mod.refl _).less (by simp), hne⟩ h0 hop fun w6 H => ?_
 have M6 : Mod [] w w6 := A5.mod.go0 H.m (by simp; omega)
 refine ⟨_, _, _, _, _, _, _, _, _, _, _, _, _, _, _, _, _, _, H.o, _, _, _, H.c, ?_⟩
 have law := yAu o h0
 refine yaB (fun q3 => ?_) fun q3 => ?_
 ·intro w7 A7 _ _
  exact ⟨by rw [law, q3]; rfl, M6.go0 A7.mod (by simpa using f1)⟩
 intro w7 A7 d1 d4
 have M7 : Mod [] w w7 := M6.go0 A7.mod (by simpa using f1)
 have hop7 := h.keep0 M7
 have hA : OpAt w7 { chO o with kind := 0 } (chR o rs) (chT o ts) := by
  refine ⟨?_, ?_, ?_, ?_⟩
  ·unfold chR chO; simp only; split
   ·exact ⟨rfl, fun i x hx => by simp [ybK] at hx⟩
   ·exact hop7.recs
  ·unfold chT chO; simp only; split
   ·exact ⟨rfl, fun i x hx => by simp at hx⟩
   ·exact hop7.topics
  ·unfold chO; simp only; split
   ·simp [ybK]
   ·exact hop7.lr
  ·unfold chO; simp only; split
   ·simp
   ·exact hop7.lt
 have h00 : OpAt w7 op0 ya6 ya6 := (ykJ w7 0).at
 refine (yqT (x := { chO o with kind := 0 }) (y := op0) hA h00).mono ?_
 rintro e w8 ⟨rfl, M8⟩
 have c8 := M8.keep0 d1
 have e8 := M8.keep0 d4
 refine ⟨_, rfl, _, _, _, _, _, _, _, _, _, _, _, _, _, _, _, _, _, _, c8, _, _, _, e8, ?_⟩
 have M9 := M7.go0 M8 (by simp)
 refine yaB (fun q4 => ?_) fun q4 => ?_
 ·exact ⟨by rw [law, q3, q4]; rfl, M9⟩
 refine yaB (fun q5 => ?_) fun q5 => ?_
 ·exact ⟨by rw [law, q3, q4, q5]; rfl, M9⟩
 ·exact ⟨by rw [law, q3, q4, q5]; rfl, M9⟩
section
set_option maxRecDepth 100000
variable {R : VWP} {w w0 : World} {m : Nat} {i0 i1 i2 i3 i4 i5 i6 i7 i8 i9 j0 j1 j2 j3 j4 j5 j6 j7 j8 j9 k0 k1 k2 k3 k4 k5 k6 k7 k8 k9 l0 l1 l2 l3 l4 l5 l6 l7 l8 l9 : Int} {s0 s1 s2 s3 s4 s5 s6 s7 s8 s9 t0 t1 t2 t3 t4 t5 t6 t7 t8 t9 : BA} {n0 n1 n2 n3 n4 n5 n6 n7 n8 n9 o0 o1 o2 o3 o4 o5 o6 o7 o8 o9 p0 p1 p2 p3 p4 p5 p6 p7 p8 p9 : Nat} {q0 q1 q2 q3 q4 q5 q6 q7 q8 q9 r0 r1 r2 r3 r4 r5 r6 r7 r8 r9 : OA} {B0 B1 B2 B3 B4 B5 B6 B7 B8 B9 : Bool} {M0 M1 M2 M3 : Option Nat} {V0 V1 V2 V3 V4 V5 : Value} {A0 A1 A2 : Addr}
theorem yI2 (h :
 ∀ b1, w.heap.size ≤ b1 →
 ∀ w2, Adv [] [b1] w w2 →
 R (.agg (Z6 (some A0) (some (Addr.add A0 1)) (some (Addr.add A0 2)) (some (Addr.add A0 3)) (some (Addr.add A0 4)) (some (Addr.add A0 5)) (some (Addr.add A0 6)) (some (Addr.add A0 7)) (some (Addr.add A0 8)) (some (Addr.add A0 9)))) w2) :
 CR pP 22 #[(.pointer (some A0))] w R :=
 yaA Tryz.wide_mixed (an := []) Tryz.func22 rfl rfl (by kernel_rfl) rfl (Eq.mpr (by kernel_rfl) h)
def ysS : LA := ⟨[0, 0, 1, 0, 1, 1], [1, 17, 18], [(1, 0, 0)], 1, [0]⟩
def yuZ : List LA := [ysS]
abbrev yI3 := dnF pP yuZ (code Tryz.f12)
abbrev yLM := yaN pP yuZ (code Tryz.f12)
abbrev yI4 (p : List Nat) (K : List Kh) (R : VWP) := yaN pP yuZ (code Tryz.f12) p K (ya4 pP Tryz.f12 [] R)
def ymD (b3 b4 b5 b6 b7 b8 b9 c0 c1 c2 : OA) (bm0 : Nat) (c3 c4 c5 c6 c7 c8 c9 d0 d1 d2 : Int) (a0 : OA) (a6 a3 : Nat) (a9 b0 b1 b2 : Int) (a1 : OA) (a7 a4 : Nat) (a2 : OA) (a8 a5 : Nat) : Int → List Value × List TB := fun d3 => ([(.pointer (some ⟨bm0, 0, none⟩)), (.agg (Z6 b3 b4 b5 b6 b7 b8 b9 c0 c1 c2)), .int .i64 d3], [⟨bm0, 29, [.int .i64 c3, .int .i64 c4, .int .i64 c5, .int .i64 c6, .int .i64 c7, .int .i64 c8, .int .i64 c9, .int .i64 d0, .int .i64 d1, .int .i64 d2, .slice a0 a6 a3, .int .i64 a9, .int .i64 b0, .int .i64 b1, .int .i64 b2, .slice a1 a7 a4, .slice a2 a8 a5], true⟩])
abbrev yEh (b3 b4 b5 b6 b7 b8 b9 c0 c1 c2 : OA) (bm0 : Nat) (c3 c4 c5 c6 c7 c8 c9 d0 d1 d2 : Int) (a0 : OA) (a6 a3 : Nat) (a9 b0 b1 b2 : Int) (a1 : OA) (a7 a4 : Nat) (a2 : OA) (a8 a5 : Nat) (I : Nat → Int → World → Prop) (m : Nat) : Kh := KG (ymD b3 b4 b5 b6 b7 b8 b9 c0 c1 c2 bm0 c3 c4 c5 c6 c7 c8 c9 d0 d1 d2 a0 a6 a3 a9 b0 b1 b2 a1 a7 a4 a2 a8 a5) (U1 I) m
theorem yAX {I : Nat → Int → World → Prop} (m' : Nat) (h1 : m' < m) (h2 : I m' j4 w) : KS (yEh q0 q1 q2 q3 q4 q5 q6 q7 q8 q9 n0 i0 i1 i2 i3 i4 i5 i6 i7 i8 i9 r0 n1 n2 j0 j1 j2 j3 r1 n3 n4 r2 n5 n6 I m) (ymD q0 q1 q2 q3 q4 q5 q6 q7 q8 q9 n0 i0 i1 i2 i3 i4 i5 i6 i7 i8 i9 r0 n1 n2 j0 j1 j2 j3 r1 n3 n4 r2 n5 n6 j4) w := ⟨m', h1, _, rfl, rfl, h2⟩
theorem yAY (I : Nat → Int → World → Prop) (m0 : Nat) (h0 : I m0 j4 w0)
 (hr : ∀ m d3 w, I m d3 w →
 w.heap[n0]? = some (.cells (Z0 i0 i1 i2 i3 i4 i5 i6 i7 i8 i9 r0 n1 n2 j0 j1 j2 j3 r1 n3 n4 r2 n5 n6) 29) →
 brB (decide (d3 < 10)) (
 ∃ d5, (∀ w' : World, (Instr.index 63 (.agg (Z6 q0 q1 q2 q3 q4 q5 q6 q7 q8 q9)) (.int .i64 d3)).run pP w' = .ok (.pointer d5) w') ∧
 ynC d5 fun g2 =>
 yaH .i64 w g2 fun g6 =>
 brB (decide (g6 < 0)) (
 R (.int .i64 1) w)
 (
 ynC d5 fun g3 =>
 yaH .i64 w g3 fun g7 =>
 brB (decide (g7 > 1099511627776)) (
 R (.int .i64 1) w)
 (
 KS (yEh q0 q1 q2 q3 q4 q5 q6 q7 q8 q9 n0 i0 i1 i2 i3 i4 i5 i6 i7 i8 i9 r0 n1 n2 j0 j1 j2 j3 r1 n3 n4 r2 n5 n6 I m) (ymD q0 q1 q2 q3 q4 q5 q6 q7 q8 q9 n0 i0 i1 i2 i3 i4 i5 i6 i7 i8 i9 r0 n1 n2 j0 j1 j2 j3 r1 n3 n4 r2 n5 n6 (IntKind.wrap .i64 (d3 + 1))) w)))
 (
 Calls pP 25 #[.slice r0 n1 n2] w fun e d6 => ∃ g4 d7, e = .returned (.tuple #[.string g4, .int .i64 d7]) ∧ ∃ g8 g9 h1 h2 h3 h4 h5 h6 h7 h8 f0 f8 f4 e5 e6 e7 e8 d8 e2 e0 d9 e3 e1, d6.heap[n0]? = some (.cells (Z0 g8 g9 h1 h2 h3 h4 h5 h6 h7 h8 f0 f8 f4 e5 e6 e7 e8 d8 e2 e0 d9 e3 e1) 29) ∧
 brB (d7 != 0) (
 R (.int .i64 d7) d6)
 (
 Calls pP 26 #[(.agg (Z3 e5 e6 e7 e8 d8 e2 e0 d9 e3 e1))] d6 fun e e4 => ∃ g5 e9, e = .returned (.tuple #[.string g5, .int .i64 e9]) ∧ ∃ h9 u0 u1 u2 u3 u4 u5 u6 u7 u9 f1 f9 f5 v0 v1 v2 v3 f2 g0 f6 f3 g1 f7, e4.heap[n0]? = some (.cells (Z0 h9 u0 u1 u2 u3 u4 u5 u6 u7 u9 f1 f9 f5 v0 v1 v2 v3 f2 g0 f6 f3 g1 f7) 29) ∧
 R (.int .i64 e9) e4))) :
 yaK ysS (yI3 396 [0, 0, 1, 0, 1, 1]) (yI4 [1, 1, 0, 1, 0] [] R) (ymD q0 q1 q2 q3 q4 q5 q6 q7 q8 q9 n0 i0 i1 i2 i3 i4 i5 i6 i7 i8 i9 r0 n1 n2 j0 j1 j2 j3 r1 n3 n4 r2 n5 n6 j4) w0 :=
 lrule (ymD q0 q1 q2 q3 q4 q5 q6 q7 q8 q9 n0 i0 i1 i2 i3 i4 i5 i6 i7 i8 i9 r0 n1 n2 j0 j1 j2 j3 r1 n3 n4 r2 n5 n6) (U1 I) h0 (by rintro m d3 w h; exact ⟨by kernel_rfl, by kernel_rfl, fun js => Eq.mpr (by kernel_rfl) (hr m d3 w h)⟩)
theorem yI5 {a3 a2 : Nat} {a6 a5 : Nat} {a9 a8 : Nat} (h :
 ∀ b1, w.heap.size ≤ b1 →
 brB (decide (i0 < 0)) (
 ∀ w2, Adv [] [b1] w w2 →
 R (.int .i64 180) w2)
 (
 brB (decide (i0 ≥ 12)) (
 ∀ w3, Adv [] [b1] w w3 →
 R (.int .i64 180) w3)
 (
 ∀ w4, Adv [] [b1] w w4 → w4.heap[b1]? = some (.cells (Z0 i0 i1 i2 i3 i4 i5 i6 i7 i8 i9 q0 a3 a2 j0 j1 j2 j3 q1 a6 a5 q2 a9 a8) 29) →
 Calls pP 22 #[(.pointer (some ⟨b1, 0, none⟩))] w4 fun e w5 => ∃ p6 p7 p8 p9 d3 d4 d5 d6 d7 d8, e = .returned (.agg (Z6 p6 p7 p8 p9 d3 d4 d5 d6 d7 d8)) ∧ ∃ d9 e0 e1 e2 e3 e4 e5 e6 e7 e8 c4 d0 c7 e9 f0 f1 f2 c5 d1 c8 c6 d2 c9, w5.heap[b1]? = some (.cells (Z0 d9 e0 e1 e2 e3 e4 e5 e6 e7 e8 c4 d0 c7 e9 f0 f1 f2 c5 d1 c8 c6 d2 c9) 29) ∧
 yaK ysS (yI3 396 [0, 0, 1, 0, 1, 1]) (yI4 [1, 1, 0, 1, 0] [] R) (ymD p6 p7 p8 p9 d3 d4 d5 d6 d7 d8 b1 d9 e0 e1 e2 e3 e4 e5 e6 e7 e8 c4 d0 c7 e9 f0 f1 f2 c5 d1 c8 c6 d2 c9 0) w5))) :
 CR pP 12 #[(.agg (Z0 i0 i1 i2 i3 i4 i5 i6 i7 i8 i9 q0 a3 a2 j0 j1 j2 j3 q1 a6 a5 q2 a9 a8))] w R :=
 yaA Tryz.wide_mixed (an := yuZ) Tryz.func12 rfl rfl (by kernel_rfl) rfl (Eq.mpr (by kernel_rfl) h)
def ysT : LA := ⟨[0, 0, 1, 0, 1, 1], [1, 2, 3, 7, 8, 9], [(1, 0, 0), (2, 1, 0)], 2, []⟩
def yu0 : List LA := [ysT]
abbrev yI6 := dnF pP yu0 (code Tryz.f19)
abbrev yLN := yaN pP yu0 (code Tryz.f19)
abbrev yI7 (p : List Nat) (K : List Kh) (R : VWP) := yaN pP yu0 (code Tryz.f19) p K (ya4 pP Tryz.f19 [] R)
def ymE (c4 : OA) (c8 c6 : Nat) (c9 : Int) (bm0 : Nat) (b3 b4 b5 b6 b7 b8 b9 c0 c1 c2 : Int) (a0 : OA) (a6 a3 : Nat) (a9 b0 b1 b2 : Int) (a1 : OA) (a7 a4 : Nat) (a2 : OA) (a8 a5 bm1 : Nat) : (Option Addr) × Nat × Nat × Int → List Value × List TB := fun (c3, c7, c5, d0) => ([(.pointer (some ⟨bm0, 0, none⟩)), (.pointer (some ⟨bm1, 0, none⟩)), .slice c3 c7 c5, .slice c4 c8 c6, .int .i64 c9, .int .i64 d0], [⟨bm0, 29, [.int .i64 b3, .int .i64 b4, .int .i64 b5, .int .i64 b6, .int .i64 b7, .int .i64 b8, .int .i64 b9, .int .i64 c0, .int .i64 c1, .int .i64 c2, .slice a0 a6 a3, .int .i64 a9, .int .i64 b0, .int .i64 b1, .int .i64 b2, .slice a1 a7 a4, .slice a2 a8 a5], false⟩, ⟨bm1, 29, [.int .i64 0, .int .i64 0, .int .i64 0, .int .i64 0, .int .i64 0, .int .i64 0, .int .i64 0, .int .i64 0, .int .i64 0, .int .i64 0, .slice none 0 0, .int .i64 0, .int .i64 0, .int .i64 0, .int .i64 0, .slice none 0 0, .slice none 0 0], false⟩])
abbrev yEi (c3 : OA) (c5 c4 : Nat) (c6 : Int) (bm0 : Nat) (b3 b4 b5 b6 b7 b8 b9 c0 c1 c2 : Int) (a0 : OA) (a6 a3 : Nat) (a9 b0 b1 b2 : Int) (a1 : OA) (a7 a4 : Nat) (a2 : OA) (a8 a5 bm1 : Nat) (I : Nat → Option Addr → Nat → Nat → Int → World → Prop) (m : Nat) : Kh := KG (ymE c3 c5 c4 c6 bm0 b3 b4 b5 b6 b7 b8 b9 c0 c1 c2 a0 a6 a3 a9 b0 b1 b2 a1 a7 a4 a2 a8 a5 bm1) (U4 I) m
theorem yAZ {I : Nat → Option Addr → Nat → Nat → Int → World → Prop} (m' : Nat) (h1 : m' < m) (h2 : I m' q4 o0 o1 j5 w) : KS (yEi q0 n0 n1 i0 n2 i1 i2 i3 i4 i5 i6 i7 i8 i9 j0 q1 n3 n4 j1 j2 j3 j4 q2 n5 n6 q3 n7 n8 n9 I m) (ymE q0 n0 n1 i0 n2 i1 i2 i3 i4 i5 i6 i7 i8 i9 j0 q1 n3 n4 j1 j2 j3 j4 q2 n5 n6 q3 n7 n8 n9 (q4, o0, o1, j5)) w := ⟨m', h1, _, rfl, rfl, h2⟩
theorem yA0 {c6 : OA} {c0 : OA} {a3 : OA} {a0 : OA} {d3 : OA} (I : Nat → Option Addr → Nat → Nat → Int → World → Prop) (m0 : Nat) (h0 : I m0 d3 o0 o1 j5 w0)
 (hr : ∀ m c5 c8 c7 c4 w, I m c5 c8 c7 c4 w →
 brB (decide (c4 < i0)) (
 ixA c6 n0 c4 16 fun q3 =>
 yaH .i64 w q3 fun x4 => yaH .i64 w (Addr.add q3 1) fun x5 => yaH .i64 w (Addr.add q3 2) fun x6 => yaT w (Addr.add q3 3) fun s7 => yaH .i64 w (Addr.add q3 4) fun x8 => yaH .i64 w (Addr.add q3 5) fun x9 => yaH .i64 w (Addr.add q3 6) fun h2 => yaH .i64 w (Addr.add q3 7) fun h3 => yaH .i64 w (Addr.add q3 8) fun h4 => yaH .i64 w (Addr.add q3 9) fun h5 => yaY w (Addr.add q3 10) fun d2 d6 d4 => yaT w (Addr.add q3 11) fun g8 => yaT w (Addr.add q3 12) fun g9 => yaH .i64 w (Addr.add q3 13) fun h6 => yaX w (Addr.add q3 14) fun h1 => yaY w (Addr.add q3 15) fun g1 g6 g4 =>
 ∀ c3, w.heap.size ≤ c3 →
 ∀ d8, Adv [] [c3] w d8 →
 Calls pP 48 #[.slice g1 g6 g4] d8 fun e d9 => ∃ e3 f1 e7, e = .returned (.slice e3 f1 e7) ∧ yaD [n2, n9, c3] d8 d9 ∧ (((.slice d2 d6 d4) : Value) = (.slice d2 d6 d4)) ∧
 Calls pP 49 #[.slice d2 d6 d4] d9 fun e f5 => ∃ e4 f2 e8, e = .returned (.slice e4 f2 e8) ∧ yaD [n2, n9, c3] d9 f5 ∧
 ∀ f6, Adv [c3] [] f5 f6 →
 al f6 (.cells (Z4 x4 x5 x6 s7 x8 x9 h2 h3 h4 h5 e4 f2 e8 g8 g9 h6 h1 e3 f1 e7) 51) fun g3 f7 =>
 ycR pP (Builtin.append_ #[22, 22] 22 #[.slice c5 c8 c7, (.slice (some ⟨g3, 0, none⟩) 1 1)]) f7 fun g2 g7 g5 f8 => yaD [n2, n9, c3] f7 f8 ∧
 KS (yEi c6 n0 n1 i0 n2 i1 i2 i3 i4 i5 i6 i7 i8 i9 j0 c0 n3 n4 j1 j2 j3 j4 a3 n5 n6 a0 n7 n8 n9 I m) (ymE c6 n0 n1 i0 n2 i1 i2 i3 i4 i5 i6 i7 i8 i9 j0 c0 n3 n4 j1 j2 j3 j4 a3 n5 n6 a0 n7 n8 n9 (g2, g7, g5, (IntKind.wrap .i64 (c4 + 1)))) f8)
 (
 ∀ e0, Adv [n2] [] w e0 →
 Calls pP 50 #[.slice a3 n5 n6] e0 fun e e1 => ∃ e5 f3 e9, e = .returned (.slice e5 f3 e9) ∧ yaD [n2, n9] e0 e1 ∧ (((.slice a0 n7 n8) : Value) = (.slice a0 n7 n8)) ∧
 Calls pP 51 #[.slice a0 n7 n8] e1 fun e f9 => ∃ e6 f4 f0, e = .returned (.slice e6 f4 f0) ∧ yaD [n2, n9] e1 f9 ∧
 ∀ g0, Adv [n9, n2] [] f9 g0 →
 R (.agg (Z0 i1 i2 i3 i4 i5 i6 i7 i8 i9 j0 c5 c8 c7 j1 j2 j3 j4 e5 f3 e9 e6 f4 f0)) g0)) :
 yaK ysT (yI6 396 [0, 0, 1, 0, 1, 1]) (yI7 [1, 1, 0, 1, 0] [] R) (ymE c6 n0 n1 i0 n2 i1 i2 i3 i4 i5 i6 i7 i8 i9 j0 c0 n3 n4 j1 j2 j3 j4 a3 n5 n6 a0 n7 n8 n9 (d3, o0, o1, j5)) w0 :=
 lrule (ymE c6 n0 n1 i0 n2 i1 i2 i3 i4 i5 i6 i7 i8 i9 j0 c0 n3 n4 j1 j2 j3 j4 a3 n5 n6 a0 n7 n8 n9) (U4 I) h0 (by rintro m ⟨c5, c8, c7, c4⟩ w h; exact ⟨by kernel_rfl, by kernel_rfl, fun js => Eq.mpr (by kernel_rfl) (hr m c5 c8 c7 c4 w h)⟩)
theorem yI8 (h :
 ∀ b1, w.heap.size ≤ b1 →
 ∀ b2, w.heap.size ≤ b2 →
 ∀ c5, Adv [] [b2, b1] w c5 →
 yaK ysT (yI6 396 [0, 0, 1, 0, 1, 1]) (yI7 [1, 1, 0, 1, 0] [] R) (ymE q0 n0 n1 (n0 : Int) b1 i0 i1 i2 i3 i4 i5 i6 i7 i8 i9 q0 n0 n1 j0 j1 j2 j3 q1 n2 n3 q2 n4 n5 b2 (none, 0, 0, 0)) c5) :
 CR pP 19 #[(.agg (Z0 i0 i1 i2 i3 i4 i5 i6 i7 i8 i9 q0 n0 n1 j0 j1 j2 j3 q1 n2 n3 q2 n4 n5))] w R :=
 yaA Tryz.wide_mixed (an := yu0) Tryz.func19 rfl rfl (by kernel_rfl) rfl (Eq.mpr (by kernel_rfl) h)
def ysU : LA := ⟨[0, 0, 1, 0, 1, 1, 1, 1, 1], [5, 23, 24, 25], [(5, 0, 0)], 1, [0]⟩
def yu1 : List LA := [ysU]
abbrev yI9 := dnF pP yu1 (code Tryz.f25)
abbrev yLO := yaN pP yu1 (code Tryz.f25)
abbrev yJa (p : List Nat) (K : List Kh) (R : VWP) := yaN pP yu1 (code Tryz.f25) p K (ya4 pP Tryz.f25 [] R)
def ymF (a4 : OA) (a6 a5 : Nat) (a7 : Int) (bm0 : Nat) : Int × (Option Addr) × (Option Addr) × Nat × Nat → List Value × List TB := fun (a8, a3, a0, a2, a1) => ([(.pointer (some ⟨bm0, 0, none⟩)), .slice a4 a6 a5, .int .i64 a7, .int .i64 a8], [⟨bm0, 61, [.pointer a3, .slice a0 a2 a1], true⟩])
abbrev yEj (a0 : OA) (a2 a1 : Nat) (a3 : Int) (bm0 : Nat) (I : Nat → Int → Option Addr → Option Addr → Nat → Nat → World → Prop) (m : Nat) : Kh := KG (ymF a0 a2 a1 a3 bm0) (U5 I) m
theorem yA1 {I : Nat → Int → Option Addr → Option Addr → Nat → Nat → World → Prop} (m' : Nat) (h1 : m' < m) (h2 : I m' i1 q1 q2 n3 n4 w) : KS (yEj q0 n0 n1 i0 n2 I m) (ymF q0 n0 n1 i0 n2 (i1, q1, q2, n3, n4)) w := ⟨m', h1, _, rfl, rfl, h2⟩
theorem yA2 (I : Nat → Int → Option Addr → Option Addr → Nat → Nat → World → Prop) (m0 : Nat) (h0 : I m0 i1 q1 q2 n3 n4 w0)
 (hr : ∀ m a6 a5 a2 a4 a3 w, I m a6 a5 a2 a4 a3 w →
 w.heap[n2]? = some (.cells #[.pointer a5, .slice a2 a4 a3] 61) →
 brB (decide (a6 < i0)) (
 ixA q0 n0 a6 16 fun a0 =>
 yaH .i64 w a0 fun h4 => yaH .i64 w (Addr.add a0 1) fun c4 => yaH .i64 w (Addr.add a0 2) fun h5 => yaT w (Addr.add a0 3) fun g6 => yaH .i64 w (Addr.add a0 4) fun h6 => yaH .i64 w (Addr.add a0 5) fun h7 => yaH .i64 w (Addr.add a0 6) fun h8 => yaH .i64 w (Addr.add a0 7) fun h9 => yaH .i64 w (Addr.add a0 8) fun u0 => yaH .i64 w (Addr.add a0 9) fun u1 => yaY w (Addr.add a0 10) fun e0 f4 e7 => yaT w (Addr.add a0 11) fun g7 => yaT w (Addr.add a0 12) fun g8 => yaH .i64 w (Addr.add a0 13) fun u2 => yaX w (Addr.add a0 14) fun h2 => yaY w (Addr.add a0 15) fun e1 f5 e8 =>
 ∀ a1, w.heap.size ≤ a1 →
 ∀ b5, Adv [] [a1] w b5 → b5.heap[n2]? = some (.cells #[.pointer a5, .slice a2 a4 a3] 61) →
 Calls pP 56 #[(.agg (Z1 h5 g6 h6 h7 h8 h9 u0 u1 e0 f4 e7 g7 g8 u2 h2 e1 f5 e8))] b5 fun e c2 => ∃ d3 u3, e = .returned (.tuple #[.string d3, .int .i64 u3]) ∧ yaR [n2] [(a1, 51)] [a1] b5 c2 ∧ ∃ d1 c5 c9 c7, c2.heap[n2]? = some (.cells #[.pointer d1, .slice c5 c9 c7] 61) ∧
 ∀ b6, Adv [] [] c2 b6 → b6.heap[n2]? = some (.cells #[.pointer d1, .slice c5 c9 c7] 61) →
 Calls pP 24 #[(.int .u64 (IntKind.wrap .u64 h4))] b6 fun e b7 => ∃ d4, e = .returned (.string d4) ∧ yaR [n2] [(a1, 51)] [a1] b6 b7 ∧ ∃ g1 e2 f6 e9, b7.heap[n2]? = some (.cells #[.pointer g1, .slice e2 f6 e9] 61) ∧ (((.int .i64 c4) : Value) = (.int .i64 c4)) ∧
 Calls pP 24 #[(.int .u64 (IntKind.wrap .u64 c4))] b7 fun e b8 => ∃ d5, e = .returned (.string d5) ∧ yaR [n2] [(a1, 51)] [a1] b7 b8 ∧ ∃ g2 e3 f7 f0, b8.heap[n2]? = some (.cells #[.pointer g2, .slice e3 f7 f0] 61) ∧
 ye9 d4 d5 fun g9 =>
 Calls pP 28 #[.string d3] b8 fun e b9 => ∃ d6, e = .returned (.string d6) ∧ yaR [n2] [(a1, 51)] [a1] b8 b9 ∧ ∃ g3 e4 f8 f1, b9.heap[n2]? = some (.cells #[.pointer g3, .slice e4 f8 f1] 61) ∧
 ye9 g9 d6 fun h1 =>
 Calls pP 29 #[.string h1] b9 fun e c0 => ∃ d7, e = .returned (.string d7) ∧ yaR [n2] [(a1, 51)] [a1] b9 c0 ∧ ∃ g4 e5 f9 f2, c0.heap[n2]? = some (.cells #[.pointer g4, .slice e5 f9 f2] 61) ∧
 Calls pP 23 #[(.pointer (some ⟨n2, 0, none⟩)), .string d7] c0 fun e c3 => ∃ u4 h3, e = .returned (.tuple #[.int .i64 u4, h3]) ∧ yaR [n2] [(a1, 51)] [a1] c0 c3 ∧ ∃ d2 c6 d0 c8, c3.heap[n2]? = some (.cells #[.pointer d2, .slice c6 d0 c8] 61) ∧
 KS (yEj q0 n0 n1 i0 n2 I m) (ymF q0 n0 n1 i0 n2 ((IntKind.wrap .i64 (a6 + 1)), d2, c6, d0, c8)) c3)
 (
 Calls pP 27 #[(.pointer (some ⟨n2, 0, none⟩))] w fun e d9 => ∃ d8, e = .returned (.string d8) ∧ ∃ g5 e6 g0 f3, d9.heap[n2]? = some (.cells #[.pointer g5, .slice e6 g0 f3] 61) ∧
 R (.tuple #[.string d8, .int .i64 0]) d9)) :
 yaK ysU (yI9 393 [0, 0, 1, 0, 1, 1, 1, 1, 1]) (yJa [1, 1, 1, 1, 1, 0, 1, 0] [] R) (ymF q0 n0 n1 i0 n2 (i1, q1, q2, n3, n4)) w0 :=
 lrule (ymF q0 n0 n1 i0 n2) (U5 I) h0 (by rintro m ⟨a6, a5, a2, a4, a3⟩ w h; exact ⟨by kernel_rfl, by kernel_rfl, fun js => Eq.mpr (by kernel_rfl) (hr m a6 a5 a2 a4 a3 w h)⟩)
theorem yJb (h :
 brB (decide ((n0 : Int) > 4096)) (
 R (.tuple #[(.string (⟨#[]⟩ : BA)), .int .i64 2]) w)
 (
 Calls pP 55 #[.slice q0 n0 n1] w fun e w1 => ∃ x2, e = .returned (.int .i64 x2) ∧
 brB (x2 != 0) (
 R (.tuple #[(.string (⟨#[]⟩ : BA)), .int .i64 x2]) w1)
 (
 ∀ b3, w1.heap.size ≤ b3 →
 ∀ w4, Adv [] [b3] w1 w4 →
 Calls pP 24 #[(.int .u64 (IntKind.wrap .u64 (n0 : Int)))] w4 fun e w5 => ∃ s6, e = .returned (.string s6) ∧ yaD [b3] w4 w5 ∧
 ∀ w7, Adv [] [] w5 w7 → w7.heap[b3]? = some (.cells #[.pointer none, .slice none 0 0] 61) →
 Calls pP 23 #[(.pointer (some ⟨b3, 0, none⟩)), .string s6] w7 fun e w8 => ∃ x9 a7, e = .returned (.tuple #[.int .i64 x9, a7]) ∧ ∃ a6 a3 a5 a4, w8.heap[b3]? = some (.cells #[.pointer a6, .slice a3 a5 a4] 61) ∧
 yaK ysU (yI9 393 [0, 0, 1, 0, 1, 1, 1, 1, 1]) (yJa [1, 1, 1, 1, 1, 0, 1, 0] [] R) (ymF q0 n0 n1 (n0 : Int) b3 (0, a6, a3, a5, a4)) w8))) :
 CR pP 25 #[.slice q0 n0 n1] w R :=
 yaA Tryz.wide_mixed (an := yu1) Tryz.func25 rfl rfl (by kernel_rfl) rfl (Eq.mpr (by kernel_rfl) h)
def ysV : LA := ⟨[0, 0, 1, 0, 1, 1, 1], [10, 11, 12], [], 1, [0]⟩
def yu2 : List LA := [ysV]
abbrev yJc := dnF pP yu2 (code Tryz.f55)
abbrev yLP := yaN pP yu2 (code Tryz.f55)
abbrev yJd (p : List Nat) (K : List Kh) (R : VWP) := yaN pP yu2 (code Tryz.f55) p K (ya4 pP Tryz.f55 [] R)
def ymG (a1 : OA) (a3 a2 : Nat) (a4 : Int) (bm0 : Nat) : Int × Value → List Value × List TB := fun (a5, a0) => ([.slice a1 a3 a2, .int .i64 a4, .int .i64 a5], [⟨bm0, 78, [a0], true⟩])
abbrev yEk (a0 : OA) (a2 a1 : Nat) (a3 : Int) (bm0 : Nat) (I : Nat → Int → VWP) (m : Nat) : Kh := KG (ymG a0 a2 a1 a3 bm0) (U2 I) m
theorem yA3 {I : Nat → Int → VWP} (m' : Nat) (h1 : m' < m) (h2 : I m' i1 V0 w) : KS (yEk q0 n0 n1 i0 n2 I m) (ymG q0 n0 n1 i0 n2 (i1, V0)) w := ⟨m', h1, _, rfl, rfl, h2⟩
theorem yA4 {a2 : OA} (I : Nat → Int → VWP) (m0 : Nat) (h0 : I m0 i1 V0 w0)
 (hr : ∀ m a1 a0 w, I m a1 a0 w →
 w.heap[n2]? = some (.cells #[a0] 78) →
 brB (decide (a1 < i0)) (
 ixA a2 n0 a1 16 fun q6 =>
 yaH .i64 w q6 fun x7 => yaH .i64 w (Addr.add q6 1) fun x8 => yaH .i64 w (Addr.add q6 2) fun x9 => yaT w (Addr.add q6 3) fun b9 => yaH .i64 w (Addr.add q6 4) fun c3 => yaH .i64 w (Addr.add q6 5) fun c4 => yaH .i64 w (Addr.add q6 6) fun c5 => yaH .i64 w (Addr.add q6 7) fun c6 => yaH .i64 w (Addr.add q6 8) fun c7 => yaH .i64 w (Addr.add q6 9) fun c8 => yaY w (Addr.add q6 10) fun b3 b7 b5 => yaT w (Addr.add q6 11) fun c0 => yaT w (Addr.add q6 12) fun c1 => yaH .i64 w (Addr.add q6 13) fun c9 => yaX w (Addr.add q6 14) fun c2 => yaY w (Addr.add q6 15) fun b4 b8 b6 =>
 ∀ a7, w.heap.size ≤ a7 →
 ∀ a8, Adv [] [a7] w a8 → a8.heap[n2]? = some (.cells #[a0] 78) →
 Calls pP 92 #[(.agg (Z1 x9 b9 c3 c4 c5 c6 c7 c8 b3 b7 b5 c0 c1 c9 c2 b4 b8 b6))] a8 fun e a9 => ∃ b1, e = .returned (.int .i64 b1) ∧ yaR [n2] [(a7, 51)] [a7] a8 a9 ∧ ∃ b2, a9.heap[n2]? = some (.cells #[b2] 78) ∧
 brB (b1 != 0) (
 R (.int .i64 b1) a9)
 (
 KS (yEk a2 n0 n1 i0 n2 I m) (ymG a2 n0 n1 i0 n2 ((IntKind.wrap .i64 (a1 + 1)), b2)) a9))
 (
 R (.int .i64 0) w)) :
 yaK ysV (yJc 395 [0, 0, 1, 0, 1, 1, 1]) (yJd [1, 1, 1, 0, 1, 0] [] R) (ymG a2 n0 n1 i0 n2 (i1, V0)) w0 :=
 lrule (ymG a2 n0 n1 i0 n2) (U2 I) h0 (by rintro m ⟨a1, a0⟩ w h; exact ⟨by kernel_rfl, by kernel_rfl, fun js => Eq.mpr (by kernel_rfl) (hr m a1 a0 w h)⟩)
theorem yJe (h :
 ∀ b1, w.heap.size ≤ b1 →
 ∀ w2, Adv [] [b1] w w2 → w2.heap[b1]? = some (.cells #[(.func (.func 89) #[] #[])] 78) →
 Calls pP 90 #[.slice q0 n0 n1, (.func (.func 91) #[] #[(.pointer (some ⟨b1, 0, none⟩))])] w2 fun e w3 => ∃ t4, e = .returned (.bool t4) ∧ ∃ v5, w3.heap[b1]? = some (.cells #[v5] 78) ∧
 brB t4 (
 R (.int .i64 1) w3)
 (
 yaK ysV (yJc 395 [0, 0, 1, 0, 1, 1, 1]) (yJd [1, 1, 1, 0, 1, 0] [] R) (ymG q0 n0 n1 (n0 : Int) b1 (0, v5)) w3)) :
 CR pP 55 #[.slice q0 n0 n1] w R :=
 yaA Tryz.wide_mixed (an := yu2) Tryz.func55 rfl rfl (by kernel_rfl) rfl (Eq.mpr (by kernel_rfl) h)
theorem yJf (h :
 brB (decide (i0 < 1)) (
 R (.bool true) w)
 (
 R (.bool (decide (i0 > 1099511627776))) w)) :
 CR pP 89 #[.int .i64 i0] w R :=
 yaA Tryz.wide_mixed (an := []) Tryz.func89 rfl rfl (by kernel_rfl) rfl (Eq.mpr (by kernel_rfl) h)
theorem yJg (h :
 Calls pP 117 #[.slice q0 n0 n1, (.func (.func 91) #[] #[(.pointer (some A0))])] w fun e w1 => ∃ x2, e = .returned (.int .i64 x2) ∧
 R (.bool (decide (x2 ≥ 0))) w1) :
 CR pP 90 #[.slice q0 n0 n1, (.func (.func 91) #[] #[(.pointer (some A0))])] w R :=
 yaA Tryz.wide_mixed (an := []) Tryz.func90 rfl rfl (by kernel_rfl) rfl (Eq.mpr (by kernel_rfl) h)
def ysW : LA := ⟨[0, 0, 1, 0, 1], [0, 1, 7, 8], [], 0, []⟩
def yu3 : List LA := [ysW]
abbrev yJh := dnF pP yu3 (code Tryz.f117)
abbrev yLQ := yaN pP yu3 (code Tryz.f117)
abbrev yJi (p : List Nat) (K : List Kh) (R : VWP) := yaN pP yu3 (code Tryz.f117) p K (ya4 pP Tryz.f117 [] R)
def ymH (a1 : OA) (a3 a2 : Nat) (a0 : Addr) (a4 : Int) : Int → List Value × List TB := fun a5 => ([.slice a1 a3 a2, (.func (.func 91) #[] #[(.pointer (some a0))]), .int .i64 a4, .int .i64 a5], [])
abbrev yEl (a1 : OA) (a3 a2 : Nat) (a0 : Addr) (a4 : Int) (I : Nat → Int → World → Prop) (m : Nat) : Kh := KG (ymH a1 a3 a2 a0 a4) (U1 I) m
theorem yA5 {I : Nat → Int → World → Prop} (m' : Nat) (h1 : m' < m) (h2 : I m' i1 w) : KS (yEl q0 n0 n1 A0 i0 I m) (ymH q0 n0 n1 A0 i0 i1) w := ⟨m', h1, _, rfl, rfl, h2⟩
theorem yA6 {a2 : OA} (I : Nat → Int → World → Prop) (m0 : Nat) (h0 : I m0 i1 w0)
 (hr : ∀ m a1 w, I m a1 w →
 brB (decide (a1 < i0)) (
 ixA a2 n0 a1 16 fun q1 =>
 yaH .i64 w q1 fun x2 => yaH .i64 w (Addr.add q1 1) fun x3 => yaH .i64 w (Addr.add q1 2) fun x4 => yaT w (Addr.add q1 3) fun s5 => yaH .i64 w (Addr.add q1 4) fun x6 => yaH .i64 w (Addr.add q1 5) fun x7 => yaH .i64 w (Addr.add q1 6) fun x8 => yaH .i64 w (Addr.add q1 7) fun x9 => yaH .i64 w (Addr.add q1 8) fun b8 => yaH .i64 w (Addr.add q1 9) fun b9 => yaY w (Addr.add q1 10) fun a9 b3 b1 => yaT w (Addr.add q1 11) fun b5 => yaT w (Addr.add q1 12) fun b6 => yaH .i64 w (Addr.add q1 13) fun c0 => yaX w (Addr.add q1 14) fun b7 => yaY w (Addr.add q1 15) fun b0 b4 b2 =>
 Calls pP 91 #[(.agg (Z4 x2 x3 x4 s5 x6 x7 x8 x9 b8 b9 a9 b3 b1 b5 b6 c0 b7 b0 b4 b2)), (.pointer (some A0))] w fun e a8 => ∃ a7, e = .returned (.bool a7) ∧
 brB a7 (
 R (.int .i64 a1) a8)
 (
 KS (yEl a2 n0 n1 A0 i0 I m) (ymH a2 n0 n1 A0 i0 (IntKind.wrap .i64 (a1 + 1))) a8))
 (
 R (.int .i64 (-1)) w)) :
 yaK ysW (yJh 397 [0, 0, 1, 0, 1]) (yJi [1, 0, 1, 0] [] R) (ymH a2 n0 n1 A0 i0 i1) w0 :=
 lrule (ymH a2 n0 n1 A0 i0) (U1 I) h0 (by rintro m a1 w h; exact ⟨by kernel_rfl, by kernel_rfl, fun js => Eq.mpr (by kernel_rfl) (hr m a1 w h)⟩)
theorem yJj (h :
 yaK ysW (yJh 397 [0, 0, 1, 0, 1]) (yJi [1, 0, 1, 0] [] R) (ymH q0 n0 n1 A0 (n0 : Int) 0) w) :
 CR pP 117 #[.slice q0 n0 n1, (.func (.func 91) #[] #[(.pointer (some A0))])] w R :=
 yaA Tryz.wide_mixed (an := yu3) Tryz.func117 rfl rfl (by kernel_rfl) rfl (Eq.mpr (by kernel_rfl) h)
theorem yJk (h :
 ∀ b1, w.heap.size ≤ b1 →
 ∀ w2, Adv [] [b1] w w2 →
 al w2 (.cells #[.int .i64 i0, .int .i64 i1, .int .i64 i2, .int .i64 i3, .int .i64 i4, .int .i64 i5, .int .i64 i6, .int .i64 i7, .int .i64 i8, .int .i64 i9] 3) fun b3 w4 =>
 R (.slice (some ⟨b3, 0, none⟩) 10 10) w4) :
 CR pP 30 #[(.agg (Z0 i0 i1 i2 i3 i4 i5 i6 i7 i8 i9 q0 n0 n1 j0 j1 j2 j3 q1 n2 n3 q2 n4 n5))] w R :=
 yaA Tryz.wide_mixed (an := []) Tryz.func30 rfl rfl (by kernel_rfl) rfl (Eq.mpr (by kernel_rfl) h)
def ysX : LA := ⟨[0, 0, 1, 0, 1, 1], [2, 3, 5, 6, 7], [(2, 0, 0), (3, 1, 0)], 2, []⟩
def yu4 : List LA := [ysX]
abbrev yJl := dnF pP yu4 (code Tryz.f15)
abbrev yLR := yaN pP yu4 (code Tryz.f15)
abbrev yJm (p : List Nat) (K : List Kh) (R : VWP) := yaN pP yu4 (code Tryz.f15) p K (ya4 pP Tryz.f15 [] R)
def ymI (e6 : OA) (f0 e8 : Nat) (e7 : OA) (f1 e9 bm0 : Nat) (c6 c7 c8 c9 d0 d1 d2 d3 d4 d5 : Int) (a0 : OA) (b2 a6 : Nat) (b8 b9 c0 c1 : Int) (a1 : OA) (b3 a7 : Nat) (a2 : OA) (b4 a8 bm1 : Nat) (d6 d7 d8 d9 e0 e1 e2 e3 e4 e5 : Int) (a3 : OA) (b5 a9 : Nat) (c2 c3 c4 c5 : Int) (a4 : OA) (b6 b0 : Nat) (a5 : OA) (b7 b1 : Nat) : Int → List Value × List TB := fun f2 => ([(.pointer (some ⟨bm0, 0, none⟩)), (.pointer (some ⟨bm1, 0, none⟩)), .slice e6 f0 e8, .slice e7 f1 e9, .int .i64 f2], [⟨bm0, 29, [.int .i64 c6, .int .i64 c7, .int .i64 c8, .int .i64 c9, .int .i64 d0, .int .i64 d1, .int .i64 d2, .int .i64 d3, .int .i64 d4, .int .i64 d5, .slice a0 b2 a6, .int .i64 b8, .int .i64 b9, .int .i64 c0, .int .i64 c1, .slice a1 b3 a7, .slice a2 b4 a8], false⟩, ⟨bm1, 29, [.int .i64 d6, .int .i64 d7, .int .i64 d8, .int .i64 d9, .int .i64 e0, .int .i64 e1, .int .i64 e2, .int .i64 e3, .int .i64 e4, .int .i64 e5, .slice a3 b5 a9, .int .i64 c2, .int .i64 c3, .int .i64 c4, .int .i64 c5, .slice a4 b6 b0, .slice a5 b7 b1], false⟩])
abbrev yEm (e6 : OA) (f0 e8 : Nat) (e7 : OA) (f1 e9 bm0 : Nat) (c6 c7 c8 c9 d0 d1 d2 d3 d4 d5 : Int) (a0 : OA) (b2 a6 : Nat) (b8 b9 c0 c1 : Int) (a1 : OA) (b3 a7 : Nat) (a2 : OA) (b4 a8 bm1 : Nat) (d6 d7 d8 d9 e0 e1 e2 e3 e4 e5 : Int) (a3 : OA) (b5 a9 : Nat) (c2 c3 c4 c5 : Int) (a4 : OA) (b6 b0 : Nat) (a5 : OA) (b7 b1 : Nat) (I : Nat → Int → World → Prop) (m : Nat) : Kh := KG (ymI e6 f0 e8 e7 f1 e9 bm0 c6 c7 c8 c9 d0 d1 d2 d3 d4 d5 a0 b2 a6 b8 b9 c0 c1 a1 b3 a7 a2 b4 a8 bm1 d6 d7 d8 d9 e0 e1 e2 e3 e4 e5 a3 b5 a9 c2 c3 c4 c5 a4 b6 b0 a5 b7 b1) (U1 I) m
theorem yA7 {I : Nat → Int → World → Prop} (m' : Nat) (h1 : m' < m) (h2 : I m' k8 w) : KS (yEm q0 n0 n1 q1 n2 n3 n4 i0 i1 i2 i3 i4 i5 i6 i7 i8 i9 q2 n5 n6 j0 j1 j2 j3 q3 n7 n8 q4 n9 o0 o1 j4 j5 j6 j7 j8 j9 k0 k1 k2 k3 q5 o2 o3 k4 k5 k6 k7 q6 o4 o5 q7 o6 o7 I m) (ymI q0 n0 n1 q1 n2 n3 n4 i0 i1 i2 i3 i4 i5 i6 i7 i8 i9 q2 n5 n6 j0 j1 j2 j3 q3 n7 n8 q4 n9 o0 o1 j4 j5 j6 j7 j8 j9 k0 k1 k2 k3 q5 o2 o3 k4 k5 k6 k7 q6 o4 o5 q7 o6 o7 k8) w := ⟨m', h1, _, rfl, rfl, h2⟩
theorem yA8 (I : Nat → Int → World → Prop) (m0 : Nat) (h0 : I m0 k8 w0)
 (hr : ∀ m e6 w, I m e6 w →
 brB (decide (e6 < (n0 : Int))) (
 ixA q0 n0 e6 1 fun g0 =>
 yaH .i64 w g0 fun g2 =>
 ixA q1 n2 e6 1 fun g1 =>
 yaH .i64 w g1 fun g3 =>
 brB (g2 != g3) (
 ∀ f7, Adv [] [] w f7 →
 R (.bool false) f7)
 (
 ∀ f8, Adv [] [] w f8 →
 KS (yEm q0 n0 n1 q1 n2 n3 n4 i0 i1 i2 i3 i4 i5 i6 i7 i8 i9 q2 n5 n6 j0 j1 j2 j3 q3 n7 n8 q4 n9 o0 o1 j4 j5 j6 j7 j8 j9 k0 k1 k2 k3 q5 o2 o3 k4 k5 k6 k7 q6 o4 o5 q7 o6 o7 I m) (ymI q0 n0 n1 q1 n2 n3 n4 i0 i1 i2 i3 i4 i5 i6 i7 i8 i9 q2 n5 n6 j0 j1 j2 j3 q3 n7 n8 q4 n9 o0 o1 j4 j5 j6 j7 j8 j9 k0 k1 k2 k3 q5 o2 o3 k4 k5 k6 k7 q6 o4 o5 q7 o6 o7 (IntKind.wrap .i64 (e6 + 1))) f8))
 (
 Calls pP 39 #[.slice q2 n5 n6, .slice q5 o2 o3] w fun e f3 => ∃ f5, e = .returned (.bool f5) ∧ yaD [n4, o1] w f3 ∧
 brB f5 (
 Calls pP 40 #[(.agg (Z3 j0 j1 j2 j3 q3 n7 n8 q4 n9 o0)), (.agg (Z3 k4 k5 k6 k7 q6 o4 o5 q7 o6 o7))] f3 fun e f9 => ∃ f6, e = .returned (.bool f6) ∧ yaD [n4, o1] f3 f9 ∧
 R (.bool f6) f9)
 (
 R (.bool false) f3))) :
 yaK ysX (yJl 396 [0, 0, 1, 0, 1, 1]) (yJm [1, 1, 0, 1, 0] [] R) (ymI q0 n0 n1 q1 n2 n3 n4 i0 i1 i2 i3 i4 i5 i6 i7 i8 i9 q2 n5 n6 j0 j1 j2 j3 q3 n7 n8 q4 n9 o0 o1 j4 j5 j6 j7 j8 j9 k0 k1 k2 k3 q5 o2 o3 k4 k5 k6 k7 q6 o4 o5 q7 o6 o7 k8) w0 :=
 lrule (ymI q0 n0 n1 q1 n2 n3 n4 i0 i1 i2 i3 i4 i5 i6 i7 i8 i9 q2 n5 n6 j0 j1 j2 j3 q3 n7 n8 q4 n9 o0 o1 j4 j5 j6 j7 j8 j9 k0 k1 k2 k3 q5 o2 o3 k4 k5 k6 k7 q6 o4 o5 q7 o6 o7) (U1 I) h0 (by rintro m e6 w h; exact ⟨by kernel_rfl, by kernel_rfl, fun js => Eq.mpr (by kernel_rfl) (hr m e6 w h)⟩)
theorem yJn {b9 b8 : Nat} {c2 c1 : Nat} {c5 c4 : Nat} {a2 a1 : Nat} {a6 a4 : Nat} {b0 a8 : Nat} (h :
 ∀ b1, w.heap.size ≤ b1 →
 ∀ b2, w.heap.size ≤ b2 →
 ∀ w3, Adv [] [b2, b1] w w3 →
 Calls pP 30 #[(.agg (Z0 i0 i1 i2 i3 i4 i5 i6 i7 i8 i9 q0 b9 b8 j0 j1 j2 j3 q1 c2 c1 q2 c5 c4))] w3 fun e w4 => ∃ a5 n6 c7, e = .returned (.slice a5 n6 c7) ∧ yaD [b1, b2] w3 w4 ∧ (((.agg (Z0 j4 j5 j6 j7 j8 j9 k0 k1 k2 k3 q3 a2 a1 k4 k5 k6 k7 q4 a6 a4 q5 b0 a8)) : Value) = (.agg (Z0 j4 j5 j6 j7 j8 j9 k0 k1 k2 k3 q3 a2 a1 k4 k5 k6 k7 q4 a6 a4 q5 b0 a8))) ∧
 Calls pP 30 #[(.agg (Z0 j4 j5 j6 j7 j8 j9 k0 k1 k2 k3 q3 a2 a1 k4 k5 k6 k7 q4 a6 a4 q5 b0 a8))] w4 fun e w8 => ∃ a9 f2 f1, e = .returned (.slice a9 f2 f1) ∧ yaD [b1, b2] w4 w8 ∧
 yaK ysX (yJl 396 [0, 0, 1, 0, 1, 1]) (yJm [1, 1, 0, 1, 0] [] R) (ymI a5 n6 c7 a9 f2 f1 b1 i0 i1 i2 i3 i4 i5 i6 i7 i8 i9 q0 b9 b8 j0 j1 j2 j3 q1 c2 c1 q2 c5 c4 b2 j4 j5 j6 j7 j8 j9 k0 k1 k2 k3 q3 a2 a1 k4 k5 k6 k7 q4 a6 a4 q5 b0 a8 0) w8) :
 CR pP 15 #[(.agg (Z0 i0 i1 i2 i3 i4 i5 i6 i7 i8 i9 q0 b9 b8 j0 j1 j2 j3 q1 c2 c1 q2 c5 c4)), (.agg (Z0 j4 j5 j6 j7 j8 j9 k0 k1 k2 k3 q3 a2 a1 k4 k5 k6 k7 q4 a6 a4 q5 b0 a8))] w R :=
 yaA Tryz.wide_mixed (an := yu4) Tryz.func15 rfl rfl (by kernel_rfl) rfl (Eq.mpr (by kernel_rfl) h)
def ysY : LA := ⟨[0, 0, 1, 0, 1, 1], [0, 1, 5], [], 0, []⟩
def yu5 : List LA := [ysY]
abbrev yJo := dnF pP yu5 (code Tryz.f39)
abbrev yLS := yaN pP yu5 (code Tryz.f39)
abbrev yJp (p : List Nat) (K : List Kh) (R : VWP) := yaN pP yu5 (code Tryz.f39) p K (ya4 pP Tryz.f39 [] R)
def ymJ (a0 : OA) (a4 a2 : Nat) (a1 : OA) (a5 a3 : Nat) : Int → List Value × List TB := fun a6 => ([.slice a0 a4 a2, .slice a1 a5 a3, .int .i64 a6], [])
abbrev yEn (a0 : OA) (a4 a2 : Nat) (a1 : OA) (a5 a3 : Nat) (I : Nat → Int → World → Prop) (m : Nat) : Kh := KG (ymJ a0 a4 a2 a1 a5 a3) (U1 I) m
theorem yA9 {I : Nat → Int → World → Prop} (m' : Nat) (h1 : m' < m) (h2 : I m' i0 w) : KS (yEn q0 n0 n1 q1 n2 n3 I m) (ymJ q0 n0 n1 q1 n2 n3 i0) w := ⟨m', h1, _, rfl, rfl, h2⟩
theorem yBa {a4 : OA} {a5 : OA} (I : Nat → Int → World → Prop) (m0 : Nat) (h0 : I m0 i0 w0)
 (hr : ∀ m a2 w, I m a2 w →
 brB (decide (a2 < (n0 : Int))) (
 ixA a4 n0 a2 16 fun q1 =>
 ∀ w2, Adv [] [] w w2 →
 yaH .i64 w2 q1 fun x3 =>
 ixA a5 n2 a2 16 fun q4 =>
 yaH .i64 w2 q4 fun x5 =>
 brB (x3 != x5) (
 R (.bool false) w2)
 (
 ixA a4 n0 a2 16 fun q6 =>
 yaH .i64 w2 (Addr.add q6 1) fun x7 =>
 ixA a5 n2 a2 16 fun q8 =>
 yaH .i64 w2 (Addr.add q8 1) fun x9 =>
 brB (x7 != x9) (
 R (.bool false) w2)
 (
 ixA a4 n0 a2 16 fun a0 =>
 yaH .i64 w2 (Addr.add a0 2) fun d2 => yaT w2 (Addr.add (Addr.add a0 2) 1) fun c4 => yaH .i64 w2 (Addr.add (Addr.add a0 2) 2) fun d3 => yaH .i64 w2 (Addr.add (Addr.add a0 2) 3) fun d4 => yaH .i64 w2 (Addr.add (Addr.add a0 2) 4) fun d5 => yaH .i64 w2 (Addr.add (Addr.add a0 2) 5) fun d6 => yaH .i64 w2 (Addr.add (Addr.add a0 2) 6) fun d7 => yaH .i64 w2 (Addr.add (Addr.add a0 2) 7) fun d8 => yaY w2 (Addr.add (Addr.add a0 2) 8) fun b2 c0 b6 => yaT w2 (Addr.add (Addr.add a0 2) 9) fun c5 => yaT w2 (Addr.add (Addr.add a0 2) 10) fun c6 => yaH .i64 w2 (Addr.add (Addr.add a0 2) 11) fun d9 => yaX w2 (Addr.add (Addr.add a0 2) 12) fun d0 => yaY w2 (Addr.add (Addr.add a0 2) 13) fun b3 c1 b7 =>
 ixA a5 n2 a2 16 fun a1 =>
 yaH .i64 w2 (Addr.add a1 2) fun e0 => yaT w2 (Addr.add (Addr.add a1 2) 1) fun c7 => yaH .i64 w2 (Addr.add (Addr.add a1 2) 2) fun e1 => yaH .i64 w2 (Addr.add (Addr.add a1 2) 3) fun e2 => yaH .i64 w2 (Addr.add (Addr.add a1 2) 4) fun e3 => yaH .i64 w2 (Addr.add (Addr.add a1 2) 5) fun e4 => yaH .i64 w2 (Addr.add (Addr.add a1 2) 6) fun e5 => yaH .i64 w2 (Addr.add (Addr.add a1 2) 7) fun e6 => yaY w2 (Addr.add (Addr.add a1 2) 8) fun b4 c2 b8 => yaT w2 (Addr.add (Addr.add a1 2) 9) fun c8 => yaT w2 (Addr.add (Addr.add a1 2) 10) fun c9 => yaH .i64 w2 (Addr.add (Addr.add a1 2) 11) fun e7 => yaX w2 (Addr.add (Addr.add a1 2) 12) fun d1 => yaY w2 (Addr.add (Addr.add a1 2) 13) fun b5 c3 b9 =>
 Calls pP 75 #[(.agg (Z1 d2 c4 d3 d4 d5 d6 d7 d8 b2 c0 b6 c5 c6 d9 d0 b3 c1 b7)), (.agg (Z1 e0 c7 e1 e2 e3 e4 e5 e6 b4 c2 b8 c8 c9 e7 d1 b5 c3 b9))] w2 fun e b1 => ∃ b0, e = .returned (.bool b0) ∧
 brB (!b0) (
 R (.bool false) b1)
 (
 KS (yEn a4 n0 n1 a5 n2 n3 I m) (ymJ a4 n0 n1 a5 n2 n3 (IntKind.wrap .i64 (a2 + 1))) b1))))
 (
 R (.bool true) w)) :
 yaK ysY (yJo 396 [0, 0, 1, 0, 1, 1]) (yJp [1, 1, 0, 1, 0] [] R) (ymJ a4 n0 n1 a5 n2 n3 i0) w0 :=
 lrule (ymJ a4 n0 n1 a5 n2 n3) (U1 I) h0 (by rintro m a2 w h; exact ⟨by kernel_rfl, by kernel_rfl, fun js => Eq.mpr (by kernel_rfl) (hr m a2 w h)⟩)
theorem yJq (h :
 brB ((n0 : Int) != (n2 : Int)) (
 R (.bool false) w)
 (
 yaK ysY (yJo 396 [0, 0, 1, 0, 1, 1]) (yJp [1, 1, 0, 1, 0] [] R) (ymJ q0 n0 n1 q1 n2 n3 0) w)) :
 CR pP 39 #[.slice q0 n0 n1, .slice q1 n2 n3] w R :=
 yaA Tryz.wide_mixed (an := yu5) Tryz.func39 rfl rfl (by kernel_rfl) rfl (Eq.mpr (by kernel_rfl) h)
end
structure CV where
 x : PCall
 rs : Sl
 ts : Sl
def CV.cs (q : CV) : List Value := [.int .i64 q.x.c, .int .i64 q.x.n, .int .i64 q.x.op.kind, .string q.x.op.part.t, .int .i64 q.x.op.part.n, .int .i64 q.x.op.n, .int .i64 q.x.op.off, .int .i64 q.x.op.b.prod, .int .i64 q.x.op.b.epoch, .int .i64 q.x.op.b.seq, .slice q.rs.a q.rs.n q.rs.c, .string q.x.op.g, .string q.x.op.m, .int .i64 q.x.op.gen, .bool q.x.op.robin, .slice q.ts.a q.ts.n q.ts.c]
def CV.v (q : CV) : Value := .agg #[.int .i64 q.x.c, .int .i64 q.x.n, .int .i64 q.x.op.kind, .string q.x.op.part.t, .int .i64 q.x.op.part.n, .int .i64 q.x.op.n, .int .i64 q.x.op.off, .int .i64 q.x.op.b.prod, .int .i64 q.x.op.b.epoch, .int .i64 q.x.op.b.seq, .slice q.rs.a q.rs.n q.rs.c, .string q.x.op.g, .string q.x.op.m, .int .i64 q.x.op.gen, .bool q.x.op.robin, .slice q.ts.a q.ts.n q.ts.c]
theorem CV.cs_len (q : CV) : q.cs.length = 16 := rfl
theorem CV.cs_one (q : CV) : ∀ u ∈ q.cs, u.oneCell' = true := by simp [CV.cs, Value.oneCell']
structure PMail where
 kind : Int
 fr : Int
 to : Int
 view : Int
 normal : Int
 last : Int
 commit : Int
 nonce : Int
 base : Int
 n : Int
 calls : List PCall
 r : PRep
 deriving DecidableEq
def PMail.v (m : PMail) (s f p : Sl) : Value := .agg #[.int .i64 m.kind, .int .i64 m.fr, .int .i64 m.to, .int .i64 m.view, .int .i64 m.normal, .int .i64 m.last, .int .i64 m.commit, .int .i64 m.nonce, .int .i64 m.base, .int .i64 m.n, .slice s.a s.n s.c, .int .i64 m.r.e, .int .i64 m.r.off, .int .i64 m.r.n, .int .i64 m.r.gen, .slice f.a f.n f.c, .slice p.a p.n p.c]
def PMail.cs (m : PMail) (s f p : Sl) : List Value := [.int .i64 m.kind, .int .i64 m.fr, .int .i64 m.to, .int .i64 m.view, .int .i64 m.normal, .int .i64 m.last, .int .i64 m.commit, .int .i64 m.nonce, .int .i64 m.base, .int .i64 m.n, .slice s.a s.n s.c, .int .i64 m.r.e, .int .i64 m.r.off, .int .i64 m.r.n, .int .i64 m.r.gen, .slice f.a f.n f.c, .slice p.a p.n p.c]
def ydS : PRep := ⟨0, 0, 0, 0, [], []⟩
def yhO : PMail := ⟨0, 0, 0, 0, 0, 0, 0, 0, 0, 0, [], ydS⟩
def yfI (w : World) (s : Sl) (xs : List PCall) : Prop := ∃ ll : List CV, ycQ w 16 CV.cs s.a s.n ll ∧ (∀ q ∈ ll, OpAt w q.x.op q.rs q.ts) ∧ ll.map (·.x) = xs
def ybW (w : World) (base : Nat) (s : Sl) (xs : List PCall) : Prop := ∃ ll : List CV, Row w base 51 16 CV.cs s.a s.n s.c ll ∧ (∀ q ∈ ll, OpOwn w base q.x.op q.rs q.ts) ∧ ll.map (·.x) = xs
theorem ybW.at {w : World} {base : Nat} {s : Sl} {xs : List PCall} (h : ybW w base s xs) : yfI w s xs := by
 obtain ⟨ll, h1, h2, h3⟩ := h; exact ⟨ll, h1.sl CV.cs_len, fun q hq => (h2 q hq).at, h3⟩
theorem yfI.keep0 {w w' : World} {s : Sl} {xs : List PCall} (h : yfI w s xs) (M : Mod [] w w') : yfI w' s xs := by
 obtain ⟨ll, h1, h2, h3⟩ := h; exact ⟨ll, h1.keep0 M, fun q hq => (h2 q hq).keep0 M, h3⟩
theorem ybW.keep0 {w w' : World} {base : Nat} {s : Sl} {xs : List PCall} (h : ybW w base s xs) (M : Mod [] w w') : ybW w' base s xs := by
 obtain ⟨ll, h1, h2, h3⟩ := h; exact ⟨ll, h1.keep0 M, fun q hq => (h2 q hq).keep0 M, h3⟩
theorem ybW.rebase {w : World} {base base' : Nat} {s : Sl} {xs : List PCall} (h : ybW w base s xs) (hb : base' ≤ base) : ybW w base' s xs := by
 obtain ⟨ll, h1, h2, h3⟩ := h; exact ⟨ll, h1.rebase hb, fun q hq => (h2 q hq).rebase hb, h3⟩
structure MailAt (w : World) (m : PMail) (s f p : Sl) : Prop where
 calls : yfI w s m.calls
 rep : RepAt w m.r f p
structure MailOwn (w : World) (base : Nat) (m : PMail) (s f p : Sl) : Prop where
 calls : ybW w base s m.calls
 rep : RepOwn w base m.r f p
theorem MailOwn.at {w : World} {base : Nat} {m : PMail} {s f p : Sl} (h : MailOwn w base m s f p) : MailAt w m s f p := ⟨h.calls.at, h.rep.at⟩
theorem MailAt.keep0 {w w' : World} {m : PMail} {s f p : Sl} (h : MailAt w m s f p) (M : Mod [] w w') : MailAt w' m s f p := ⟨h.calls.keep0 M, h.rep.keep0 M⟩
theorem MailOwn.keep0 {w w' : World} {base : Nat} {m : PMail} {s f p : Sl} (h : MailOwn w base m s f p) (M : Mod [] w w') : MailOwn w' base m s f p := ⟨h.calls.keep0 M, h.rep.keep0 M⟩
theorem MailOwn.rebase {w : World} {base base' : Nat} {m : PMail} {s f p : Sl} (h : MailOwn w base m s f p) (hb : base' ≤ base) : MailOwn w base' m s f p := ⟨h.calls.rebase hb, h.rep.rebase hb⟩
theorem OpOwn.keep {S : List Nat} {w w' : World} {base : Nat} {o : POp} {rs ts : Sl} (h : OpOwn w base o rs ts) (M : Mod S w w') (hS : ∀ k ∈ S, ∀ cs T, w.heap[k]? = some (.cells cs T) → T ≠ 53 ∧ T ≠ 9) : OpOwn w' base o rs ts :=
  ⟨h.recs.keep M fun ad ha hk => by obtain ⟨_, cur, hc⟩ := h.recs.block ad ha; exact (hS _ hk _ _ hc).1 rfl,
   h.topics.keep M fun ad ha hk => by obtain ⟨_, cur, hc⟩ := h.topics.block ad ha; exact (hS _ hk _ _ hc).2 rfl, h.lr, h.lt⟩
theorem OpOwn.keepB {S : List Nat} {w w' : World} {base : Nat} {o : POp} {rs ts : Sl} (h : OpOwn w base o rs ts) (M : Mod S w w') (hS : ∀ k ∈ S, k < base) : OpOwn w' base o rs ts :=
 ⟨h.recs.keep M fun ad ha hk => by have := h.recs.base ad ha; have := hS _ hk; omega, h.topics.keep M fun ad ha hk => by have := h.topics.base ad ha; have := hS _ hk; omega, h.lr, h.lt⟩
theorem RepOwn.keepB {S : List Nat} {w w' : World} {base : Nat} {r : PRep} {f p : Sl} (h : RepOwn w base r f p) (M : Mod S w w') (hS : ∀ k ∈ S, k < base) : RepOwn w' base r f p :=
 ⟨h.found.keep M fun ad ha hk => by have := h.found.base ad ha; have := hS _ hk; omega, h.parts.keep M fun ad ha hk => by have := h.parts.base ad ha; have := hS _ hk; omega, h.lf, h.lp⟩
theorem ybW.keepB {S : List Nat} {w w' : World} {base : Nat} {s : Sl} {xs : List PCall} (h : ybW w base s xs) (M : Mod S w w') (hS : ∀ k ∈ S, k < base) : ybW w' base s xs := by
 obtain ⟨ll, h1, h2, h3⟩ := h
 exact ⟨ll, h1.keep M fun ad ha hk => by have := h1.base ad ha; have := hS _ hk; omega, fun q hq => (h2 q hq).keepB M hS, h3⟩
theorem MailOwn.keepB {S : List Nat} {w w' : World} {base : Nat} {m : PMail} {s f p : Sl} (h : MailOwn w base m s f p) (M : Mod S w w') (hS : ∀ k ∈ S, k < base) : MailOwn w' base m s f p := ⟨h.calls.keepB M hS, h.rep.keepB M hS⟩
theorem yFF : (Tryz.prog.info? 53).map (fun i => (i.zero, i.size, i.bytes)) = some (some (.agg #[.bool false, .string ByteArray.empty, .bool false, .string ByteArray.empty]), 4, 48) := by kernel_rfl
theorem yFG : (Tryz.prog.info? 9).map (fun i => (i.zero, i.size, i.bytes)) = some (some (.string ByteArray.empty), 1, 16) := by kernel_rfl
theorem yn4 : (Tryz.prog.info? 51).map (fun i => (i.zero, i.size, i.bytes)) = some (some (.agg #[.int .i64 0, .int .i64 0, .int .i64 0, .string ByteArray.empty, .int .i64 0, .int .i64 0, .int .i64 0, .int .i64 0, .int .i64 0, .int .i64 0, .slice none 0 0, .string ByteArray.empty, .string ByteArray.empty, .int .i64 0, .bool false, .slice none 0 0]), 16, 184) := by kernel_rfl
theorem yBb {w : World} {s : Sl} {l : List ByteArray} (h : ycQ w 1 yjD s.a s.n l) (hl : l.length ≤ 1000000) :
  Calls pP 48 #[.slice s.a s.n s.c] w fun e w' => ∃ v, e = .returned v ∧ ∃ s' : Sl, v = .slice s'.a s'.n s'.c ∧ Row w' w.heap.size 9 1 yjD s'.a s'.n s'.c l ∧ Mod [] w w' := by
 refine yIH ?_
 refine yaB (fun h0 => ?_) fun _ => ?_
 ·have hl0 : l = [] := by
   cases l with
   | nil => rfl
   | cons x r => obtain ⟨ad, ha, _⟩ := h.2 0 x rfl; rw [ha] at h0; cases h0
  subst hl0
  exact ⟨⟨none, 0, 0⟩, rfl, Row.nil .., Mod.refl _⟩
 ·refine ydO fun b w1 c1 M1 f1 => ?_
  obtain ⟨i0, hi, hz0, hz1, hz2⟩ := info_parts yFG
  refine yeN (Row.fresh c1 f1) Tryz.underlying47 hi hz0 hz1 hz2 rfl (by decide) (h.keep0 M1) yuE yuF (by simp; omega) (by simp; unfold maxLen; omega) M1.size fun a' n' c' w2 hR hM => ?_
  exact ⟨⟨a', n', c'⟩, rfl, by simpa using hR, M1.go0 (hM [b] (by simp)) (by simpa using f1)⟩
theorem yBc {w : World} {s : Sl} {l : List PRec} (h : ycQ w 4 yg2 s.a s.n l) (hl : l.length ≤ 1000000) :
  Calls pP 49 #[.slice s.a s.n s.c] w fun e w' => ∃ v, e = .returned v ∧ ∃ s' : Sl, v = .slice s'.a s'.n s'.c ∧ Row w' w.heap.size 53 4 yg2 s'.a s'.n s'.c l ∧ Mod [] w w' := by
 refine yII ?_
 refine yaB (fun h0 => ?_) fun _ => ?_
 ·have hl0 : l = [] := by
   cases l with
   | nil => rfl
   | cons x r => obtain ⟨ad, ha, _⟩ := h.2 0 x rfl; rw [ha] at h0; cases h0
  subst hl0
  exact ⟨⟨none, 0, 0⟩, rfl, Row.nil .., Mod.refl _⟩
 ·refine ydO fun b w1 c1 M1 f1 => ?_
  obtain ⟨i0, hi, hz0, hz1, hz2⟩ := info_parts yFF
  refine yeN (Row.fresh c1 f1) Tryz.underlying44 hi hz0 hz1 hz2 rfl (by decide) (h.keep0 M1) yuD ynZ (by simp; omega) (by simp; unfold maxLen; omega) M1.size fun a' n' c' w2 hR hM => ?_
  exact ⟨⟨a', n', c'⟩, rfl, by simpa using hR, M1.go0 (hM [b] (by simp)) (by simpa using f1)⟩
theorem yaW {α : Type} {w : World} {base T sz : Nat} {enc : α → List Value} {a : Option Addr} {n c : Nat} {l : List α} (h : Row w base T sz enc a n c l) : ∀ k ∈ yjJ a, base ≤ k ∧ k < w.heap.size ∧ ∃ cur, w.heap[k]? = some (.cells cur T) := by
 cases a with
 | none => simp [yjJ]
 | some ad => intro k hk; simp [yjJ] at hk; subst hk; obtain ⟨h1, cur, h2⟩ := h.block ad rfl; exact ⟨h1, ya0 h2, cur, h2⟩
set_option maxHeartbeats 1000000 in
theorem yJr {w : World} {m : PMail} {s f p : Sl} (h : MailAt w m s f p) (hl : m.calls.length ≤ 100000) :
  Calls pP 19 #[m.v s f p] w fun e w' => ∃ v, e = .returned v ∧ ∃ s' f' p' : Sl, v = m.v s' f' p' ∧ MailOwn w' w.heap.size m s' f' p' ∧ Mod [] w w' := by
 obtain ⟨⟨ll, hS, hO, hll⟩, hR⟩ := h
 have hlen : ll.length ≤ 100000 := by rw [← hll] at hl; simpa using hl
 have hn := hS.1
 refine yI8 ?_
 intro b1 f1 b2 f2 w1 A1
 have l2 := A1.lt b2 (by simp)
 have l1 := A1.lt b1 (by simp)
 have s1 := A1.mod.size
 refine yA0 (fun mm a n c x w' => ∃ (k : Nat) (l : List CV), x = k ∧ k ≤ ll.length ∧ Row w' w1.heap.size 51 16 CV.cs a n c l ∧ (∀ q ∈ l, OpOwn w' w1.heap.size q.x.op q.rs q.ts) ∧ l.map (·.x) = (ll.take k).map (·.x) ∧ Mod [] w1 w' ∧ mm = ll.length - k) ll.length
  ⟨0, [], rfl, by omega, Row.nil .., by simp, by simp, Mod.refl _, rfl⟩ ?_
 rintro mm a n c x w2 ⟨k, l, rfl, hk, hRow, hOw, hlm, M2, rfl⟩
 have s2 := M2.size
 have N2 := A1.mod.go0 M2 (by simp)
 refine yaC (fun hlt => ?_) fun hge => ?_
 ·obtain ⟨q, hq⟩ : ∃ q, ll[k]? = some q := ⟨_, List.getElem?_eq_getElem (by omega)⟩
  refine (hS.keep0 N2).ix hq fun ad ha => yaF (x := q.x.c) (by simpa [add_zero] using ha 0 _ rfl) (yaF (ha 1 _ rfl) (yaF (ha 2 _ rfl) (yaI (ha 3 _ rfl) (yaF (ha 4 _ rfl) (yaF (ha 5 _ rfl) (yaF (ha 6 _ rfl) (yaF (ha 7 _ rfl) (yaF (ha 8 _ rfl) (yaF (ha 9 _ rfl) (ybN (ha 10 _ rfl) (yaI (ha 11 _ rfl) (yaI (ha 12 _ rfl) (yaF (ha 13 _ rfl) (yaO (ha 14 _ rfl) (ybN (ha 15 _ rfl) ?_)))))))))))))))
  intro b3 f3 w3 A3
  have l3 := A3.lt b3 (by simp)
  have s3 := A3.mod.size
  have hop := (hO q (List.mem_of_getElem? hq)).keep0 (N2.go0 A3.mod (by simp))
  refine (yBb (s := q.ts) hop.topics hop.lt).mono ?_
  rintro e w4 ⟨_, rfl, ts', rfl, hT, M4⟩
  refine ⟨_, _, _, rfl, yaD.of0 M4, rfl, ?_⟩
  have s4 := M4.size
  refine (yBc (s := q.rs) (hop.recs.keep0 M4) hop.lr).mono ?_
  rintro e w5 ⟨_, rfl, rs', rfl, hRc, M5⟩
  refine ⟨_, _, _, rfl, yaD.of0 M5, ?_⟩
  have s5 := M5.size
  intro w6 A6
  have s6 := A6.mod.size
  have K5 : Mod [] w2 w5 := (A3.mod.go0 M4 (by simp)).go0 M5 (by simp)
  have K6 : Mod [] w2 w6 := K5.go0 A6.mod (by simpa using f3)
  have hnew : OpOwn w6 w1.heap.size q.x.op rs' ts' := by
   refine OpOwn.rebase (base := w3.heap.size) ?_ (by omega)
   exact OpOwn.keepB ⟨hRc.rebase (by omega), hT.keep0 M5, hop.lr, hop.lt⟩ A6.mod (by simp; omega)
  refine ydO fun b7 w7 c7 M7 f7 => ?_
  have s7 := M7.size
  have hll' : l.length ≤ 100000 := by have := congrArg List.length hlm; simp at this; omega
  obtain ⟨i0, hi, hz0, hz1, hz2⟩ := info_parts yn4
  refine ycG (x := (⟨q.x, rs', ts'⟩ : CV)) ((hRow.keep0 K6).keep0 M7) Tryz.underlying22 hi hz0 hz1 hz2 rfl (by decide) c7 rfl (CV.cs_one _) (by omega) (by unfold maxLen; omega) (by omega) fun a' c' w8 hR8 hM8 => ?_
  have M8 := hM8 _ (yeC a)
  have hrow := yaW hRow
  have K7 := K6.go0 M7 (by simp)
  have kp : ∀ {o rs ts}, OpOwn w7 w1.heap.size o rs ts → OpOwn w8 w1.heap.size o rs ts := fun hh => hh.keep M8 fun k hk cs T hc => by
   obtain ⟨_, _, cur, hcur⟩ := hrow k hk
   rw [K7.keep0 hcur] at hc; cases hc; decide
  refine ⟨yaD.of M8 fun b hb _ hb' => ?_, ?_⟩
  ·have := hrow b hb'; simp at hb; omega
  refine yAZ (ll.length - (k + 1)) (by omega) ⟨k + 1, _, by rw [yaG (by omega) (by omega)]; omega, by omega, hR8, fun y hy => ?_, ?_, (M2.go0 K7 (by simp)).go0 M8 fun i hi => (hrow i hi).1, rfl⟩
  ·rcases List.mem_append.1 hy with hy | hy
   ·exact kp ((hOw y hy).keep0 K7)
   ·simp at hy; subst hy; exact kp (hnew.keep0 M7)
  ·rw [List.take_add_one, hq, List.map_append, List.map_append, hlm]; rfl
 ·have hk' : k = ll.length := by omega
  subst hk'
  rw [List.take_length, hll] at hlm
  intro w3 A3
  have N3 := N2.go0 A3.mod (by simpa using f1)
  have s3 := A3.mod.size
  have h3 := hR.keep0 N3
  refine (yz5 (s := f) h3.found h3.lf).mono ?_
  rintro e w4 ⟨_, rfl, f', rfl, hF, M4⟩
  refine ⟨_, _, _, rfl, yaD.of0 M4, rfl, ?_⟩
  have s4 := M4.size
  have h4 := h3.keep0 M4
  refine (yz6 (s := p) h4.parts h4.lp).mono ?_
  rintro e w5 ⟨_, rfl, p', rfl, hP, M5⟩
  refine ⟨_, _, _, rfl, yaD.of0 M5, ?_⟩
  have s5 := M5.size
  intro w6 A6
  have hC3 : ybW w3 w1.heap.size ⟨a, n, c⟩ m.calls := ybW.keepB ⟨l, hRow, hOw, hlm⟩ A3.mod (by simp; omega)
  have hM5 : MailOwn w5 w1.heap.size m ⟨a, n, c⟩ f' p' := ⟨(hC3.keep0 M4).keep0 M5, (hF.keep0 M5).rebase (by omega), hP.rebase (by omega), hR.lf, hR.lp⟩
  refine ⟨⟨a, n, c⟩, f', p', rfl, (hM5.keepB A6.mod (by simp; omega)).rebase s1, ((N3.go0 M4 (by simp)).go0 M5 (by simp)).go0 A6.mod (by simp; omega)⟩
theorem Wr.keep {B b v : Nat} {w w' : World} {cs : Array Value} {T : TypeId} (W : Wr B b w w') (h : w.heap[v]? = some (.cells cs T)) (hv : v ≠ b) (hT : T ≠ 5) : w'.heap[v]? = some (.cells cs T) :=
 W.oth v _ h (by simpa using hv) fun c fz e => hT (by cases e; rfl)
theorem Wr.keepE {B b : Nat} {w w' : World} {es : List Nat} {ts : List (Nat × TypeId)} {bs : List Nat} (W : Wr B b w w') (h : ∀ k ∈ bs, k ∉ es → k ≠ b ∧ (k < B ∨ ∃ T, (k, T) ∈ ts ∧ T ≠ 5)) : yaR es ts bs w w' := fun k hk hl he hty => by
 obtain ⟨hne, h1 | ⟨T, hT, h2⟩⟩ := h k hk he
 ·exact W.bel.block k h1
 ·obtain ⟨cs, hc⟩ := hty _ hT rfl
  rw [hc]; exact W.keep hc hne h2
theorem Wr.mod {B b : Nat} {w0 w w' : World} (W : Wr B b w w') (M : Mod [] w0 w) (hB : w0.heap.size ≤ B) : Mod [] w0 w' :=
 ⟨W.bel.os.trans M.os, W.bel.tape.trans M.tape, W.bel.output.trans M.output, Nat.le_trans M.size W.bel.size, fun k hk _ => (W.bel.block k (by omega)).trans (M.block k hk (by simp))⟩
def ycU (x : PPart) : List UInt8 := ybM x.t ++ yaJ x.n.toNat
theorem yFH {B b v : Nat} {l : List UInt8} {w : World} {x : PPart} (h : Bd B b l w) (hlen : l.length ≤ 1000000000) (hB : B ≤ w.heap.size) (hv : w.heap[v]? = some (.cells #[.string x.t, .int .i64 x.n] 43)) (hvb : v ≠ b) (hs : x.t.size ≤ 1000) (hn : num x.n = true) :
  Calls pP 60 #[.iface 101 (.pointer (some ⟨b, 0, none⟩)), .pointer (some ⟨v, 0, none⟩)] w fun e w' => e = .returned (.tuple #[]) ∧ (Bd B b (l ++ ycU x) w' ∧ Wr B b w w') := by
 have hn : 0 ≤ x.n ∧ x.n ≤ 1099511627776 := by simpa [num] using hn
 obtain ⟨n, hn'⟩ := Int.eq_ofNat_of_zero_le hn.1
 refine yaP (yHI ?_)
 intro w1 A1
 have h1 := h.keep0 A1.mod
 have v1 := A1.mod.keep0 hv
 have s1 := A1.mod.size
 refine (ynX h1 (by omega) (by omega) (a := ⟨v, 0, none⟩) (s := x.t) (by rw [ya1 v1]; rfl) (by omega)).mono ?_
 rintro e w2 ⟨rfl, h2, W2⟩
 refine ⟨rfl, ?_⟩
 intro w3 A3
 have h3 := h2.keep0 A3.mod
 have v2 := W2.keep v1 hvb (by decide)
 have v3 := A3.mod.keep0 v2
 have s2 := W2.bel.size
 have s3 := A3.mod.size
 have lt := yaV x.t (by omega)
 refine (yg0 h3 (by simp; omega) (by omega) (a := (⟨v, 0, none⟩ : Addr).add 1) (x := n) (by rw [ya5, ya1 v3, hn']; rfl) (by omega)).mono ?_
 rintro e w4 ⟨rfl, h4, W4⟩
 refine ⟨rfl, rfl, ?_, ((Wr.of0 A1.mod hB).trans W2).trans ((Wr.of0 A3.mod (by omega)).trans W4)⟩
 rw [ycU, hn', Int.toNat_natCast, ← List.append_assoc]
 exact h4
def hdL (r : PRep) : List Nat := [r.e.toNat, r.off.toNat, r.n.toNat, r.gen.toNat, r.found.length]
def yf0 (x : PFound) : List UInt8 := yaJ x.off.toNat ++ ygS x.r
def yhP (r : PRep) (k : Nat) : List UInt8 := ((hdL r).take k).flatMap yaJ
def yc1 (r : PRep) (k : Nat) : List UInt8 := (hdL r).flatMap yaJ ++ (r.found.take k).flatMap yf0
def yeQ (r : PRep) (k : Nat) : List UInt8 := (hdL r).flatMap yaJ ++ r.found.flatMap yf0 ++ yaJ r.parts.length ++ (r.parts.take k).flatMap ycU
def ydW (r : PRep) : List UInt8 := yeQ r r.parts.length
theorem ya9 {α β : Type} {f : α → List β} {l : List α} {k : Nat} {x : α} (hx : l[k]? = some x) : (l.take (k + 1)).flatMap f = (l.take k).flatMap f ++ f x := by
 rw [List.take_add_one, hx]; simp
theorem ydY {α β : Type} {f : α → List β} {c : Nat} : ∀ {l : List α}, (∀ x ∈ l, (f x).length ≤ c) → (l.flatMap f).length ≤ l.length * c
 | [], _ => by simp
 | x :: r, h => by
  have h1 := h x (by simp)
  have h2 := ydY (l := r) fun y hy => h y (by simp [hy])
  rw [List.flatMap_cons, List.length_append, List.length_cons, Nat.succ_mul]; omega
structure RepGood (r : PRep) : Prop where
 hd : ∀ x ∈ hdL r, x ≤ 1099511627776
 nn : 0 ≤ r.e ∧ 0 ≤ r.off ∧ 0 ≤ r.n ∧ 0 ≤ r.gen
 f : ∀ x ∈ r.found, num x.off = true ∧ ygB x.r = 0
 p : ∀ x ∈ r.parts, num x.n = true ∧ ybS x.t = true
 lf : r.found.length ≤ 64
 lp : r.parts.length ≤ 64
theorem RepGood.of {r : PRep} (h : yfX r = 0) : RepGood r := by
 unfold yfX at h
 split at h
 ·omega
 rename_i h1
 split at h
 ·omega
 split at h
 ·omega
 split at h
 ·omega
 rename_i h2 h3 h4
 have h1 := Bool.not_eq_false _ ▸ h1
 simp only [Bool.and_eq_true, List.all_eq_true, ok0] at h1
 simp [yz7, yFt] at h4
 obtain ⟨⟨⟨⟨⟨a1, a2⟩, a3⟩, a4⟩, hf⟩, hp⟩ := h1
 have nb : ∀ {x : Int}, num x = true → 0 ≤ x ∧ x ≤ 1099511627776 := fun h => by simpa [num] using h
 have a1 := nb a1
 have a2 := nb a2
 have a3 := nb a3
 have a4 := nb a4
 refine ⟨?_, by omega, fun x hx => ⟨hf x hx, h4.1 x hx⟩, fun x hx => ⟨hp x hx, h4.2 x hx⟩, by omega, by omega⟩
 intro x hx
 simp [hdL] at hx
 omega
theorem RepGood.len1 {r : PRep} (h : RepGood r) (k : Nat) : (yhP r k).length ≤ 50 := by
 have := ydY (f := yaJ) (c := 10) (l := (hdL r).take k) fun x hx => (yaL x (by have := h.hd x (List.mem_of_mem_take hx); omega)).2
 have e : ((hdL r).take k).length ≤ 5 := by rw [List.length_take]; simp [hdL]; omega
 unfold yhP; omega
theorem RepGood.lenF {r : PRep} (h : RepGood r) {x : PFound} (hx : x ∈ r.found) : (yf0 x).length ≤ 610 := by
 obtain ⟨h1, h2⟩ := h.f x hx
 have h3 := yhL h2
 have h4 : 0 ≤ x.off ∧ x.off ≤ 1099511627776 := by simpa [num] using h1
 have h5 := (yaL x.off.toNat (by omega)).2
 unfold yf0; rw [List.length_append]; omega
theorem RepGood.len2 {r : PRep} (h : RepGood r) (k : Nat) : (yc1 r k).length ≤ 50000 := by
 have h1 := h.len1 5
 have e : yhP r 5 = (hdL r).flatMap yaJ := by rw [yhP, List.take_of_length_le (by simp [hdL])]
 rw [e] at h1
 have h2 := ydY (f := yf0) (c := 610) (l := r.found.take k) fun x hx => h.lenF (List.mem_of_mem_take hx)
 have e : (r.found.take k).length ≤ 64 := by have := h.lf; rw [List.length_take]; omega
 unfold yc1; rw [List.length_append]; omega
theorem RepGood.lenP {r : PRep} (h : RepGood r) {x : PPart} (hx : x ∈ r.parts) : (ycU x).length ≤ 40 ∧ x.t.size ≤ 16 := by
 obtain ⟨h1, h2⟩ := h.p x hx
 have h4 : 0 ≤ x.n ∧ x.n ≤ 1099511627776 := by simpa [num] using h1
 have h5 := (yaL x.n.toNat (by omega)).2
 have h6 : x.t.size ≤ 16 := by simp [ybS] at h2; omega
 have h7 := yaV x.t (by omega)
 unfold ycU; rw [List.length_append]; omega
theorem RepGood.len3 {r : PRep} (h : RepGood r) (k : Nat) : (yeQ r k).length ≤ 60000 := by
 have h1 := h.len2 r.found.length
 have e : yc1 r r.found.length = (hdL r).flatMap yaJ ++ r.found.flatMap yf0 := by rw [yc1, List.take_length]
 rw [e] at h1
 have h2 := ydY (f := ycU) (c := 40) (l := r.parts.take k) fun x hx => (h.lenP (List.mem_of_mem_take hx)).1
 have e : (r.parts.take k).length ≤ 64 := by have := h.lp; rw [List.length_take]; omega
 have h5 := (yaL r.parts.length (by have := h.lp; omega)).2
 unfold yeQ; rw [List.length_append, List.length_append]; omega
theorem yFI {r : PRep} (h : RepGood r) {k : Nat} (hk : k < 5) : ∃ x : Nat, (hdL r)[k]? = some x ∧ x ≤ 1099511627776 := by
 have hk' : k < (hdL r).length := by simp [hdL]; omega
 exact ⟨(hdL r)[k], List.getElem?_eq_getElem hk', h.hd _ (List.getElem_mem hk')⟩
def yGW (x : Nat) : List Value := [.int .i64 (x : Nat)]
theorem yqZ {w : World} {r : PRep} {f p : Sl} (h : RepAtW w r f p) :
  Calls pP 26 #[r.v f p] w fun e w' => e = .returned (.tuple #[.string (if yfX r = 0 then bs (ydW r) else bs []), .int .i64 (yfX r)]) ∧ Mod [] w w' := by
 refine yaP (yHJ ?_)
 intro b1 f1 w1 A1
 have l1 := A1.lt b1 (by simp)
 refine (yz8 yr4 (h.keep0 A1.mod)).mono ?_
 rintro e w2 ⟨rfl, M2⟩
 refine ⟨_, rfl, yaD.of0 M2, ?_⟩
 have N2 := A1.mod.go0 M2 (by simp)
 have s2 := N2.size
 have s2' := M2.size
 refine yaB (fun g1 => ?_) fun g1 => ?_
 ·have g : ¬ yfX r = 0 := by simpa using g1
  rw [if_neg g]; exact ⟨rfl, N2⟩
 have g : yfX r = 0 := by simpa using g1
 have G := RepGood.of g
 intro b3 f3 w3 A3
 have l3 := A3.lt b3 (by simp)
 refine ydO fun b4 w4 c4 M4 f4 => ?_
 intro w5 A5 hb5
 have s3 := A3.mod.size
 have s4 := M4.size
 have s5 := A5.mod.size
 have M5 := (A3.mod.go0 M4 (by simp)).go0 A5.mod (by simp)
 have c5 := A5.mod.keep0 c4
 have hbd : Bd w2.heap.size b3 [] w5 := .inl ⟨f3, .slice none 0 0, hb5, ⟨by simp [Lib.byteCells], .inl ⟨rfl, by simp [Lib.byteCells]⟩⟩, by simp [Value.ownBlock]⟩
 have hne : b4 ≠ b3 := by omega
 have Wr0 : Wr w2.heap.size b3 w2 w5 := Wr.of0 M5 (Nat.le_refl _)
 have hk1 : ∀ {es : List Nat} {ts : List (Nat × TypeId)} {x y : World}, Wr w2.heap.size b3 x y → yaR es ts [b1] x y := fun W b hb _ _ _ => by
  simp at hb; subst hb; exact W.bel.block _ (by omega)
 have hcell : ∀ {w' : World}, Wr w2.heap.size b3 w5 w' → ycQ w' 1 yGW (some ⟨b4, 0, none⟩) 5 (hdL r) := fun {w'} W => by
  have c6 := W.keep c5 hne (by decide)
  refine ⟨rfl, fun i x hx => ⟨_, rfl, fun j v hv => ?_⟩⟩
  have hj : j = 0 := by have := (List.getElem?_eq_some_iff.1 hv).1; simp [yGW] at this; omega
  subst hj
  rw [ya5, ya5, ya1 c6]
  simp [yGW] at hv
  subst hv
  have hnn := G.nn
  have hi := (List.getElem?_eq_some_iff.1 hx).1
  simp [hdL] at hi
  have : r.e = (r.e.toNat : Int) ∧ r.off = (r.off.toNat : Int) ∧ r.n = (r.n.toNat : Int) ∧ r.gen = (r.gen.toNat : Int) := by omega
  have e4 := h.found.1
  match i, hi, hx with
  | 0, _, hx => simp [hdL] at hx; subst hx; simp; omega
  | 1, _, hx => simp [hdL] at hx; subst hx; simp; omega
  | 2, _, hx => simp [hdL] at hx; subst hx; simp; omega
  | 3, _, hx => simp [hdL] at hx; subst hx; simp; omega
  | 4, _, hx => simp [hdL] at hx; subst hx; simp; omega
 refine yAa (fun mm x p0 a0 n0 c0 w' => ∃ k : Nat, x = k ∧ k ≤ 5 ∧ Bd w2.heap.size b3 (yhP r k) w' ∧ Wr w2.heap.size b3 w5 w' ∧ mm = 5 - k) 5 ⟨0, rfl, by omega, by simpa [yhP] using hbd, Wr.of0 (Mod.refl _) (by omega), rfl⟩ ?_
 rintro mm x p0 a0 n0 c0 w6 ⟨k, rfl, hk, hB6, W6, rfl⟩ hc6
 have s6 := W6.bel.size
 have lb := hB6.lt
 refine yaC (fun hlt => ?_) fun hge => ?_
 ·obtain ⟨x, hx, hx2⟩ := yFI G (k := k) (by omega)
  refine (hcell W6).ix hx fun q hq => yaF (by simpa [add_zero] using hq 0 _ rfl) ?_
  intro b7 f7 w7 A7 hb7 hv7
  have s7 := A7.mod.size
  refine (yg0 (hB6.keep0 A7.mod) (by have := G.len1 k; omega) (by omega) (a := ⟨b7, 0, none⟩) (x := x) (by rw [ya1 hv7]; rfl) (by omega)).mono ?_
  rintro e w8 ⟨rfl, hB8, W8⟩
  obtain ⟨p8, a8, n8, c8, hc8⟩ := hB8.cells
  refine ⟨rfl, hk1 W8, p8, a8, n8, c8, hc8, _, W8.keep hv7 (by omega) (by decide), ?_⟩
  refine yz9 (5 - (k + 1)) (by omega) ⟨k + 1, by rw [yaG (by omega) (by omega)]; omega, by omega, ?_, (W6.trans (Wr.of0 A7.mod (by omega))).trans W8, rfl⟩
  rw [yhP, ya9 hx]
  exact hB8
 have hk5 : k = 5 := by omega
 subst hk5
 have e1 : yhP r 5 = yc1 r 0 := by rw [yhP, yc1, List.take_of_length_le (by simp [hdL])]; simp
 rw [e1] at hB6
 have e4 := h.found.1
 have e5 := h.parts.1
 have lf := G.lf
 have lp := G.lp
 have mod0 : ∀ {w'}, Wr w2.heap.size b3 w5 w' → Mod [] w w' := fun W => (Wr0.trans W).mod N2 s2
 refine yAc (fun mm x p0 a0 n0 c0 w' => ∃ k : Nat, x = k ∧ k ≤ r.found.length ∧ Bd w2.heap.size b3 (yc1 r k) w' ∧ Wr w2.heap.size b3 w5 w' ∧ mm = r.found.length - k) r.found.length ⟨0, rfl, by omega, hB6, W6, rfl⟩ ?_
 clear hB6 W6 hc6 lb s6
 rintro mm x p0 a0 n0 c0 w6 ⟨k, rfl, hk, hB6, W6, rfl⟩ hc6
 have s6 := W6.bel.size
 have lb := hB6.lt
 refine yaC (fun hlt => ?_) fun hge => ?_
 ·have g1 : k < r.found.length := by omega
  obtain ⟨x, hx⟩ : ∃ x, r.found[k]? = some x := ⟨_, List.getElem?_eq_getElem g1⟩
  obtain ⟨hx1, hx2⟩ := G.f x (List.mem_of_getElem? hx)
  have hx1 : 0 ≤ x.off ∧ x.off ≤ 1099511627776 := by simpa [num] using hx1
  obtain ⟨n, hn'⟩ := Int.eq_ofNat_of_zero_le hx1.1
  refine (h.keep0 (mod0 W6)).found.ix hx fun q hq => yaF (by simpa [add_zero] using hq 0 _ rfl) (yaO (hq 1 _ rfl) (yaI (hq 2 _ rfl) (yaO (hq 3 _ rfl) (yaI (hq 4 _ rfl) ?_))))
  intro b7 f7 w7 A7 hb7 hv7
  have s7 := A7.mod.size
  have lr := yhL hx2
  have lk := G.len2 k
  have lv := yaL n (by omega)
  refine (yg0 (hB6.keep0 A7.mod) (by omega) (by omega) (a := ⟨b7, 0, none⟩) (x := n) (by rw [ya1 hv7, hn']; rfl) (by omega)).mono ?_
  rintro e w8 ⟨rfl, hB8, W8⟩
  have s8 := W8.bel.size
  obtain ⟨p8, a8, n8, c8, hc8⟩ := hB8.cells
  have hv8 := W8.keep hv7 (by omega) (by decide)
  refine ⟨rfl, hk1 W8, p8, a8, n8, c8, hc8, _, _, _, _, _, hv8, ?_⟩
  refine (yAg x.r w8).mono ?_
  rintro e w9 ⟨rfl, M9⟩
  have hB9 := hB8.keep0 M9
  have s9 := M9.size
  refine ⟨_, _, rfl, yaD.of0 M9, p8, a8, n8, c8, M9.keep0 hc8, _, _, _, _, _, M9.keep0 hv8, ?_⟩
  rw [if_pos hx2]
  refine (yC8 hB9 (by rw [List.length_append]; omega) (by omega)).mono ?_
  rintro e w10 ⟨rfl, hB10, W10⟩
  obtain ⟨p10, a10, n10, c10, hc10⟩ := hB10.cells
  refine ⟨_, _, rfl, hk1 W10, p10, a10, n10, c10, hc10, _, _, _, _, _, W10.keep (M9.keep0 hv8) (by omega) (by decide), ?_⟩
  refine yAb (r.found.length - (k + 1)) (by omega) ⟨k + 1, by rw [yaG (by omega) (by omega)]; omega, by omega, ?_, (W6.trans (Wr.of0 A7.mod (by omega))).trans ((W8.trans (Wr.of0 M9 (by omega))).trans W10), rfl⟩
  have e : yc1 r (k + 1) = yc1 r k ++ yaJ n ++ ygS x.r := by
   rw [yc1, ya9 hx, yf0, hn', Int.toNat_natCast, yc1]; simp
  rw [e]
  exact hB10
 have hkf : k = r.found.length := by omega
 subst hkf
 intro b7 f7 w7 A7 hb7 hv7
 have s7 := A7.mod.size
 have lk := G.len2 r.found.length
 refine (yg0 (hB6.keep0 A7.mod) (by omega) (by omega) (a := ⟨b7, 0, none⟩) (x := r.parts.length) (by rw [ya1 hv7, e5]; rfl) (by omega)).mono ?_
 rintro e w8 ⟨rfl, hB8, W8⟩
 have s8 := W8.bel.size
 obtain ⟨p8, a8, n8, c8, hc8⟩ := hB8.cells
 have hv8 := W8.keep hv7 (by omega) (by decide)
 refine ⟨rfl, hk1 W8, p8, a8, n8, c8, hc8, _, hv8, ?_⟩
 have W8' : Wr w2.heap.size b3 w5 w8 := (W6.trans (Wr.of0 A7.mod (by omega))).trans W8
 have e3 : yc1 r r.found.length ++ yaJ r.parts.length = yeQ r 0 := by rw [yc1, yeQ, List.take_length]; simp
 rw [e3] at hB8
 have lb8 := ya0 hv8
 refine yAe (fun mm x p0 a0 n0 c0 y w' => ∃ k : Nat, x = k ∧ k ≤ r.parts.length ∧ Bd w2.heap.size b3 (yeQ r k) w' ∧ Wr w2.heap.size b3 w5 w' ∧ w8.heap.size ≤ w'.heap.size ∧ mm = r.parts.length - k) r.parts.length ⟨0, rfl, by omega, hB8, W8', Nat.le_refl _, rfl⟩ ?_
 rintro mm x p0 a0 n0 c0 y w9 ⟨k, rfl, hk, hB9, W9, hs9, rfl⟩ hc9 hv9
 have s9 := W9.bel.size
 refine yaC (fun hlt => ?_) fun hge => ?_
 ·have g1 : k < r.parts.length := by omega
  obtain ⟨x, hx⟩ : ∃ x, r.parts[k]? = some x := ⟨_, List.getElem?_eq_getElem g1⟩
  have hxm := List.mem_of_getElem? hx
  refine (h.keep0 (mod0 W9)).parts.ix hx fun q hq => yaI (by simpa [add_zero] using hq 0 _ rfl) (yaF (hq 1 _ rfl) ?_)
  intro b10 f10 w10 A10 hb10 hv10' hv10
  have s10 := A10.mod.size
  have lk := G.len3 k
  refine (yFH (hB9.keep0 A10.mod) (by omega) (by omega) hv10 (by omega) (by have := (G.lenP hxm).2; omega) (G.p x hxm).1).mono ?_
  rintro e w11 ⟨rfl, hB11, W11⟩
  have s11 := W11.bel.size
  obtain ⟨p11, a11, n11, c11, hc11⟩ := hB11.cells
  refine ⟨rfl, hk1 W11, p11, a11, n11, c11, hc11, _, W11.keep hv10' (by omega) (by decide), _, _, W11.keep hv10 (by omega) (by decide), ?_⟩
  refine yAd (r.parts.length - (k + 1)) (by omega) ⟨k + 1, by rw [yaG (by omega) (by omega)]; omega, by omega, ?_, (W9.trans (Wr.of0 A10.mod (by omega))).trans W11, by omega, rfl⟩
  have e : yeQ r (k + 1) = yeQ r k ++ ycU x := by
   rw [yeQ, ya9 hx, yeQ]; simp
  rw [e]
  exact hB11
 ·have hkp : k = r.parts.length := by omega
  subst hkp
  refine (ykA BTw w2.heap.size b3 (ydW r) w9 hB9 ?_).mono ?_
  ·intro e0
   have h1 : (ydW r).length = 0 := by rw [e0]; rfl
   have h2 := (yaL r.parts.length (by omega)).1
   rw [ydW, yeQ, List.length_append, List.length_append] at h1
   omega
  ·rintro e w10 ⟨rfl, hB10, h10, o10⟩
   have W10 : Wr w2.heap.size b3 w9 w10 := ⟨h10, o10⟩
   obtain ⟨p10, a10, n10, c10, hc10⟩ := Bd.cells hB10
   refine ⟨_, rfl, hk1 W10, p10, a10, n10, c10, hc10, _, W10.keep hv9 (by omega) (by decide), ?_, mod0 (W9.trans W10)⟩
   rw [if_pos g, g]; rfl
theorem yu6 {w : World} {r : PRep} {f p : Sl} (h : RepAt w r f p) :
 Calls pP 26 #[r.v f p] w fun e w' => e = .returned (.tuple #[.string (if yfX r = 0 then bs (ydW r) else bs []), .int .i64 (yfX r)]) ∧ Mod [] w w' := yqZ h.wide
theorem BTs : BT 61 := ⟨by kernel_rfl, by decide⟩
abbrev Sb (B b : Nat) (l : List UInt8) (w : World) : Prop := Lib.IsBuilderF 61 5 B b (Lib.byteCells l) w
theorem Sb.cells {B b : Nat} {l : List UInt8} {w : World} (h : Sb B b l w) : ∃ (p a : Option Addr) (n c : Nat), w.heap[b]? = some (.cells #[.pointer p, .slice a n c] 61) := by
 have one : ∀ {p bs}, Lib.BuilderAtF 61 5 B b (.pointer p) bs w → ∃ (p a : Option Addr) (n c : Nat), w.heap[b]? = some (.cells #[.pointer p, .slice a n c] 61) := by
  rintro p bs ⟨hB, v, hb, ⟨hl, ho⟩, hne⟩
  rcases ho with ⟨rfl, _⟩ | ⟨g, cap, cur, fz, rfl, hg, hh, r⟩
  ·exact ⟨_, _, _, _, hb⟩
  ·exact ⟨_, _, _, _, hb⟩
 exact h.elim one one
theorem Sb.keep0 {B b : Nat} {l : List UInt8} {w w' : World} (h : Sb B b l w) (M : Mod [] w w') : Sb B b l w' := by
 have one : ∀ {p bs}, Lib.BuilderAtF 61 5 B b p bs w → Lib.BuilderAtF 61 5 B b p bs w' := by
  rintro p bs ⟨hB, v, hb, ⟨hl, ho⟩, hne⟩
  refine ⟨hB, v, M.keep0 hb, ⟨hl, ?_⟩, hne⟩
  rcases ho with ho | ⟨g, cap, cur, fz, hv, hg, hh, r⟩
  ·exact .inl ho
  ·exact .inr ⟨g, cap, cur, fz, hv, hg, M.keep0 hh, r⟩
 exact h.elim (fun x => .inl (one x)) (fun x => .inr (one x))
theorem Sb.fresh {B b : Nat} {w : World} (hB : B ≤ b) (h : w.heap[b]? = some (.cells #[.pointer none, .slice none 0 0] 61)) : Sb B b [] w :=
 .inl ⟨hB, .slice none 0 0, h, ⟨by simp [Lib.byteCells], .inl ⟨rfl, by simp [Lib.byteCells]⟩⟩, by simp [Value.ownBlock]⟩
theorem yBd {B b : Nat} {l l2 : List UInt8} {w : World} (h : Sb B b l w) (hlen : l.length + l2.length ≤ 100000000000) (hB : B ≤ w.heap.size) :
  Calls pP 23 #[.pointer (some ⟨b, 0, none⟩), .string (bs l2)] w fun e w' => e = .returned (.tuple #[.int .i64 ((bs l2).size : Nat), .nilIface]) ∧ (Sb B b (l ++ l2) w' ∧ Wr B b w w') := by
 refine (ygQ BTs B b (Lib.byteCells l) (bs l2) w h (by rw [Lib.byteCells_length, yaE]; omega) hB).mono ?_
 rintro e w' ⟨rfl, h1, h2, h3⟩
 refine ⟨rfl, .inr ?_, ⟨h2, h3⟩⟩
 have e : Lib.byteCells (l ++ l2) = Lib.byteCells l ++ Lib.strCells (bs l2) := by simp [Lib.byteCells, Lib.strCells, bs]
 rw [e]; exact h1
theorem yFJ {B b : Nat} {l : List UInt8} {w : World} (h : Sb B b l w) (h0 : l ≠ []) :
  Calls pP 27 #[.pointer (some ⟨b, 0, none⟩)] w fun e w' => e = .returned (.string (bs l)) ∧ (Sb B b l w' ∧ Wr B b w w') := by
 refine (ykA BTs B b l w h h0).mono ?_
 rintro e w' ⟨rfl, h1, h2, h3⟩
 exact ⟨rfl, h1, h2, h3⟩
def yaQ (m : PMail) : List Int := [m.kind, m.fr, m.to, m.view, m.normal, m.last, m.commit, m.nonce, m.base, m.n]
theorem yq0 (b : Nat) (w : World) : Calls pP 22 #[.pointer (some ⟨b, 0, none⟩)] w fun e w' => e = .returned (.agg #[.pointer (some ⟨b, 0, none⟩), .pointer (some ⟨b, 1, none⟩), .pointer (some ⟨b, 2, none⟩), .pointer (some ⟨b, 3, none⟩), .pointer (some ⟨b, 4, none⟩), .pointer (some ⟨b, 5, none⟩), .pointer (some ⟨b, 6, none⟩), .pointer (some ⟨b, 7, none⟩), .pointer (some ⟨b, 8, none⟩), .pointer (some ⟨b, 9, none⟩)]) ∧ Mod [] w w' := by
 refine yaP (yI2 ?_)
 intro b1 f1 w2 A2
 exact ⟨rfl, A2.mod⟩
theorem ye1 {w : World} {b : Nat} {m : PMail} {s f p : Sl} (h : w.heap[b]? = some (.cells (m.cs s f p).toArray 29)) {k : Nat} {x : Int} (hx : (yaQ m)[k]? = some x) : w.cell? ⟨b, k, none⟩ = some (.int .i64 x) := by
 rw [ya1 h]
 have hk := (List.getElem?_eq_some_iff.1 hx).1
 simp [yaQ] at hk
 match k, hk, hx with
 | 0, _, hx | 1, _, hx | 2, _, hx | 3, _, hx | 4, _, hx | 5, _, hx | 6, _, hx | 7, _, hx | 8, _, hx | 9, _, hx => simp [yaQ] at hx; subst hx; rfl
theorem yFK (b : Nat) (w' : World) : (Instr.index 63 (.agg #[.pointer (some ⟨b, 0, none⟩), .pointer (some ⟨b, 1, none⟩), .pointer (some ⟨b, 2, none⟩), .pointer (some ⟨b, 3, none⟩), .pointer (some ⟨b, 4, none⟩), .pointer (some ⟨b, 5, none⟩), .pointer (some ⟨b, 6, none⟩), .pointer (some ⟨b, 7, none⟩), .pointer (some ⟨b, 8, none⟩), .pointer (some ⟨b, 9, none⟩)]) (.int .i64 0)).run pP w' = .ok (.pointer (some ⟨b, 0, none⟩)) w' := by kernel_rfl
theorem yFL (b : Nat) (w' : World) : (Instr.index 63 (.agg #[.pointer (some ⟨b, 0, none⟩), .pointer (some ⟨b, 1, none⟩), .pointer (some ⟨b, 2, none⟩), .pointer (some ⟨b, 3, none⟩), .pointer (some ⟨b, 4, none⟩), .pointer (some ⟨b, 5, none⟩), .pointer (some ⟨b, 6, none⟩), .pointer (some ⟨b, 7, none⟩), .pointer (some ⟨b, 8, none⟩), .pointer (some ⟨b, 9, none⟩)]) (.int .i64 1)).run pP w' = .ok (.pointer (some ⟨b, 1, none⟩)) w' := by kernel_rfl
theorem yFM (b : Nat) (w' : World) : (Instr.index 63 (.agg #[.pointer (some ⟨b, 0, none⟩), .pointer (some ⟨b, 1, none⟩), .pointer (some ⟨b, 2, none⟩), .pointer (some ⟨b, 3, none⟩), .pointer (some ⟨b, 4, none⟩), .pointer (some ⟨b, 5, none⟩), .pointer (some ⟨b, 6, none⟩), .pointer (some ⟨b, 7, none⟩), .pointer (some ⟨b, 8, none⟩), .pointer (some ⟨b, 9, none⟩)]) (.int .i64 2)).run pP w' = .ok (.pointer (some ⟨b, 2, none⟩)) w' := by kernel_rfl
theorem yFN (b : Nat) (w' : World) : (Instr.index 63 (.agg #[.pointer (some ⟨b, 0, none⟩), .pointer (some ⟨b, 1, none⟩), .pointer (some ⟨b, 2, none⟩), .pointer (some ⟨b, 3, none⟩), .pointer (some ⟨b, 4, none⟩), .pointer (some ⟨b, 5, none⟩), .pointer (some ⟨b, 6, none⟩), .pointer (some ⟨b, 7, none⟩), .pointer (some ⟨b, 8, none⟩), .pointer (some ⟨b, 9, none⟩)]) (.int .i64 3)).run pP w' = .ok (.pointer (some ⟨b, 3, none⟩)) w' := by kernel_rfl
theorem yFO (b : Nat) (w' : World) : (Instr.index 63 (.agg #[.pointer (some ⟨b, 0, none⟩), .pointer (some ⟨b, 1, none⟩), .pointer (some ⟨b, 2, none⟩), .pointer (some ⟨b, 3, none⟩), .pointer (some ⟨b, 4, none⟩), .pointer (some ⟨b, 5, none⟩), .pointer (some ⟨b, 6, none⟩), .pointer (some ⟨b, 7, none⟩), .pointer (some ⟨b, 8, none⟩), .pointer (some ⟨b, 9, none⟩)]) (.int .i64 4)).run pP w' = .ok (.pointer (some ⟨b, 4, none⟩)) w' := by kernel_rfl
theorem yFP (b : Nat) (w' : World) : (Instr.index 63 (.agg #[.pointer (some ⟨b, 0, none⟩), .pointer (some ⟨b, 1, none⟩), .pointer (some ⟨b, 2, none⟩), .pointer (some ⟨b, 3, none⟩), .pointer (some ⟨b, 4, none⟩), .pointer (some ⟨b, 5, none⟩), .pointer (some ⟨b, 6, none⟩), .pointer (some ⟨b, 7, none⟩), .pointer (some ⟨b, 8, none⟩), .pointer (some ⟨b, 9, none⟩)]) (.int .i64 5)).run pP w' = .ok (.pointer (some ⟨b, 5, none⟩)) w' := by kernel_rfl
theorem yFQ (b : Nat) (w' : World) : (Instr.index 63 (.agg #[.pointer (some ⟨b, 0, none⟩), .pointer (some ⟨b, 1, none⟩), .pointer (some ⟨b, 2, none⟩), .pointer (some ⟨b, 3, none⟩), .pointer (some ⟨b, 4, none⟩), .pointer (some ⟨b, 5, none⟩), .pointer (some ⟨b, 6, none⟩), .pointer (some ⟨b, 7, none⟩), .pointer (some ⟨b, 8, none⟩), .pointer (some ⟨b, 9, none⟩)]) (.int .i64 6)).run pP w' = .ok (.pointer (some ⟨b, 6, none⟩)) w' := by kernel_rfl
theorem yFR (b : Nat) (w' : World) : (Instr.index 63 (.agg #[.pointer (some ⟨b, 0, none⟩), .pointer (some ⟨b, 1, none⟩), .pointer (some ⟨b, 2, none⟩), .pointer (some ⟨b, 3, none⟩), .pointer (some ⟨b, 4, none⟩), .pointer (some ⟨b, 5, none⟩), .pointer (some ⟨b, 6, none⟩), .pointer (some ⟨b, 7, none⟩), .pointer (some ⟨b, 8, none⟩), .pointer (some ⟨b, 9, none⟩)]) (.int .i64 7)).run pP w' = .ok (.pointer (some ⟨b, 7, none⟩)) w' := by kernel_rfl
theorem yFS (b : Nat) (w' : World) : (Instr.index 63 (.agg #[.pointer (some ⟨b, 0, none⟩), .pointer (some ⟨b, 1, none⟩), .pointer (some ⟨b, 2, none⟩), .pointer (some ⟨b, 3, none⟩), .pointer (some ⟨b, 4, none⟩), .pointer (some ⟨b, 5, none⟩), .pointer (some ⟨b, 6, none⟩), .pointer (some ⟨b, 7, none⟩), .pointer (some ⟨b, 8, none⟩), .pointer (some ⟨b, 9, none⟩)]) (.int .i64 8)).run pP w' = .ok (.pointer (some ⟨b, 8, none⟩)) w' := by kernel_rfl
theorem yFT (b : Nat) (w' : World) : (Instr.index 63 (.agg #[.pointer (some ⟨b, 0, none⟩), .pointer (some ⟨b, 1, none⟩), .pointer (some ⟨b, 2, none⟩), .pointer (some ⟨b, 3, none⟩), .pointer (some ⟨b, 4, none⟩), .pointer (some ⟨b, 5, none⟩), .pointer (some ⟨b, 6, none⟩), .pointer (some ⟨b, 7, none⟩), .pointer (some ⟨b, 8, none⟩), .pointer (some ⟨b, 9, none⟩)]) (.int .i64 9)).run pP w' = .ok (.pointer (some ⟨b, 9, none⟩)) w' := by kernel_rfl
theorem yFU (b : Nat) {k : Nat} (hk : k < 10) (w' : World) : (Instr.index 63 (.agg #[.pointer (some ⟨b, 0, none⟩), .pointer (some ⟨b, 1, none⟩), .pointer (some ⟨b, 2, none⟩), .pointer (some ⟨b, 3, none⟩), .pointer (some ⟨b, 4, none⟩), .pointer (some ⟨b, 5, none⟩), .pointer (some ⟨b, 6, none⟩), .pointer (some ⟨b, 7, none⟩), .pointer (some ⟨b, 8, none⟩), .pointer (some ⟨b, 9, none⟩)]) (.int .i64 (k : Nat))).run pP w' = .ok (.pointer (some ⟨b, k, none⟩)) w' := by
 have e : k = 0 ∨ k = 1 ∨ k = 2 ∨ k = 3 ∨ k = 4 ∨ k = 5 ∨ k = 6 ∨ k = 7 ∨ k = 8 ∨ k = 9 := by omega
 rcases e with rfl | rfl | rfl | rfl | rfl | rfl | rfl | rfl | rfl | rfl
 ·exact yFK b w'
 ·exact yFL b w'
 ·exact yFM b w'
 ·exact yFN b w'
 ·exact yFO b w'
 ·exact yFP b w'
 ·exact yFQ b w'
 ·exact yFR b w'
 ·exact yFS b w'
 ·exact yFT b w'
section
set_option maxRecDepth 100000
variable {R : VWP} {w w0 : World} {m : Nat} {i0 i1 i2 i3 i4 i5 i6 i7 i8 i9 j0 j1 j2 j3 j4 j5 j6 j7 j8 j9 k0 k1 k2 k3 k4 k5 k6 k7 k8 k9 l0 l1 l2 l3 l4 l5 l6 l7 l8 l9 : Int} {s0 s1 s2 s3 s4 s5 s6 s7 s8 s9 t0 t1 t2 t3 t4 t5 t6 t7 t8 t9 : BA} {n0 n1 n2 n3 n4 n5 n6 n7 n8 n9 o0 o1 o2 o3 o4 o5 o6 o7 o8 o9 p0 p1 p2 p3 p4 p5 p6 p7 p8 p9 : Nat} {q0 q1 q2 q3 q4 q5 q6 q7 q8 q9 r0 r1 r2 r3 r4 r5 r6 r7 r8 r9 : OA} {B0 B1 B2 B3 B4 B5 B6 B7 B8 B9 : Bool} {M0 M1 M2 M3 : Option Nat} {V0 V1 V2 V3 V4 V5 : Value} {A0 A1 A2 : Addr}
def ysZ : LA := ⟨[0, 0, 1, 0, 1, 1, 1], [1, 5, 24, 25, 26], [(1, 0, 0), (5, 1, 0)], 2, [1]⟩
def ys0 : LA := ⟨[0, 0, 1, 0, 1, 1, 1, 1], [5, 36, 37, 38], [(5, 1, 0)], 2, [1]⟩
def yu7 : List LA := [ysZ, ys0]
abbrev yDm := dnF pP yu7 (code Tryz.f162)
abbrev yLT := yaN pP yu7 (code Tryz.f162)
abbrev yDn (p : List Nat) (K : List Kh) (R : VWP) := yaN pP yu7 (code Tryz.f162) p K (ya4 pP Tryz.f162 [] R)
def ymK (b0 : OA) (b2 b1 bm0 : Nat) (a7 a8 a9 : Int) (a0 : OA) (a4 a2 bm1 : Nat) : Int × (Option Addr) × (Option Addr) × Nat × Nat → List Value × List TB := fun (b3, a6, a1, a5, a3) => ([(.pointer (some ⟨bm0, 0, none⟩)), (.pointer (some ⟨bm1, 0, none⟩)), .slice b0 b2 b1, (.int .i64 (4 : Int)), .int .i64 b3], [⟨bm0, 46, [.int .i64 a7, .int .i64 a8, .int .i64 a9, .slice a0 a4 a2], false⟩, ⟨bm1, 61, [.pointer a6, .slice a1 a5 a3], true⟩])
def ymL (b0 : OA) (b2 b1 : Nat) (b3 : Int) (bm0 : Nat) (a7 a8 a9 : Int) (a0 : OA) (a4 a2 bm1 : Nat) : Int × (Option Addr) × (Option Addr) × Nat × Nat → List Value × List TB := fun (b4, a6, a1, a5, a3) => ([(.pointer (some ⟨bm1, 0, none⟩)), .slice b0 b2 b1, .int .i64 b3, .int .i64 b4], [⟨bm0, 46, [.int .i64 a7, .int .i64 a8, .int .i64 a9, .slice a0 a4 a2], false⟩, ⟨bm1, 61, [.pointer a6, .slice a1 a5 a3], true⟩])
abbrev yEo (a6 : OA) (a8 a7 bm0 : Nat) (a3 a4 a5 : Int) (a0 : OA) (a2 a1 bm1 : Nat) (I : Nat → Int → Option Addr → Option Addr → Nat → Nat → World → Prop) (m : Nat) : Kh := KG (ymK a6 a8 a7 bm0 a3 a4 a5 a0 a2 a1 bm1) (U5 I) m
theorem yBe {I : Nat → Int → Option Addr → Option Addr → Nat → Nat → World → Prop} (m' : Nat) (h1 : m' < m) (h2 : I m' i3 q2 q3 n6 n7 w) : KS (yEo q0 n0 n1 n2 i0 i1 i2 q1 n3 n4 n5 I m) (ymK q0 n0 n1 n2 i0 i1 i2 q1 n3 n4 n5 (i3, q2, q3, n6, n7)) w := ⟨m', h1, _, rfl, rfl, h2⟩
theorem yBf {b1 : OA} {a1 : OA} {b6 b3 : OA} (I : Nat → Int → Option Addr → Option Addr → Nat → Nat → World → Prop) (m0 : Nat) (h0 : I m0 i3 b6 b3 n6 n7 w0)
 (hr : ∀ m b0 a6 a3 a5 a4 w, I m b0 a6 a3 a5 a4 w →
 w.heap[n5]? = some (.cells #[.pointer a6, .slice a3 a5 a4] 61) →
 brB (decide (b0 < (4 : Int))) (
 ixA b1 n0 b0 1 fun q9 =>
 yaH .i64 w q9 fun d1 =>
 Calls pP 24 #[(.int .u64 (IntKind.wrap .u64 d1))] w fun e b8 => ∃ c5, e = .returned (.string c5) ∧ yaR [n5] [(n2, 46)] [n2] w b8 ∧ ∃ c9 c6 c8 c7, b8.heap[n5]? = some (.cells #[.pointer c9, .slice c6 c8 c7] 61) ∧
 Calls pP 23 #[(.pointer (some ⟨n5, 0, none⟩)), .string c5] b8 fun e c0 => ∃ d2 d0, e = .returned (.tuple #[.int .i64 d2, d0]) ∧ yaR [n5] [(n2, 46)] [n2] b8 c0 ∧ ∃ c4 c1 c3 c2, c0.heap[n5]? = some (.cells #[.pointer c4, .slice c1 c3 c2] 61) ∧
 KS (yEo b1 n0 n1 n2 i0 i1 i2 a1 n3 n4 n5 I m) (ymK b1 n0 n1 n2 i0 i1 i2 a1 n3 n4 n5 ((IntKind.wrap .i64 (b0 + 1)), c4, c1, c3, c2)) c0)
 (
 yaK ys0 (yDm 394 [0, 0, 1, 0, 1, 1, 1, 1]) (yDn [1, 1, 1, 1, 0, 1, 0] [] R) (ymL a1 n3 n4 (n3 : Int) n2 i0 i1 i2 a1 n3 n4 n5 (0, a6, a3, a5, a4)) w)) :
 yaK ysZ (yDm 395 [0, 0, 1, 0, 1, 1, 1]) (yDn [1, 1, 1, 0, 1, 0] [] R) (ymK b1 n0 n1 n2 i0 i1 i2 a1 n3 n4 n5 (i3, b6, b3, n6, n7)) w0 :=
 lrule (ymK b1 n0 n1 n2 i0 i1 i2 a1 n3 n4 n5) (U5 I) h0 (by rintro m ⟨b0, a6, a3, a5, a4⟩ w h; exact ⟨by kernel_rfl, by kernel_rfl, fun js => Eq.mpr (by kernel_rfl) (hr m b0 a6 a3 a5 a4 w h)⟩)
abbrev yEp (a6 : OA) (a8 a7 : Nat) (a9 : Int) (bm0 : Nat) (a3 a4 a5 : Int) (a0 : OA) (a2 a1 bm1 : Nat) (I : Nat → Int → Option Addr → Option Addr → Nat → Nat → World → Prop) (m : Nat) : Kh := KG (ymL a6 a8 a7 a9 bm0 a3 a4 a5 a0 a2 a1 bm1) (U5 I) m
theorem yBg {I : Nat → Int → Option Addr → Option Addr → Nat → Nat → World → Prop} (m' : Nat) (h1 : m' < m) (h2 : I m' i4 q2 q3 n6 n7 w) : KS (yEp q0 n0 n1 i0 n2 i1 i2 i3 q1 n3 n4 n5 I m) (ymL q0 n0 n1 i0 n2 i1 i2 i3 q1 n3 n4 n5 (i4, q2, q3, n6, n7)) w := ⟨m', h1, _, rfl, rfl, h2⟩
theorem yBh (I : Nat → Int → Option Addr → Option Addr → Nat → Nat → World → Prop) (m0 : Nat) (h0 : I m0 i4 q2 q3 n6 n7 w0)
 (hr : ∀ m b0 a3 a0 a2 a1 w, I m b0 a3 a0 a2 a1 w →
 w.heap[n5]? = some (.cells #[.pointer a3, .slice a0 a2 a1] 61) →
 brB (decide (b0 < i0)) (
 ixA q0 n0 b0 4 fun c0 =>
 yaX w c0 fun e2 => yaT w (Addr.add c0 1) fun e0 => yaX w (Addr.add c0 2) fun e3 => yaT w (Addr.add c0 3) fun e1 =>
 ∀ b5, w.heap.size ≤ b5 →
 ∀ c1, Adv [] [b5] w c1 → c1.heap[n5]? = some (.cells #[.pointer a3, .slice a0 a2 a1] 61) →
 Calls pP 97 #[(.agg (Z7 e2 e0 e3 e1))] c1 fun e c2 => ∃ d0, e = .returned (.string d0) ∧ yaR [n5] [(n2, 46), (b5, 53)] [n2, b5] c1 c2 ∧ ∃ d8 d2 d6 d4, c2.heap[n5]? = some (.cells #[.pointer d8, .slice d2 d6 d4] 61) ∧
 Calls pP 23 #[(.pointer (some ⟨n5, 0, none⟩)), .string d0] c2 fun e c4 => ∃ e5 e4, e = .returned (.tuple #[.int .i64 e5, e4]) ∧ yaR [n5] [(n2, 46), (b5, 53)] [n2, b5] c2 c4 ∧ ∃ c9 c6 c8 c7, c4.heap[n5]? = some (.cells #[.pointer c9, .slice c6 c8 c7] 61) ∧
 KS (yEp q0 n0 n1 i0 n2 i1 i2 i3 q1 n3 n4 n5 I m) (ymL q0 n0 n1 i0 n2 i1 i2 i3 q1 n3 n4 n5 ((IntKind.wrap .i64 (b0 + 1)), c9, c6, c8, c7)) c4)
 (
 Calls pP 27 #[(.pointer (some ⟨n5, 0, none⟩))] w fun e c5 => ∃ d1, e = .returned (.string d1) ∧ yaR [n5] [(n2, 46)] [n2] w c5 ∧ ∃ d9 d3 d7 d5, c5.heap[n5]? = some (.cells #[.pointer d9, .slice d3 d7 d5] 61) ∧
 R (.tuple #[.string d1, .int .i64 0]) c5)) :
 yaK ys0 (yDm 394 [0, 0, 1, 0, 1, 1, 1, 1]) (yDn [1, 1, 1, 1, 0, 1, 0] [] R) (ymL q0 n0 n1 i0 n2 i1 i2 i3 q1 n3 n4 n5 (i4, q2, q3, n6, n7)) w0 :=
 lrule (ymL q0 n0 n1 i0 n2 i1 i2 i3 q1 n3 n4 n5) (U5 I) h0 (by rintro m ⟨b0, a3, a0, a2, a1⟩ w h; exact ⟨by kernel_rfl, by kernel_rfl, fun js => Eq.mpr (by kernel_rfl) (hr m b0 a3 a0 a2 a1 w h)⟩)
theorem yJs (h :
 ∀ b1, w.heap.size ≤ b1 →
 ∀ w2, Adv [] [b1] w w2 →
 Calls pP 163 #[(.agg (Z9 i0 i1 i2 q0 n0 n1))] w2 fun e w3 => ∃ x4, e = .returned (.int .i64 x4) ∧ yaD [b1] w2 w3 ∧
 brB (x4 != 0) (
 R (.tuple #[(.string (⟨#[]⟩ : BA)), .int .i64 x4]) w3)
 (
 ∀ b5, w3.heap.size ≤ b5 →
 ∀ w6, Adv [] [b5] w3 w6 →
 al w6 (.cells (Z10 i0 i1 i2 (n0 : Int)) 3) fun b7 w8 =>
 ∀ a6, Adv [] [] w8 a6 → a6.heap[b5]? = some (.cells #[.pointer none, .slice none 0 0] 61) →
 yaK ysZ (yDm 395 [0, 0, 1, 0, 1, 1, 1]) (yDn [1, 1, 1, 0, 1, 0] [] R) (ymK (some ⟨b7, 0, none⟩) 4 4 b1 i0 i1 i2 q0 n0 n1 b5 (0, none, none, 0, 0)) a6)) :
 CR pP 162 #[(.agg (Z9 i0 i1 i2 q0 n0 n1))] w R :=
 yaA Tryz.wide_mixed (an := yu7) Tryz.func162 rfl rfl (by kernel_rfl) rfl (Eq.mpr (by kernel_rfl) h)
theorem yJt {b0 : Nat} {o0 : BA} (hb : w.heap[b0]? = some (.cells (Z2 o0 i0 i1) 181)) (h :
 brB (i1 != 0) (
 ∀ w1, Adv [] [] w w1 → w1.heap[b0]? = some (.cells (Z2 o0 i0 i1) 181) →
 R (.string (⟨#[]⟩ : BA)) w1)
 (
 brB (!B0) (
 ∀ w2, Adv [] [] w w2 → w2.heap[b0]? = some (.cells (Z2 o0 i0 i1) 181) →
 R (.string (⟨#[]⟩ : BA)) w2)
 (
 ∀ w3, Adv [] [] w w3 →
 Calls pP 78 (Z2 o0 i0 i2) w3 fun e w4 => ∃ s5 x6 x7, e = .returned (.tuple (Z2 s5 x6 x7)) ∧ yaD [b0] w3 w4 ∧
 ∀ w8, Adv [b0] [] w4 w8 → w8.heap[b0]? = some (.cells (Z2 o0 x6 x7) 181) →
 R (.string s5) w8))) :
 CR pP 138 #[(.pointer (some ⟨b0, 0, none⟩)), .bool B0, .int .i64 i2] w R :=
 ybV Tryz.wide_mixed (an := []) Tryz.func138 rfl rfl (by kernel_rfl) rfl hb (Eq.mpr (by kernel_rfl) h)
theorem yJu {b0 : Nat} (hb : w.heap[b0]? = some (.cells (Z2 s0 i0 i1) 181)) (h :
 brB (i1 != 0) (
 ∀ w1, Adv [] [] w w1 → w1.heap[b0]? = some (.cells (Z2 s0 i0 i1) 181) →
 R (.int .u64 0) w1)
 (
 ∀ w2, Adv [] [] w w2 →
 Calls pP 79 #[.string s0, .int .i64 i0] w2 fun e w3 => ∃ x4 x5 x6, e = .returned (.tuple #[.int .u64 x4, .int .i64 x5, .int .i64 x6]) ∧ yaD [b0] w2 w3 ∧
 ∀ w7, Adv [b0] [] w3 w7 → w7.heap[b0]? = some (.cells (Z2 s0 x5 x6) 181) →
 R (.int .u64 x4) w7)) :
 CR pP 171 #[(.pointer (some ⟨b0, 0, none⟩))] w R :=
 ybV Tryz.wide_mixed (an := []) Tryz.func171 rfl rfl (by kernel_rfl) rfl hb (Eq.mpr (by kernel_rfl) h)
theorem yJv {b0 : Nat} (hb : w.heap[b0]? = some (.cells (Z2 s0 i0 i1) 181)) (h :
 brB (i1 != 0) (
 ∀ w1, Adv [] [] w w1 → w1.heap[b0]? = some (.cells (Z2 s0 i0 i1) 181) →
 R (.int .u8 0) w1)
 (
 brB (decide (i0 < 0)) (
 ∀ w2, Adv [b0] [] w w2 → w2.heap[b0]? = some (.cells (Z2 s0 i0 1) 181) →
 R (.int .u8 0) w2)
 (
 brB (decide (i0 > (s0.size : Int))) (
 ∀ w3, Adv [b0] [] w w3 → w3.heap[b0]? = some (.cells (Z2 s0 i0 1) 181) →
 R (.int .u8 0) w3)
 (
 brB (i0 == (s0.size : Int)) (
 ∀ w4, Adv [b0] [] w w4 → w4.heap[b0]? = some (.cells (Z2 s0 i0 10) 181) →
 R (.int .u8 0) w4)
 (
 ixS s0 i0 fun x5 =>
 brB (x5 != 0) (
 brB (x5 != 1) (
 brB (x5 != 3) (
 ∀ w6, Adv [b0] [] w w6 → w6.heap[b0]? = some (.cells (Z2 s0 (IntKind.wrap .i64 (i0 + 1)) 30) 181) →
 R (.int .u8 x5) w6)
 (
 ∀ w7, Adv [b0] [] w w7 → w7.heap[b0]? = some (.cells (Z2 s0 (IntKind.wrap .i64 (i0 + 1)) i1) 181) →
 R (.int .u8 x5) w7))
 (
 ∀ w8, Adv [b0] [] w w8 → w8.heap[b0]? = some (.cells (Z2 s0 (IntKind.wrap .i64 (i0 + 1)) i1) 181) →
 R (.int .u8 x5) w8))
 (
 ∀ w9, Adv [b0] [] w w9 → w9.heap[b0]? = some (.cells (Z2 s0 (IntKind.wrap .i64 (i0 + 1)) i1) 181) →
 R (.int .u8 x5) w9)))))) :
 CR pP 137 #[(.pointer (some ⟨b0, 0, none⟩))] w R :=
 ybV Tryz.wide_mixed (an := []) Tryz.func137 rfl rfl (by kernel_rfl) rfl hb (Eq.mpr (by kernel_rfl) h)
theorem yJw {b0 : Nat} {o0 : BA} (hb : w.heap[b0]? = some (.cells (Z2 o0 i0 i1) 181)) (h :
 ∀ b1, w.heap.size ≤ b1 →
 ∀ w2, Adv [] [b1] w w2 → w2.heap[b0]? = some (.cells (Z2 o0 i0 i1) 181) →
 Calls pP 137 #[(.pointer (some ⟨b0, 0, none⟩))] w2 fun e w3 => ∃ x4, e = .returned (.int .u8 x4) ∧ yaR [b0] [(b1, 53)] [b1] w2 w3 ∧ ∃ s5 x6 x7, w3.heap[b0]? = some (.cells (Z2 s5 x6 x7) 181) ∧
 ∀ b8, w3.heap.size ≤ b8 →
 ∀ w9, Adv [] [b8] w3 w9 → w9.heap[b0]? = some (.cells (Z2 s5 x6 x7) 181) →
 Calls pP 138 #[(.pointer (some ⟨b0, 0, none⟩)), (.bool ((yk8 .u8 x4 1) != 0)), .int .i64 64] w9 fun e a1 => ∃ a4, e = .returned (.string a4) ∧ yaR [b0] [(b1, 53), (b8, 53)] [b1, b8] w9 a1 ∧ ∃ a5 a8 a9, a1.heap[b0]? = some (.cells (Z2 a5 a8 a9) 181) ∧
 ∀ a0, Adv [b8] [] a1 a0 → a0.heap[b0]? = some (.cells (Z2 a5 a8 a9) 181) →
 Calls pP 138 #[(.pointer (some ⟨b0, 0, none⟩)), (.bool (!((yk8 .u8 x4 2) != 0))), .int .i64 512] a0 fun e a2 => ∃ a6, e = .returned (.string a6) ∧ yaR [b0] [(b1, 53), (b8, 53)] [b1, b8] a0 a2 ∧ ∃ a7 b2 b3, a2.heap[b0]? = some (.cells (Z2 a7 b2 b3) 181) ∧
 ∀ a3, Adv [b1, b8] [] a2 a3 → a3.heap[b0]? = some (.cells (Z2 a7 b2 b3) 181) →
 R (.agg (Z7 ((yk8 .u8 x4 1) != 0) a4 ((yk8 .u8 x4 2) != 0) a6)) a3) :
 CR pP 132 #[(.pointer (some ⟨b0, 0, none⟩))] w R :=
 ybV Tryz.wide_mixed (an := []) Tryz.func132 rfl rfl (by kernel_rfl) rfl hb (Eq.mpr (by kernel_rfl) h)
def ys1 : LA := ⟨[0, 0, 1, 0, 1, 1, 1], [0, 2, 3, 4, 7], [(0, 0, 0), (2, 1, 0), (3, 2, 0)], 3, [0, 2]⟩
def yu8 : List LA := [ys1]
abbrev yJx := dnF pP yu8 (code Tryz.f170)
abbrev yLU := yaN pP yu8 (code Tryz.f170)
abbrev yJy (p : List Nat) (K : List Kh) (R : VWP) := yaN pP yu8 (code Tryz.f170) p K (ya4 pP Tryz.f170 [0] R)
def yi8 (bm0 bm1 bm2 : Nat) : Bool × Int × ByteArray × Int × Int × Int × Int × Int × Int → List Value × List TB := fun (a7, a8, a0, a1, a2, a3, a4, a5, a6) => ([(.pointer (some ⟨bm0, 0, none⟩)), (.pointer (some ⟨bm1, 0, none⟩)), (.pointer (some ⟨bm2, 0, none⟩)), .bool a7, .int .i64 a8], [⟨bm0, 181, [.string a0, .int .i64 a1, .int .i64 a2], true⟩, ⟨bm1, 205, [.int .i64 0, .int .i64 0, .int .i64 0, .int .i64 0], false⟩, ⟨bm2, 205, [.int .i64 a3, .int .i64 a4, .int .i64 a5, .int .i64 a6], true⟩])
abbrev yu9 (bm0 bm1 bm2 : Nat) (I : Nat → Bool → Int → ByteArray → Int → Int → Int → Int → Int → Int → World → Prop) (m : Nat) : Kh := KG (yi8 bm0 bm1 bm2) (U9 I) m
theorem ykO {I : Nat → Bool → Int → ByteArray → Int → Int → Int → Int → Int → Int → World → Prop} (m' : Nat) (h1 : m' < m) (h2 : I m' B0 i0 s0 i1 i2 i3 i4 i5 i6 w) : KS (yu9 n0 n1 n2 I m) (yi8 n0 n1 n2 (B0, i0, s0, i1, i2, i3, i4, i5, i6)) w := ⟨m', h1, _, rfl, rfl, h2⟩
theorem yBi {a8 : BA} (I : Nat → Bool → Int → ByteArray → Int → Int → Int → Int → Int → Int → World → Prop) (m0 : Nat) (h0 : I m0 B0 i0 a8 i1 i2 i3 i4 i5 i6 w0)
 (hr : ∀ m b5 a6 a4 a5 a7 a1 a2 a3 a0 w, I m b5 a6 a4 a5 a7 a1 a2 a3 a0 w →
 w.heap[n0]? = some (.cells (Z2 a4 a5 a7) 181) →
 w.heap[n2]? = some (.cells (Z10 a1 a2 a3 a0) 205) →
 brB (decide (a6 < 4)) (
 Calls pP 171 #[(.pointer (some ⟨n0, 0, none⟩))] w fun e w3 => ∃ x4, e = .returned (.int .u64 x4) ∧ yaR [n0, n2] [(n1, 205)] [n1] w w3 ∧ ∃ s5 x6 x7, w3.heap[n0]? = some (.cells (Z2 s5 x6 x7) 181) ∧ ∃ x8 x9 e7 e8, w3.heap[n2]? = some (.cells (Z10 x8 x9 e7 e8) 205) ∧
 brB b5 (0 ≤ a6 ∧ a6 < ((4 : Nat) : Int) ∧
 st w3 (Addr.add ⟨n2, 0, none⟩ (Int.toNat a6 * 1)) [(.int .i64 (IntKind.wrap .i64 (if 1099511627776 < x4 then 1099511627776 else x4)))] fun b6 => yaR [n0, n2] [(n1, 205)] [n1] w3 b6 ∧ ∃ c6 c9 d0, b6.heap[n0]? = some (.cells (Z2 c6 c9 d0) 181) ∧ ∃ d1 d2 d3 d4, b6.heap[n2]? = some (.cells (Z10 d1 d2 d3 d4) 205) ∧
 KS (yu9 n0 n1 n2 I m) (yi8 n0 n1 n2 (true, (IntKind.wrap .i64 (a6 + 1)), c6, c9, d0, d1, d2, d3, d4)) b6)
 (
 brB (decide (a6 < 3)) (0 ≤ a6 ∧ a6 < ((4 : Nat) : Int) ∧
 st w3 (Addr.add ⟨n2, 0, none⟩ (Int.toNat a6 * 1)) [(.int .i64 (IntKind.wrap .i64 (if 1099511627776 < x4 then 1099511627776 else x4)))] fun b7 => yaR [n0, n2] [(n1, 205)] [n1] w3 b7 ∧ ∃ c7 d5 d6, b7.heap[n0]? = some (.cells (Z2 c7 d5 d6) 181) ∧ ∃ d7 d8 d9 e0, b7.heap[n2]? = some (.cells (Z10 d7 d8 d9 e0) 205) ∧
 KS (yu9 n0 n1 n2 I m) (yi8 n0 n1 n2 ((decide (x4 > 1099511627776)), (IntKind.wrap .i64 (a6 + 1)), c7, d5, d6, d7, d8, d9, e0)) b7)
 (0 ≤ a6 ∧ a6 < ((4 : Nat) : Int) ∧
 st w3 (Addr.add ⟨n2, 0, none⟩ (Int.toNat a6 * 1)) [(.int .i64 (IntKind.wrap .i64 (if 1099511627776 < x4 then 1099511627776 else x4)))] fun b8 => yaR [n0, n2] [(n1, 205)] [n1] w3 b8 ∧ ∃ c8 e1 e2, b8.heap[n0]? = some (.cells (Z2 c8 e1 e2) 181) ∧ ∃ e3 e4 e5 e6, b8.heap[n2]? = some (.cells (Z10 e3 e4 e5 e6) 205) ∧
 KS (yu9 n0 n1 n2 I m) (yi8 n0 n1 n2 (false, (IntKind.wrap .i64 (a6 + 1)), c8, e1, e2, e3, e4, e5, e6)) b8)))
 (
 brB (a7 != 0) (
 ∀ b9, Adv [n1] [] w b9 → b9.heap[n0]? = some (.cells (Z2 a4 a5 a7) 181) →
 b9.heap[n2]? = some (.cells (Z10 a1 a2 a3 a0) 205) →
 R (.agg (Z10 a1 a2 a3 a0)) b9)
 (
 brB b5 (
 ∀ c0, Adv [n1, n0] [] w c0 → c0.heap[n0]? = some (.cells (Z2 a4 a5 1) 181) →
 c0.heap[n2]? = some (.cells (Z10 a1 a2 a3 a0) 205) →
 R (.agg (Z10 a1 a2 a3 a0)) c0)
 (
 brB (a0 == 0) (
 ∀ c1, Adv [n1, n0] [] w c1 → c1.heap[n0]? = some (.cells (Z2 a4 a5 30) 181) →
 c1.heap[n2]? = some (.cells (Z10 a1 a2 a3 a0) 205) →
 R (.agg (Z10 a1 a2 a3 a0)) c1)
 (
 brB (decide (a0 > 16)) (
 ∀ c2, Adv [n1, n0] [] w c2 → c2.heap[n0]? = some (.cells (Z2 a4 a5 2) 181) →
 c2.heap[n2]? = some (.cells (Z10 a1 a2 a3 a0) 205) →
 R (.agg (Z10 a1 a2 a3 a0)) c2)
 (
 ∀ c3, Adv [n1] [] w c3 → c3.heap[n0]? = some (.cells (Z2 a4 a5 a7) 181) →
 c3.heap[n2]? = some (.cells (Z10 a1 a2 a3 a0) 205) →
 R (.agg (Z10 a1 a2 a3 a0)) c3)))))) :
 yaK ys1 (yJx 395 [0, 0, 1, 0, 1, 1, 1]) (yJy [1, 1, 1, 0, 1, 0] [] R) (yi8 n0 n1 n2 (B0, i0, a8, i1, i2, i3, i4, i5, i6)) w0 :=
 lrule (yi8 n0 n1 n2) (U9 I) h0 (by rintro m ⟨b5, a6, a4, a5, a7, a1, a2, a3, a0⟩ w h; exact ⟨by kernel_rfl, by kernel_rfl, fun js => Eq.mpr (by kernel_rfl) (hr m b5 a6 a4 a5 a7 a1 a2 a3 a0 w h)⟩)
theorem yJz {b0 : Nat} (hb : w.heap[b0]? = some (.cells (Z2 s0 i0 i1) 181)) (h :
 ∀ b1, w.heap.size ≤ b1 →
 ∀ b2, w.heap.size ≤ b2 →
 ∀ a0, Adv [] [b2, b1] w a0 → a0.heap[b0]? = some (.cells (Z2 s0 i0 i1) 181) →
 a0.heap[b2]? = some (.cells (Z10 0 0 0 0) 205) →
 yaK ys1 (yJx 395 [0, 0, 1, 0, 1, 1, 1]) (yJy [1, 1, 1, 0, 1, 0] [] R) (yi8 b0 b1 b2 (false, 0, s0, i0, i1, 0, 0, 0, 0)) a0) :
 CR pP 170 #[(.pointer (some ⟨b0, 0, none⟩))] w R :=
 ybV Tryz.wide_mixed (an := yu8) Tryz.func170 rfl rfl (by kernel_rfl) rfl hb (Eq.mpr (by kernel_rfl) h)
def ys2 : LA := ⟨[0, 0, 1, 0, 1, 1, 1, 1], [4, 7, 8, 9, 10], [(4, 0, 0), (7, 1, 0), (8, 2, 0), (9, 3, 0)], 4, [1]⟩
def yvA : List LA := [ys2]
abbrev yJA := dnF pP yvA (code Tryz.f169)
abbrev yLV := yaN pP yvA (code Tryz.f169)
abbrev yJB (p : List Nat) (K : List Kh) (R : VWP) := yaN pP yvA (code Tryz.f169) p K (ya4 pP Tryz.f169 [] R)
def ymM (bm0 bm1 bm2 : Nat) (a6 a7 a8 a9 : Int) (bm3 : Nat) (b0 b1 b2 : Int) : Int × ByteArray × Int × Int × (Option Addr) × Nat × Nat → List Value × List TB := fun (b3, a3, a4, a5, a0, a2, a1) => ([(.pointer (some ⟨bm0, 0, none⟩)), (.pointer (some ⟨bm1, 0, none⟩)), (.pointer (some ⟨bm2, 0, none⟩)), (.pointer (some ⟨bm3, 0, none⟩)), .int .i64 b3], [⟨bm0, 46, [.int .i64 0, .int .i64 0, .int .i64 0, .slice none 0 0], false⟩, ⟨bm1, 181, [.string a3, .int .i64 a4, .int .i64 a5], true⟩, ⟨bm2, 205, [.int .i64 a6, .int .i64 a7, .int .i64 a8, .int .i64 a9], false⟩, ⟨bm3, 46, [.int .i64 b0, .int .i64 b1, .int .i64 b2, .slice a0 a2 a1], false⟩])
abbrev yEq (bm0 bm1 bm2 : Nat) (a0 a1 a2 a3 : Int) (bm3 : Nat) (a4 a5 a6 : Int) (I : Nat → Int → ByteArray → Int → Int → Option Addr → Nat → Nat → World → Prop) (m : Nat) : Kh := KG (ymM bm0 bm1 bm2 a0 a1 a2 a3 bm3 a4 a5 a6) (U7 I) m
theorem yBj {I : Nat → Int → ByteArray → Int → Int → Option Addr → Nat → Nat → World → Prop} (m' : Nat) (h1 : m' < m) (h2 : I m' i7 s0 i8 i9 q0 n4 n5 w) : KS (yEq n0 n1 n2 i0 i1 i2 i3 n3 i4 i5 i6 I m) (ymM n0 n1 n2 i0 i1 i2 i3 n3 i4 i5 i6 (i7, s0, i8, i9, q0, n4, n5)) w := ⟨m', h1, _, rfl, rfl, h2⟩
theorem yBk (I : Nat → Int → ByteArray → Int → Int → Option Addr → Nat → Nat → World → Prop) (m0 : Nat) (h0 : I m0 i7 s0 i8 i9 q0 n4 n5 w0)
 (hr : ∀ m b3 a2 a1 a0 a3 a5 a4 w, I m b3 a2 a1 a0 a3 a5 a4 w →
 w.heap[n1]? = some (.cells (Z2 a2 a1 a0) 181) →
 brB (a0 == 0) (
 brB (decide (b3 < i3)) (
 ∀ c0, Adv [] [] w c0 → c0.heap[n1]? = some (.cells (Z2 a2 a1 a0) 181) →
 Calls pP 132 #[(.pointer (some ⟨n1, 0, none⟩))] c0 fun e c3 => ∃ d3 d1 d4 d2, e = .returned (.agg (Z7 d3 d1 d4 d2)) ∧ yaR [n1] [(n0, 46), (n2, 205), (n3, 46)] [n0, n2, n3] c0 c3 ∧ ∃ c2 c9 d0, c3.heap[n1]? = some (.cells (Z2 c2 c9 d0) 181) ∧ (((.slice a3 a5 a4) : Value) = (.slice a3 a5 a4)) ∧
 al c3 (.cells (Z7 d3 d1 d4 d2) 53) fun d8 d5 =>
 ycR pP (Builtin.append_ #[44, 44] 44 #[.slice a3 a5 a4, (.slice (some ⟨d8, 0, none⟩) 1 1)]) d5 fun d7 e0 d9 d6 => yaD [n0, n1, n2, n3] d5 d6 ∧
 ∀ c4, Adv [n3] [] d6 c4 → c4.heap[n1]? = some (.cells (Z2 c2 c9 d0) 181) →
 KS (yEq n0 n1 n2 i0 i1 i2 i3 n3 i4 i5 i6 I m) (ymM n0 n1 n2 i0 i1 i2 i3 n3 i4 i5 i6 ((IntKind.wrap .i64 (b3 + 1)), c2, c9, d0, d7, e0, d9)) c4)
 (
 brB (a0 != 0) ((((.int .i64 a0) : Value) = (.int .i64 a0)) ∧
 ∀ c5, Adv [n0] [] w c5 → c5.heap[n1]? = some (.cells (Z2 a2 a1 a0) 181) →
 R (.tuple #[(.agg (Z9 0 0 0 none 0 0)), .int .i64 0, .int .i64 a0]) c5)
 ((((.int .i64 a1) : Value) = (.int .i64 a1)) ∧
 ∀ c6, Adv [n0] [] w c6 → c6.heap[n1]? = some (.cells (Z2 a2 a1 a0) 181) →
 R (.tuple #[(.agg (Z9 i4 i5 i6 a3 a5 a4)), .int .i64 a1, .int .i64 0]) c6)))
 (
 brB (a0 != 0) ((((.int .i64 a0) : Value) = (.int .i64 a0)) ∧
 ∀ c7, Adv [n0] [] w c7 → c7.heap[n1]? = some (.cells (Z2 a2 a1 a0) 181) →
 R (.tuple #[(.agg (Z9 0 0 0 none 0 0)), .int .i64 0, .int .i64 a0]) c7)
 ((((.int .i64 a1) : Value) = (.int .i64 a1)) ∧
 ∀ c8, Adv [n0] [] w c8 → c8.heap[n1]? = some (.cells (Z2 a2 a1 a0) 181) →
 R (.tuple #[(.agg (Z9 i4 i5 i6 a3 a5 a4)), .int .i64 a1, .int .i64 0]) c8))) :
 yaK ys2 (yJA 394 [0, 0, 1, 0, 1, 1, 1, 1]) (yJB [1, 1, 1, 1, 0, 1, 0] [] R) (ymM n0 n1 n2 i0 i1 i2 i3 n3 i4 i5 i6 (i7, s0, i8, i9, q0, n4, n5)) w0 :=
 lrule (ymM n0 n1 n2 i0 i1 i2 i3 n3 i4 i5 i6) (U7 I) h0 (by rintro m ⟨b3, a2, a1, a0, a3, a5, a4⟩ w h; exact ⟨by kernel_rfl, by kernel_rfl, fun js => Eq.mpr (by kernel_rfl) (hr m b3 a2 a1 a0 a3 a5 a4 w h)⟩)
theorem yJC {a1 : BA} (h :
 ∀ b1, w.heap.size ≤ b1 →
 ∀ b2, w.heap.size ≤ b2 →
 ∀ w3, Adv [] [b2, b1] w w3 → w3.heap[b2]? = some (.cells (Z2 a1 i0 0) 181) →
 Calls pP 170 #[(.pointer (some ⟨b2, 0, none⟩))] w3 fun e w4 => ∃ x5 x6 x7 x8, e = .returned (.agg (Z10 x5 x6 x7 x8)) ∧ yaR [b2] [(b1, 46)] [b1] w3 w4 ∧ ∃ s9 a5 a6, w4.heap[b2]? = some (.cells (Z2 s9 a5 a6) 181) ∧
 ∀ a2, w4.heap.size ≤ a2 →
 ∀ a3, w4.heap.size ≤ a3 →
 ∀ a4, Adv [] [a3, a2] w4 a4 → a4.heap[b2]? = some (.cells (Z2 s9 a5 a6) 181) →
 yaK ys2 (yJA 394 [0, 0, 1, 0, 1, 1, 1, 1]) (yJB [1, 1, 1, 1, 0, 1, 0] [] R) (ymM b1 b2 a2 x5 x6 x7 x8 a3 x5 x6 x7 (0, s9, a5, a6, none, 0, 0)) a4) :
 CR pP 169 #[.string a1, .int .i64 i0] w R :=
 yaA Tryz.wide_mixed (an := yvA) Tryz.func169 rfl rfl (by kernel_rfl) rfl (Eq.mpr (by kernel_rfl) h)
theorem yJD {a3 : BA} (h :
 ∀ b1, w.heap.size ≤ b1 →
 ∀ b2, w.heap.size ≤ b2 →
 ∀ w3, Adv [] [b2, b1] w w3 → w3.heap[b2]? = some (.cells (Z2 a3 i0 0) 181) →
 Calls pP 132 #[(.pointer (some ⟨b2, 0, none⟩))] w3 fun e w4 => ∃ t5 s6 t7 s8, e = .returned (.agg (Z7 t5 s6 t7 s8)) ∧ yaR [b2] [(b1, 53)] [b1] w3 w4 ∧ ∃ s9 a1 a0, w4.heap[b2]? = some (.cells (Z2 s9 a1 a0) 181) ∧
 ∀ a4, w4.heap.size ≤ a4 →
 brB (a0 != 0) ((((.int .i64 a0) : Value) = (.int .i64 a0)) ∧
 ∀ a5, Adv [b1] [a4] w4 a5 → a5.heap[b2]? = some (.cells (Z2 s9 a1 a0) 181) →
 R (.tuple #[(.agg (Z7 false ByteArray.empty false ByteArray.empty)), .int .i64 0, .int .i64 a0]) a5)
 ((((.int .i64 a1) : Value) = (.int .i64 a1)) ∧
 ∀ a6, Adv [b1] [a4] w4 a6 → a6.heap[b2]? = some (.cells (Z2 s9 a1 a0) 181) →
 R (.tuple #[(.agg (Z7 t5 s6 t7 s8)), .int .i64 a1, .int .i64 0]) a6)) :
 CR pP 113 #[.string a3, .int .i64 i0] w R :=
 yaA Tryz.wide_mixed (an := []) Tryz.func113 rfl rfl (by kernel_rfl) rfl (Eq.mpr (by kernel_rfl) h)
end
def ycM (b : PBatch) : List Nat := [b.prod.toNat, b.epoch.toNat, b.seq.toNat, b.recs.length]
def yd0 (b : PBatch) : List UInt8 := (ycM b).flatMap yaJ ++ b.recs.flatMap ygS
structure BatGood (b : PBatch) : Prop where
 hd : 0 ≤ b.prod ∧ b.prod ≤ 1099511627776 ∧ 0 ≤ b.epoch ∧ b.epoch ≤ 1099511627776 ∧ 0 ≤ b.seq ∧ b.seq ≤ 1099511627776
 r : ∀ x ∈ b.recs, ygB x = 0
 lr : 1 ≤ b.recs.length ∧ b.recs.length ≤ 16
theorem BatGood.of {b : PBatch} (h : ybH b = 0) : BatGood b := by
 unfold ybH at h
 split at h
 ·omega
 rename_i h1
 split at h
 ·omega
 split at h
 ·omega
 rename_i h2 h3
 have h1 := Bool.not_eq_false _ ▸ h1
 simp only [Bool.and_eq_true] at h1
 have nb : ∀ {x : Int}, num x = true → 0 ≤ x ∧ x ≤ 1099511627776 := fun h => by simpa [num] using h
 have a1 := nb h1.1.1
 have a2 := nb h1.1.2
 have a3 := nb h1.2
 refine ⟨by omega, fun x hx => ?_, by omega⟩
 split at h
 ·rename_i hn
  have := List.find?_eq_none.1 hn x hx
  simpa using this
 ·rename_i r hr
  have := List.find?_some hr
  simp [h] at this
theorem BatGood.le {b : PBatch} (h : BatGood b) : ∀ x ∈ ycM b, x ≤ 1099511627776 := by
 intro x hx
 have := h.hd
 have := h.lr
 simp [ycM] at hx
 omega
theorem BatGood.len1 {b : PBatch} (h : BatGood b) (k : Nat) : (((ycM b).take k).flatMap yaJ).length ≤ 40 := by
 have := ydY (f := yaJ) (c := 10) (l := (ycM b).take k) fun x hx => (yaL x (by have := h.le x (List.mem_of_mem_take hx); omega)).2
 have e : ((ycM b).take k).length ≤ 4 := by rw [List.length_take]; simp [ycM]; omega
 omega
theorem BatGood.len2 {b : PBatch} (h : BatGood b) (k : Nat) : ((b.recs.take k).flatMap ygS).length ≤ 9600 := by
 have := ydY (f := ygS) (c := 600) (l := b.recs.take k) fun x hx => yhL (h.r x (List.mem_of_mem_take hx))
 have e : (b.recs.take k).length ≤ 16 := by rw [List.length_take]; have := h.lr; omega
 omega
theorem BatGood.len {b : PBatch} (h : BatGood b) : (yd0 b).length ≤ 10000 ∧ 1 ≤ (yd0 b).length := by
 have h1 := h.len1 4
 have h2 := h.len2 b.recs.length
 have e : (ycM b).take 4 = ycM b := List.take_of_length_le (by simp [ycM])
 rw [e] at h1
 rw [List.take_length] at h2
 have h3 := (yaL b.recs.length (by have := h.lr; omega)).1
 have h4 : (yaJ b.recs.length).length ≤ ((ycM b).flatMap yaJ).length := by simp [ycM]; omega
 unfold yd0; rw [List.length_append]; omega
theorem yDo {w : World} {b : PBatch} {rs : Sl} (h : ycQ w 4 yg2 rs.a rs.n b.recs) (hl : b.recs.length ≤ 1000000) :
  Calls pP 162 #[b.v rs] w fun e w' => e = .returned (.tuple #[.string (if ybH b = 0 then bs (yd0 b) else bs []), .int .i64 (ybH b)]) ∧ Mod [] w w' := by
 refine yaP (yJs ?_)
 intro b1 f1 w1 A1
 have l1 := A1.lt b1 (by simp)
 refine (yqV (b := b) (rs := rs) (h.keep0 A1.mod) hl).mono ?_
 rintro e w2 ⟨rfl, M2⟩
 refine ⟨_, rfl, yaD.of0 M2, ?_⟩
 have N2 := A1.mod.go0 M2 (by simp)
 have s2 := N2.size
 have s2' := M2.size
 refine yaB (fun g1 => ?_) fun g1 => ?_
 ·have g : ¬ ybH b = 0 := by simpa using g1
  rw [if_neg g]; exact ⟨rfl, N2⟩
 have g : ybH b = 0 := by simpa using g1
 have G := BatGood.of g
 have hhd := G.hd
 have hlr := G.lr
 intro b3 f3 w3 A3
 have l3 := A3.lt b3 (by simp)
 refine ydO fun b4 w4 c4 M4 f4 => ?_
 intro w5 A5 hb5
 have s3 := A3.mod.size
 have s4 := M4.size
 have s5 := A5.mod.size
 have M5 := (A3.mod.go0 M4 (by simp)).go0 A5.mod (by simp)
 have c5 := A5.mod.keep0 c4
 have hbd : Sb w2.heap.size b3 [] w5 := Sb.fresh f3 hb5
 have hne : b4 ≠ b3 := by omega
 have Wr0 : Wr w2.heap.size b3 w2 w5 := Wr.of0 M5 (Nat.le_refl _)
 have mod0 : ∀ {w'}, Wr w2.heap.size b3 w5 w' → Mod [] w w' := fun W => (Wr0.trans W).mod N2 s2
 have hcell : ∀ {w' : World}, Wr w2.heap.size b3 w5 w' → ycQ w' 1 yGW (some ⟨b4, 0, none⟩) 4 (ycM b) := fun {w'} W => by
  have c6 := W.keep c5 hne (by decide)
  refine ⟨rfl, fun i x hx => ⟨_, rfl, fun j v hv => ?_⟩⟩
  have hj : j = 0 := by have := (List.getElem?_eq_some_iff.1 hv).1; simp [yGW] at this; omega
  subst hj
  rw [ya5, ya5, ya1 c6]
  simp [yGW] at hv
  subst hv
  have hi := (List.getElem?_eq_some_iff.1 hx).1
  simp [ycM] at hi
  have e4 := h.1
  match i, hi, hx with
  | 0, _, hx => simp [ycM] at hx; subst hx; simp; omega
  | 1, _, hx => simp [ycM] at hx; subst hx; simp; omega
  | 2, _, hx => simp [ycM] at hx; subst hx; simp; omega
  | 3, _, hx => simp [ycM] at hx; subst hx; simp; omega
 refine yBf (fun mm x p0 a0 n0 c0 w' => ∃ k : Nat, x = k ∧ k ≤ 4 ∧ Sb w2.heap.size b3 (((ycM b).take k).flatMap yaJ) w' ∧ Wr w2.heap.size b3 w5 w' ∧ mm = 4 - k) 4 ⟨0, rfl, by omega, by simpa using hbd, Wr.of0 (Mod.refl _) (by omega), rfl⟩ ?_
 rintro mm x p0 a0 n0 c0 w6 ⟨k, rfl, hk, hB6, W6, rfl⟩ hc6
 have s6 := W6.bel.size
 refine yaC (fun hlt => ?_) fun hge => ?_
 ·obtain ⟨x, hx⟩ : ∃ x, (ycM b)[k]? = some x := ⟨_, List.getElem?_eq_getElem (by simp [ycM]; omega)⟩
  have hx2 := G.le x (List.mem_of_getElem? hx)
  refine (hcell W6).ix hx fun q hq => yaF (x := (x : Nat)) (by simpa [add_zero] using hq 0 _ rfl) ?_
  rw [ydJ (by omega)]
  refine (ykC x (by omega) w6).mono ?_
  rintro e w7 ⟨rfl, M7⟩
  have hB7 := hB6.keep0 M7
  have s7 := M7.size
  obtain ⟨p7, a7, n7, c7, hc7⟩ := Sb.cells hB7
  refine ⟨_, rfl, yaD.of0 M7, p7, a7, n7, c7, hc7, ?_⟩
  refine (yBd (l2 := yaJ x) hB7 (by have := G.len1 k; have := yaL x (by omega); omega) (by omega)).mono ?_
  rintro e w8 ⟨rfl, hB8, W8⟩
  obtain ⟨p8, a8, n8, c8, hc8⟩ := Sb.cells hB8
  refine ⟨_, _, rfl, W8.keepE fun k hk he => ?_, p8, a8, n8, c8, hc8, ?_⟩
  ·simp at hk he; omega
  refine yBe (4 - (k + 1)) (by omega) ⟨k + 1, by rw [yaG (by omega) (by omega)]; omega, by omega, ?_, (W6.trans (Wr.of0 M7 (by omega))).trans W8, rfl⟩
  rw [ya9 hx]
  exact hB8
 have hk4 : k = 4 := by omega
 subst hk4
 have e1 : (ycM b).take 4 = ycM b := List.take_of_length_le (by simp [ycM])
 have len1 := G.len1 4
 rw [e1] at hB6 len1
 have e4 := h.1
 refine yBh (fun mm x p0 a0 n0 c0 w' => ∃ k : Nat, x = k ∧ k ≤ b.recs.length ∧ Sb w2.heap.size b3 ((ycM b).flatMap yaJ ++ (b.recs.take k).flatMap ygS) w' ∧ Wr w2.heap.size b3 w5 w' ∧ mm = b.recs.length - k) b.recs.length ⟨0, rfl, by omega, by simpa using hB6, W6, rfl⟩ ?_
 clear hB6 W6 hc6 s6
 rintro mm x p0 a0 n0 c0 w6 ⟨k, rfl, hk, hB6, W6, rfl⟩ hc6
 have s6 := W6.bel.size
 have len2 := G.len2 k
 refine yaC (fun hlt => ?_) fun hge => ?_
 ·obtain ⟨x, hx⟩ : ∃ x, b.recs[k]? = some x := ⟨_, List.getElem?_eq_getElem (by omega)⟩
  have hx2 := G.r x (List.mem_of_getElem? hx)
  refine (h.keep0 (mod0 W6)).ix hx fun q hq => yaO (by simpa [add_zero] using hq 0 _ rfl) (yaI (hq 1 _ rfl) (yaO (hq 2 _ rfl) (yaI (hq 3 _ rfl) ?_)))
  intro b7 f7 w7 A7 hb7
  have s7 := A7.mod.size
  refine (yAf x hx2 w7).mono ?_
  rintro e w8 ⟨rfl, M8⟩
  have hB8 := (hB6.keep0 A7.mod).keep0 M8
  have s8 := M8.size
  obtain ⟨p8, a8, n8, c8, hc8⟩ := Sb.cells hB8
  refine ⟨_, rfl, yaD.of0 M8, p8, a8, n8, c8, hc8, ?_⟩
  refine (yBd (l2 := ygS x) hB8 (by rw [List.length_append]; have := yhL hx2; omega) (by omega)).mono ?_
  rintro e w9 ⟨rfl, hB9, W9⟩
  obtain ⟨p9, a9, n9, c9, hc9⟩ := Sb.cells hB9
  refine ⟨_, _, rfl, W9.keepE fun k hk he => ?_, p9, a9, n9, c9, hc9, ?_⟩
  ·simp at hk he
   rcases hk with rfl | rfl
   ·omega
   ·exact ⟨he, .inr ⟨_, by simp; exact .inr rfl, by decide⟩⟩
  refine yBg (b.recs.length - (k + 1)) (by omega) ⟨k + 1, by rw [yaG (by omega) (by omega)]; omega, by omega, ?_, (W6.trans ((Wr.of0 A7.mod (by omega)).trans (Wr.of0 M8 (by omega)))).trans W9, rfl⟩
  rw [ya9 hx, ← List.append_assoc]
  exact hB9
 ·have hk : k = b.recs.length := by omega
  subst hk
  rw [List.take_length] at hB6
  have hlen := G.len
  refine (yFJ (l := yd0 b) hB6 (by intro h; rw [h] at hlen; simp at hlen)).mono ?_
  rintro e w7 ⟨rfl, hB7, W7⟩
  obtain ⟨p7, a7, n7, c7, hc7⟩ := Sb.cells hB7
  refine ⟨_, rfl, W7.keepE fun k hk he => ?_, p7, a7, n7, c7, hc7, ?_, mod0 (W6.trans W7)⟩
  ·simp at hk he; omega
  rw [if_pos g, g]
section
set_option maxRecDepth 100000
variable {R : VWP} {w w0 : World} {m : Nat} {i0 i1 i2 i3 i4 i5 i6 i7 i8 i9 j0 j1 j2 j3 j4 j5 j6 j7 j8 j9 k0 k1 k2 k3 k4 k5 k6 k7 k8 k9 l0 l1 l2 l3 l4 l5 l6 l7 l8 l9 : Int} {s0 s1 s2 s3 s4 s5 s6 s7 s8 s9 t0 t1 t2 t3 t4 t5 t6 t7 t8 t9 : BA} {n0 n1 n2 n3 n4 n5 n6 n7 n8 n9 o0 o1 o2 o3 o4 o5 o6 o7 o8 o9 p0 p1 p2 p3 p4 p5 p6 p7 p8 p9 : Nat} {q0 q1 q2 q3 q4 q5 q6 q7 q8 q9 r0 r1 r2 r3 r4 r5 r6 r7 r8 r9 : OA} {B0 B1 B2 B3 B4 B5 B6 B7 B8 B9 : Bool} {M0 M1 M2 M3 : Option Nat} {V0 V1 V2 V3 V4 V5 : Value} {A0 A1 A2 : Addr}
theorem yJE (h :
 ∀ b1, w.heap.size ≤ b1 →
 ∀ w2, Adv [] [b1] w w2 →
 yaX w2 A1 fun t3 =>
 brB t3 (
 ∀ w4, Adv [b1] [] w2 w4 → w4.heap[b1]? = some (.cells #[.int .i64 1] 3) →
 Calls pP 58 #[(.pointer (some A0)), (.pointer (some ⟨b1, 0, none⟩))] w4 fun e w5 => e = .returned (.tuple #[]) ∧ ∃ x6, w5.heap[b1]? = some (.cells #[.int .i64 x6] 3) ∧
 R (.tuple #[]) w5)
 (
 ∀ w7, Adv [] [] w2 w7 → w7.heap[b1]? = some (.cells #[.int .i64 0] 3) →
 Calls pP 58 #[(.pointer (some A0)), (.pointer (some ⟨b1, 0, none⟩))] w7 fun e w8 => e = .returned (.tuple #[]) ∧ ∃ x9, w8.heap[b1]? = some (.cells #[.int .i64 x9] 3) ∧
 R (.tuple #[]) w8)) :
 CR pP 159 #[(.pointer (some A0)), (.pointer (some A1))] w R :=
 yaA Tryz.wide_mixed (an := []) Tryz.func159 rfl rfl (by kernel_rfl) rfl (Eq.mpr (by kernel_rfl) h)
theorem yJF (h :
 yaH .i64 w A1 fun x1 => yaH .i64 w (Addr.add A1 1) fun x2 => yaH .i64 w (Addr.add A1 2) fun x3 => yaY w (Addr.add A1 3) fun a4 n5 c6 =>
 Calls pP 162 #[(.agg (Z9 x1 x2 x3 a4 n5 c6))] w fun e w7 => ∃ s8 x9, e = .returned (.tuple #[.string s8, .int .i64 x9]) ∧
 Calls pP 23 #[(.pointer (some A0)), .string s8] w7 fun e a3 => ∃ a5 a2, e = .returned (.tuple #[.int .i64 a5, a2]) ∧
 R (.tuple #[]) a3) :
 CR pP 158 #[(.pointer (some A0)), (.pointer (some A1))] w R :=
 yaA Tryz.wide_mixed (an := []) Tryz.func158 rfl rfl (by kernel_rfl) rfl (Eq.mpr (by kernel_rfl) h)
def ys3 : LA := ⟨[0, 0, 1, 1, 1], [0, 15, 16, 17], [], 1, [0]⟩
def yvB : List LA := [ys3]
abbrev yJG := dnF pP yvB (code Tryz.f161)
abbrev yLW := yaN pP yvB (code Tryz.f161)
abbrev yJH (p : List Nat) (K : List Kh) (R : VWP) := yaN pP yvB (code Tryz.f161) p K (ya4 pP Tryz.f161 [] R)
def ymN (a6 : Addr) (a1 : OA) (a3 a2 : Nat) (a4 : Int) (bm0 : Nat) : Int × Int → List Value × List TB := fun (a5, a0) => ([(.pointer (some a6)), .slice a1 a3 a2, .int .i64 a4, .int .i64 a5], [⟨bm0, 3, [.int .i64 a0], true⟩])
abbrev yEr (a4 : Addr) (a0 : OA) (a2 a1 : Nat) (a3 : Int) (bm0 : Nat) (I : Nat → Int → Int → World → Prop) (m : Nat) : Kh := KG (ymN a4 a0 a2 a1 a3 bm0) (U2 I) m
theorem yBl {I : Nat → Int → Int → World → Prop} (m' : Nat) (h1 : m' < m) (h2 : I m' i1 i2 w) : KS (yEr A0 q0 n0 n1 i0 n2 I m) (ymN A0 q0 n0 n1 i0 n2 (i1, i2)) w := ⟨m', h1, _, rfl, rfl, h2⟩
theorem yBm (I : Nat → Int → Int → World → Prop) (m0 : Nat) (h0 : I m0 i1 i2 w0)
 (hr : ∀ m a1 a0 w, I m a1 a0 w →
 w.heap[n2]? = some (.cells #[.int .i64 a0] 3) →
 brB (decide (a1 < i0)) (
 ixA q0 n0 a1 1 fun b3 =>
 yaT w b3 fun b4 =>
 ∀ a7, w.heap.size ≤ a7 →
 ∀ a9, Adv [] [a7] w a9 → a9.heap[n2]? = some (.cells #[.int .i64 a0] 3) →
 a9.heap[a7]? = some (.cells #[.string b4] 9) →
 Calls pP 160 #[(.pointer (some A0)), (.pointer (some ⟨a7, 0, none⟩))] a9 fun e b1 => e = .returned (.tuple #[]) ∧ ∃ b2, b1.heap[n2]? = some (.cells #[.int .i64 b2] 3) ∧ ∃ b5, b1.heap[a7]? = some (.cells #[.string b5] 9) ∧
 KS (yEr A0 q0 n0 n1 i0 n2 I m) (ymN A0 q0 n0 n1 i0 n2 ((IntKind.wrap .i64 (a1 + 1)), b2)) b1)
 (
 R (.tuple #[]) w)) :
 yaK ys3 (yJG 396 [0, 0, 1, 1, 1]) (yJH [1, 1, 1, 0] [] R) (ymN A0 q0 n0 n1 i0 n2 (i1, i2)) w0 :=
 lrule (ymN A0 q0 n0 n1 i0 n2) (U2 I) h0 (by rintro m ⟨a1, a0⟩ w h; exact ⟨by kernel_rfl, by kernel_rfl, fun js => Eq.mpr (by kernel_rfl) (hr m a1 a0 w h)⟩)
theorem yJI (h :
 yaY w A1 fun a1 n2 c3 =>
 ∀ b4, w.heap.size ≤ b4 →
 ∀ w5, Adv [] [b4] w w5 → w5.heap[b4]? = some (.cells #[(.int .i64 (n2 : Int))] 3) →
 Calls pP 58 #[(.pointer (some A0)), (.pointer (some ⟨b4, 0, none⟩))] w5 fun e w6 => e = .returned (.tuple #[]) ∧ ∃ x7, w6.heap[b4]? = some (.cells #[.int .i64 x7] 3) ∧
 yaY w6 A1 fun a8 n9 a3 =>
 yaK ys3 (yJG 396 [0, 0, 1, 1, 1]) (yJH [1, 1, 1, 0] [] R) (ymN A0 a8 n9 a3 (n9 : Int) b4 (0, x7)) w6) :
 CR pP 161 #[(.pointer (some A0)), (.pointer (some A1))] w R :=
 yaA Tryz.wide_mixed (an := yvB) Tryz.func161 rfl rfl (by kernel_rfl) rfl (Eq.mpr (by kernel_rfl) h)
theorem yJJ (h :
 ∀ w1, Adv [] [] w w1 →
 Calls pP 160 #[(.pointer (some A1)), (.pointer (some A0))] w1 fun e w2 => e = .returned (.tuple #[]) ∧
 ∀ w3, Adv [] [] w2 w3 →
 Calls pP 58 #[(.pointer (some A1)), (.pointer (some (Addr.add A0 1)))] w3 fun e w4 => e = .returned (.tuple #[]) ∧
 R (.tuple #[]) w4) :
 CR pP 60 #[(.iface 101 (.pointer (some A1))), (.pointer (some A0))] w R :=
 yaA Tryz.wide_mixed (an := []) Tryz.func60 rfl rfl (by kernel_rfl) rfl (Eq.mpr (by kernel_rfl) h)
theorem yJK (h :
 ∀ w1, Adv [] [] w w1 →
 Calls pP 160 #[(.pointer (some A1)), (.pointer (some (Addr.add A0 9)))] w1 fun e w2 => e = .returned (.tuple #[]) ∧
 ∀ w3, Adv [] [] w2 w3 →
 Calls pP 160 #[(.pointer (some A1)), (.pointer (some (Addr.add A0 10)))] w3 fun e w4 => e = .returned (.tuple #[]) ∧
 R (.tuple #[]) w4) :
 CR pP 118 #[(.iface 101 (.pointer (some A1))), (.pointer (some A0))] w R :=
 yaA Tryz.wide_mixed (an := []) Tryz.func118 rfl rfl (by kernel_rfl) rfl (Eq.mpr (by kernel_rfl) h)
theorem yJL (h :
 yaH .i64 w A0 fun x1 =>
 brB (x1 == 0) (
 ∀ w2, Adv [] [] w w2 →
 Calls pP 160 #[(.pointer (some A1)), (.pointer (some (Addr.add A0 1)))] w2 fun e w3 => e = .returned (.tuple #[]) ∧
 ∀ w4, Adv [] [] w3 w4 →
 Calls pP 58 #[(.pointer (some A1)), (.pointer (some (Addr.add A0 3)))] w4 fun e w5 => e = .returned (.tuple #[]) ∧
 R (.tuple #[]) w5)
 (
 brB (x1 == 1) (
 brB (x1 == 1) (
 ∀ w6, Adv [] [] w w6 →
 Calls pP 58 #[(.pointer (some A1)), (.pointer (some (Addr.add A0 3)))] w6 fun e w7 => e = .returned (.tuple #[]) ∧
 R (.tuple #[]) w7)
 (
 brB (x1 == 2) (
 Calls pP 60 #[(.iface 101 (.pointer (some A1))), (.pointer (some (Addr.add A0 1)))] w fun e w8 => e = .returned (.tuple #[]) ∧
 ∀ w9, Adv [] [] w8 w9 →
 Calls pP 158 #[(.pointer (some A1)), (.pointer (some (Addr.add A0 5)))] w9 fun e f3 => e = .returned (.tuple #[]) ∧
 R (.tuple #[]) f3)
 (
 brB (x1 == 3) (
 Calls pP 60 #[(.iface 101 (.pointer (some A1))), (.pointer (some (Addr.add A0 1)))] w fun e f4 => e = .returned (.tuple #[]) ∧
 ∀ a9, Adv [] [] f4 a9 →
 Calls pP 58 #[(.pointer (some A1)), (.pointer (some (Addr.add A0 4)))] a9 fun e f5 => e = .returned (.tuple #[]) ∧
 ∀ b0, Adv [] [] f5 b0 →
 Calls pP 58 #[(.pointer (some A1)), (.pointer (some (Addr.add A0 3)))] b0 fun e f6 => e = .returned (.tuple #[]) ∧
 R (.tuple #[]) f6)
 (
 brB (x1 == 4) (
 Calls pP 60 #[(.iface 101 (.pointer (some A1))), (.pointer (some (Addr.add A0 1)))] w fun e f7 => e = .returned (.tuple #[]) ∧
 ∀ b1, Adv [] [] f7 b1 →
 Calls pP 58 #[(.pointer (some A1)), (.pointer (some (Addr.add A0 4)))] b1 fun e f8 => e = .returned (.tuple #[]) ∧
 R (.tuple #[]) f8)
 (
 brB (x1 == 5) (
 Calls pP 60 #[(.iface 101 (.pointer (some A1))), (.pointer (some (Addr.add A0 1)))] w fun e f9 => e = .returned (.tuple #[]) ∧
 R (.tuple #[]) f9)
 (
 brB (x1 == 6) (
 Calls pP 118 #[(.iface 101 (.pointer (some A1))), (.pointer (some A0))] w fun e g0 => e = .returned (.tuple #[]) ∧
 ∀ b2, Adv [] [] g0 b2 →
 Calls pP 58 #[(.pointer (some A1)), (.pointer (some (Addr.add A0 3)))] b2 fun e g1 => e = .returned (.tuple #[]) ∧
 ∀ b3, Adv [] [] g1 b3 →
 Calls pP 159 #[(.pointer (some A1)), (.pointer (some (Addr.add A0 12)))] b3 fun e g2 => e = .returned (.tuple #[]) ∧
 ∀ b4, Adv [] [] g2 b4 →
 Calls pP 161 #[(.pointer (some A1)), (.pointer (some (Addr.add A0 13)))] b4 fun e g3 => e = .returned (.tuple #[]) ∧
 R (.tuple #[]) g3)
 (
 brB (x1 == 7) (
 brB (x1 == 7) (
 Calls pP 118 #[(.iface 101 (.pointer (some A1))), (.pointer (some A0))] w fun e g4 => e = .returned (.tuple #[]) ∧
 ∀ b5, Adv [] [] g4 b5 →
 Calls pP 58 #[(.pointer (some A1)), (.pointer (some (Addr.add A0 11)))] b5 fun e g5 => e = .returned (.tuple #[]) ∧
 R (.tuple #[]) g5)
 (
 brB (x1 == 10) (
 Calls pP 118 #[(.iface 101 (.pointer (some A1))), (.pointer (some A0))] w fun e g6 => e = .returned (.tuple #[]) ∧
 ∀ b6, Adv [] [] g6 b6 →
 Calls pP 58 #[(.pointer (some A1)), (.pointer (some (Addr.add A0 11)))] b6 fun e g7 => e = .returned (.tuple #[]) ∧
 Calls pP 60 #[(.iface 101 (.pointer (some A1))), (.pointer (some (Addr.add A0 1)))] g7 fun e g8 => e = .returned (.tuple #[]) ∧
 ∀ b7, Adv [] [] g8 b7 →
 Calls pP 58 #[(.pointer (some A1)), (.pointer (some (Addr.add A0 4)))] b7 fun e g9 => e = .returned (.tuple #[]) ∧
 R (.tuple #[]) g9)
 (
 brB (x1 == 11) (
 ∀ b8, Adv [] [] w b8 →
 Calls pP 160 #[(.pointer (some A1)), (.pointer (some (Addr.add A0 9)))] b8 fun e h0 => e = .returned (.tuple #[]) ∧
 Calls pP 60 #[(.iface 101 (.pointer (some A1))), (.pointer (some (Addr.add A0 1)))] h0 fun e h1 => e = .returned (.tuple #[]) ∧
 R (.tuple #[]) h1)
 (
 R (.tuple #[]) w))))
 (
 brB (x1 == 8) (
 brB (x1 == 8) (
 Calls pP 118 #[(.iface 101 (.pointer (some A1))), (.pointer (some A0))] w fun e h2 => e = .returned (.tuple #[]) ∧
 ∀ b9, Adv [] [] h2 b9 →
 Calls pP 58 #[(.pointer (some A1)), (.pointer (some (Addr.add A0 11)))] b9 fun e h3 => e = .returned (.tuple #[]) ∧
 R (.tuple #[]) h3)
 (
 brB (x1 == 10) (
 Calls pP 118 #[(.iface 101 (.pointer (some A1))), (.pointer (some A0))] w fun e h4 => e = .returned (.tuple #[]) ∧
 ∀ c0, Adv [] [] h4 c0 →
 Calls pP 58 #[(.pointer (some A1)), (.pointer (some (Addr.add A0 11)))] c0 fun e h5 => e = .returned (.tuple #[]) ∧
 Calls pP 60 #[(.iface 101 (.pointer (some A1))), (.pointer (some (Addr.add A0 1)))] h5 fun e h6 => e = .returned (.tuple #[]) ∧
 ∀ c1, Adv [] [] h6 c1 →
 Calls pP 58 #[(.pointer (some A1)), (.pointer (some (Addr.add A0 4)))] c1 fun e h7 => e = .returned (.tuple #[]) ∧
 R (.tuple #[]) h7)
 (
 brB (x1 == 11) (
 ∀ c2, Adv [] [] w c2 →
 Calls pP 160 #[(.pointer (some A1)), (.pointer (some (Addr.add A0 9)))] c2 fun e h8 => e = .returned (.tuple #[]) ∧
 Calls pP 60 #[(.iface 101 (.pointer (some A1))), (.pointer (some (Addr.add A0 1)))] h8 fun e h9 => e = .returned (.tuple #[]) ∧
 R (.tuple #[]) h9)
 (
 R (.tuple #[]) w))))
 (
 brB (x1 == 9) (
 Calls pP 118 #[(.iface 101 (.pointer (some A1))), (.pointer (some A0))] w fun e u0 => e = .returned (.tuple #[]) ∧
 ∀ c3, Adv [] [] u0 c3 →
 Calls pP 58 #[(.pointer (some A1)), (.pointer (some (Addr.add A0 11)))] c3 fun e u1 => e = .returned (.tuple #[]) ∧
 R (.tuple #[]) u1)
 (
 brB (x1 == 10) (
 Calls pP 118 #[(.iface 101 (.pointer (some A1))), (.pointer (some A0))] w fun e u2 => e = .returned (.tuple #[]) ∧
 ∀ c4, Adv [] [] u2 c4 →
 Calls pP 58 #[(.pointer (some A1)), (.pointer (some (Addr.add A0 11)))] c4 fun e u3 => e = .returned (.tuple #[]) ∧
 Calls pP 60 #[(.iface 101 (.pointer (some A1))), (.pointer (some (Addr.add A0 1)))] u3 fun e u4 => e = .returned (.tuple #[]) ∧
 ∀ c5, Adv [] [] u4 c5 →
 Calls pP 58 #[(.pointer (some A1)), (.pointer (some (Addr.add A0 4)))] c5 fun e u5 => e = .returned (.tuple #[]) ∧
 R (.tuple #[]) u5)
 (
 brB (x1 == 11) (
 ∀ c6, Adv [] [] w c6 →
 Calls pP 160 #[(.pointer (some A1)), (.pointer (some (Addr.add A0 9)))] c6 fun e u6 => e = .returned (.tuple #[]) ∧
 Calls pP 60 #[(.iface 101 (.pointer (some A1))), (.pointer (some (Addr.add A0 1)))] u6 fun e u7 => e = .returned (.tuple #[]) ∧
 R (.tuple #[]) u7)
 (
 R (.tuple #[]) w))))))))))))
 (
 brB (x1 == 12) (
 ∀ c7, Adv [] [] w c7 →
 Calls pP 58 #[(.pointer (some A1)), (.pointer (some (Addr.add A0 3)))] c7 fun e u9 => e = .returned (.tuple #[]) ∧
 R (.tuple #[]) u9)
 (
 brB (x1 == 2) (
 Calls pP 60 #[(.iface 101 (.pointer (some A1))), (.pointer (some (Addr.add A0 1)))] w fun e v0 => e = .returned (.tuple #[]) ∧
 ∀ c8, Adv [] [] v0 c8 →
 Calls pP 158 #[(.pointer (some A1)), (.pointer (some (Addr.add A0 5)))] c8 fun e v1 => e = .returned (.tuple #[]) ∧
 R (.tuple #[]) v1)
 (
 brB (x1 == 3) (
 Calls pP 60 #[(.iface 101 (.pointer (some A1))), (.pointer (some (Addr.add A0 1)))] w fun e v2 => e = .returned (.tuple #[]) ∧
 ∀ c9, Adv [] [] v2 c9 →
 Calls pP 58 #[(.pointer (some A1)), (.pointer (some (Addr.add A0 4)))] c9 fun e v3 => e = .returned (.tuple #[]) ∧
 ∀ d0, Adv [] [] v3 d0 →
 Calls pP 58 #[(.pointer (some A1)), (.pointer (some (Addr.add A0 3)))] d0 fun e v4 => e = .returned (.tuple #[]) ∧
 R (.tuple #[]) v4)
 (
 brB (x1 == 4) (
 Calls pP 60 #[(.iface 101 (.pointer (some A1))), (.pointer (some (Addr.add A0 1)))] w fun e v5 => e = .returned (.tuple #[]) ∧
 ∀ d1, Adv [] [] v5 d1 →
 Calls pP 58 #[(.pointer (some A1)), (.pointer (some (Addr.add A0 4)))] d1 fun e v6 => e = .returned (.tuple #[]) ∧
 R (.tuple #[]) v6)
 (
 brB (x1 == 5) (
 Calls pP 60 #[(.iface 101 (.pointer (some A1))), (.pointer (some (Addr.add A0 1)))] w fun e v7 => e = .returned (.tuple #[]) ∧
 R (.tuple #[]) v7)
 (
 brB (x1 == 6) (
 Calls pP 118 #[(.iface 101 (.pointer (some A1))), (.pointer (some A0))] w fun e v8 => e = .returned (.tuple #[]) ∧
 ∀ d2, Adv [] [] v8 d2 →
 Calls pP 58 #[(.pointer (some A1)), (.pointer (some (Addr.add A0 3)))] d2 fun e v9 => e = .returned (.tuple #[]) ∧
 ∀ d3, Adv [] [] v9 d3 →
 Calls pP 159 #[(.pointer (some A1)), (.pointer (some (Addr.add A0 12)))] d3 fun e w0 => e = .returned (.tuple #[]) ∧
 ∀ d4, Adv [] [] w0 d4 →
 Calls pP 161 #[(.pointer (some A1)), (.pointer (some (Addr.add A0 13)))] d4 fun e w1 => e = .returned (.tuple #[]) ∧
 R (.tuple #[]) w1)
 (
 brB (x1 == 7) (
 brB (x1 == 7) (
 Calls pP 118 #[(.iface 101 (.pointer (some A1))), (.pointer (some A0))] w fun e x0 => e = .returned (.tuple #[]) ∧
 ∀ d5, Adv [] [] x0 d5 →
 Calls pP 58 #[(.pointer (some A1)), (.pointer (some (Addr.add A0 11)))] d5 fun e x2 => e = .returned (.tuple #[]) ∧
 R (.tuple #[]) x2)
 (
 brB (x1 == 10) (
 Calls pP 118 #[(.iface 101 (.pointer (some A1))), (.pointer (some A0))] w fun e x3 => e = .returned (.tuple #[]) ∧
 ∀ d6, Adv [] [] x3 d6 →
 Calls pP 58 #[(.pointer (some A1)), (.pointer (some (Addr.add A0 11)))] d6 fun e x4 => e = .returned (.tuple #[]) ∧
 Calls pP 60 #[(.iface 101 (.pointer (some A1))), (.pointer (some (Addr.add A0 1)))] x4 fun e x5 => e = .returned (.tuple #[]) ∧
 ∀ d7, Adv [] [] x5 d7 →
 Calls pP 58 #[(.pointer (some A1)), (.pointer (some (Addr.add A0 4)))] d7 fun e x6 => e = .returned (.tuple #[]) ∧
 R (.tuple #[]) x6)
 (
 brB (x1 == 11) (
 ∀ d8, Adv [] [] w d8 →
 Calls pP 160 #[(.pointer (some A1)), (.pointer (some (Addr.add A0 9)))] d8 fun e x7 => e = .returned (.tuple #[]) ∧
 Calls pP 60 #[(.iface 101 (.pointer (some A1))), (.pointer (some (Addr.add A0 1)))] x7 fun e x8 => e = .returned (.tuple #[]) ∧
 R (.tuple #[]) x8)
 (
 R (.tuple #[]) w))))
 (
 brB (x1 == 8) (
 brB (x1 == 8) (
 Calls pP 118 #[(.iface 101 (.pointer (some A1))), (.pointer (some A0))] w fun e x9 => e = .returned (.tuple #[]) ∧
 ∀ d9, Adv [] [] x9 d9 →
 Calls pP 58 #[(.pointer (some A1)), (.pointer (some (Addr.add A0 11)))] d9 fun e y0 => e = .returned (.tuple #[]) ∧
 R (.tuple #[]) y0)
 (
 brB (x1 == 10) (
 Calls pP 118 #[(.iface 101 (.pointer (some A1))), (.pointer (some A0))] w fun e y1 => e = .returned (.tuple #[]) ∧
 ∀ a2, Adv [] [] y1 a2 →
 Calls pP 58 #[(.pointer (some A1)), (.pointer (some (Addr.add A0 11)))] a2 fun e e0 => e = .returned (.tuple #[]) ∧
 Calls pP 60 #[(.iface 101 (.pointer (some A1))), (.pointer (some (Addr.add A0 1)))] e0 fun e e1 => e = .returned (.tuple #[]) ∧
 ∀ a3, Adv [] [] e1 a3 →
 Calls pP 58 #[(.pointer (some A1)), (.pointer (some (Addr.add A0 4)))] a3 fun e e2 => e = .returned (.tuple #[]) ∧
 R (.tuple #[]) e2)
 (
 brB (x1 == 11) (
 ∀ a4, Adv [] [] w a4 →
 Calls pP 160 #[(.pointer (some A1)), (.pointer (some (Addr.add A0 9)))] a4 fun e e3 => e = .returned (.tuple #[]) ∧
 Calls pP 60 #[(.iface 101 (.pointer (some A1))), (.pointer (some (Addr.add A0 1)))] e3 fun e e4 => e = .returned (.tuple #[]) ∧
 R (.tuple #[]) e4)
 (
 R (.tuple #[]) w))))
 (
 brB (x1 == 9) (
 Calls pP 118 #[(.iface 101 (.pointer (some A1))), (.pointer (some A0))] w fun e e5 => e = .returned (.tuple #[]) ∧
 ∀ a5, Adv [] [] e5 a5 →
 Calls pP 58 #[(.pointer (some A1)), (.pointer (some (Addr.add A0 11)))] a5 fun e e6 => e = .returned (.tuple #[]) ∧
 R (.tuple #[]) e6)
 (
 brB (x1 == 10) (
 Calls pP 118 #[(.iface 101 (.pointer (some A1))), (.pointer (some A0))] w fun e e7 => e = .returned (.tuple #[]) ∧
 ∀ a6, Adv [] [] e7 a6 →
 Calls pP 58 #[(.pointer (some A1)), (.pointer (some (Addr.add A0 11)))] a6 fun e e8 => e = .returned (.tuple #[]) ∧
 Calls pP 60 #[(.iface 101 (.pointer (some A1))), (.pointer (some (Addr.add A0 1)))] e8 fun e e9 => e = .returned (.tuple #[]) ∧
 ∀ a7, Adv [] [] e9 a7 →
 Calls pP 58 #[(.pointer (some A1)), (.pointer (some (Addr.add A0 4)))] a7 fun e f0 => e = .returned (.tuple #[]) ∧
 R (.tuple #[]) f0)
 (
 brB (x1 == 11) (
 ∀ a8, Adv [] [] w a8 →
 Calls pP 160 #[(.pointer (some A1)), (.pointer (some (Addr.add A0 9)))] a8 fun e f1 => e = .returned (.tuple #[]) ∧
 Calls pP 60 #[(.iface 101 (.pointer (some A1))), (.pointer (some (Addr.add A0 1)))] f1 fun e f2 => e = .returned (.tuple #[]) ∧
 R (.tuple #[]) f2)
 (
 R (.tuple #[]) w)))))))))))))) :
 CR pP 93 #[(.iface 101 (.pointer (some A1))), (.pointer (some A0))] w R :=
 yaA Tryz.wide_mixed (an := []) Tryz.func93 rfl rfl (by kernel_rfl) rfl (Eq.mpr (by kernel_rfl) h)
theorem yJM {b0 : BA} {b9 a6 : BA} (h :
 ∀ b1, w.heap.size ≤ b1 →
 ∀ w2, Adv [] [b1] w w2 →
 Calls pP 92 #[(.agg (Z1 i0 b0 i1 i2 i3 i4 i5 i6 q0 n0 n1 b9 a6 i7 B0 q1 n2 n3))] w2 fun e w3 => ∃ x4, e = .returned (.int .i64 x4) ∧ yaD [b1] w2 w3 ∧
 brB (x4 != 0) (
 R (.tuple #[(.string (⟨#[]⟩ : BA)), .int .i64 x4]) w3)
 (
 ∀ b5, w3.heap.size ≤ b5 →
 ∀ w6, Adv [] [b5] w3 w6 → w6.heap[b1]? = some (.cells (Z1 i0 b0 i1 i2 i3 i4 i5 i6 q0 n0 n1 b9 a6 i7 B0 q1 n2 n3) 49) →
 w6.heap[b5]? = some (.cells #[.pointer none, .slice none 0 0] 103) →
 Calls pP 58 #[(.pointer (some ⟨b5, 0, none⟩)), (.pointer (some ⟨b1, 0, none⟩))] w6 fun e w7 => e = .returned (.tuple #[]) ∧ ∃ x8 s9 g4 g5 g6 g7 g8 g9 c3 e1 d2 f3 f4 h0 g1 c4 e2 d3, w7.heap[b1]? = some (.cells (Z1 x8 s9 g4 g5 g6 g7 g8 g9 c3 e1 d2 f3 f4 h0 g1 c4 e2 d3) 49) ∧ ∃ f0 c5 e3 d4, w7.heap[b5]? = some (.cells #[.pointer f0, .slice c5 e3 d4] 103) ∧
 Calls pP 93 #[(.iface 101 (.pointer (some ⟨b5, 0, none⟩))), (.pointer (some ⟨b1, 0, none⟩))] w7 fun e c0 => e = .returned (.tuple #[]) ∧ ∃ h1 f5 h2 h3 h4 h5 h6 h7 c6 e4 d5 f6 f7 h8 g2 c7 e5 d6, c0.heap[b1]? = some (.cells (Z1 h1 f5 h2 h3 h4 h5 h6 h7 c6 e4 d5 f6 f7 h8 g2 c7 e5 d6) 49) ∧ ∃ f1 c8 e6 d7, c0.heap[b5]? = some (.cells #[.pointer f1, .slice c8 e6 d7] 103) ∧
 Calls pP 27 #[(.pointer (some ⟨b5, 0, none⟩))] c0 fun e c1 => ∃ c2, e = .returned (.string c2) ∧ ∃ h9 f8 u0 u1 u2 u3 u4 u5 c9 e7 d8 f9 g0 u6 g3 d0 e8 d9, c1.heap[b1]? = some (.cells (Z1 h9 f8 u0 u1 u2 u3 u4 u5 c9 e7 d8 f9 g0 u6 g3 d0 e8 d9) 49) ∧ ∃ f2 d1 e9 e0, c1.heap[b5]? = some (.cells #[.pointer f2, .slice d1 e9 e0] 103) ∧
 R (.tuple #[.string c2, .int .i64 0]) c1)) :
 CR pP 56 #[(.agg (Z1 i0 b0 i1 i2 i3 i4 i5 i6 q0 n0 n1 b9 a6 i7 B0 q1 n2 n3))] w R :=
 yaA Tryz.wide_mixed (an := []) Tryz.func56 rfl rfl (by kernel_rfl) rfl (Eq.mpr (by kernel_rfl) h)
end
end Go.Proofs.YtkbcmppbjfpjmaaGreat
