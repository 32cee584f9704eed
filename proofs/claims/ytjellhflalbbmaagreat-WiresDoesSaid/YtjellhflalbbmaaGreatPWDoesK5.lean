/- Part 5 of the proof of PWDoes. -/
import Derived.Test.YtjellhflalbbmaaGreatPWDoesK4
namespace Go.Proofs.YtjellhflalbbmaaGreat
open Go Go.RowKit
set_option linter.all false
section
set_option maxRecDepth 100000
variable {R : VWP} {w w0 : World} {m : Nat} {i0 i1 i2 i3 i4 i5 i6 i7 i8 i9 j0 j1 j2 j3 j4 j5 j6 j7 j8 j9 k0 k1 k2 k3 k4 k5 k6 k7 k8 k9 l0 l1 l2 l3 l4 l5 l6 l7 l8 l9 : Int} {s0 s1 s2 s3 s4 s5 s6 s7 s8 s9 t0 t1 t2 t3 t4 t5 t6 t7 t8 t9 : BA} {n0 n1 n2 n3 n4 n5 n6 n7 n8 n9 o0 o1 o2 o3 o4 o5 o6 o7 o8 o9 p0 p1 p2 p3 p4 p5 p6 p7 p8 p9 : Nat} {q0 q1 q2 q3 q4 q5 q6 q7 q8 q9 r0 r1 r2 r3 r4 r5 r6 r7 r8 r9 : OA} {B0 B1 B2 B3 B4 B5 B6 B7 B8 B9 : Bool} {M0 M1 M2 M3 : Option Nat} {V0 V1 V2 V3 V4 V5 : Value} {A0 A1 A2 : Addr}
def yo7 : LA := ⟨[0, 0, 1, 0, 1, 1, 1, 1], [1, 5, 6], [(1, 0, 0)], 1, []⟩
def yo8 : LA := ⟨[0, 0, 1, 0, 1, 1, 1, 1, 1, 1], [1, 5, 7], [(1, 0, 0)], 1, []⟩
def yo9 : List LA := [yo7, yo8]
abbrev yw0 := dnF pP yo9 (code Tryz.f67)
abbrev yM5 := yaO pP yo9 (code Tryz.f67)
abbrev yw1 (p : List Nat) (K : List Kh) (R : VWP) := yaO pP yo9 (code Tryz.f67) p K (ya7 pP Tryz.f67 [] R)
def yiU (bm0 : Nat) (a6 a7 a8 a9 : Int) (a0 : OA) (a4 a2 : Nat) (a1 : OA) (a5 a3 : Nat) : ByteArray × Int → List Value × List TB := fun (b0, b1) => ([(.pointer (some ⟨bm0, 0, none⟩)), .string b0, .int .i64 b1], [⟨bm0, 35, [.int .i64 a6, .int .i64 a7, .int .i64 a8, .int .i64 a9, .slice a0 a4 a2, .slice a1 a5 a3], false⟩])
def yiV (bm0 : Nat) (a6 a7 a8 a9 : Int) (a0 : OA) (a4 a2 : Nat) (a1 : OA) (a5 a3 : Nat) : ByteArray × Int → List Value × List TB := fun (b0, b1) => ([(.pointer (some ⟨bm0, 0, none⟩)), .string b0, .int .i64 b1], [⟨bm0, 35, [.int .i64 a6, .int .i64 a7, .int .i64 a8, .int .i64 a9, .slice a0 a4 a2, .slice a1 a5 a3], false⟩])
abbrev yCR (bm0 : Nat) (a6 a7 a8 a9 : Int) (a0 : OA) (a4 a2 : Nat) (a1 : OA) (a5 a3 : Nat) (I : Nat → ByteArray → Int → World → Prop) (m : Nat) : Kh := KG (yiU bm0 a6 a7 a8 a9 a0 a4 a2 a1 a5 a3) (U2 I) m
theorem yyT {I : Nat → ByteArray → Int → World → Prop} (m' : Nat) (h1 : m' < m) (h2 : I m' s0 i4 w) : KS (yCR n0 i0 i1 i2 i3 q0 n1 n2 q1 n3 n4 I m) (yiU n0 i0 i1 i2 i3 q0 n1 n2 q1 n3 n4 (s0, i4)) w := ⟨m', h1, _, rfl, rfl, h2⟩
theorem yyU (I : Nat → ByteArray → Int → World → Prop) (m0 : Nat) (h0 : I m0 s0 i4 w0)
 (hr : ∀ m b4 b3 w, I m b4 b3 w →
 brB (decide (b3 < (n1 : Int))) (
 ixA q0 n1 b3 5 fun c6 =>
 ∀ b1, Adv [] [] w b1 →
 yaF .i64 b1 c6 fun d4 =>
 ixA q0 n1 b3 5 fun b0 =>
 ya1 b1 (Addr.add b0 1) fun c2 => yaT b1 (Addr.add (Addr.add b0 1) 1) fun b7 => ya1 b1 (Addr.add (Addr.add b0 1) 2) fun c3 => yaT b1 (Addr.add (Addr.add b0 1) 3) fun b8 =>
 Calls pP 95 #[.int .i64 d4] b1 fun e b2 => ∃ b9, e = .returned (.string b9) ∧ yaD [n0] b1 b2 ∧ (ya1 b2 (Addr.add b0 1) fun d2 => yaT b2 (Addr.add (Addr.add b0 1) 1) fun c7 => ya1 b2 (Addr.add (Addr.add b0 1) 2) fun d3 => yaT b2 (Addr.add (Addr.add b0 1) 3) fun c8 => ((.agg (Z5 d2 c7 d3 c8)) : Value) = (.agg (Z5 c2 b7 c3 b8))) ∧ (((.slice q0 n1 n2) : Value) = (.slice q0 n1 n2)) ∧
 Calls pP 96 #[(.agg (Z5 c2 b7 c3 b8))] b2 fun e c4 => ∃ c0, e = .returned (.string c0) ∧ yaD [n0] b2 c4 ∧
 yfP b9 c0 fun c9 =>
 yfP b4 c9 fun d0 =>
 KS (yCR n0 i0 i1 i2 i3 q0 n1 n2 q1 n3 n4 I m) (yiU n0 i0 i1 i2 i3 q0 n1 n2 q1 n3 n4 (d0, (IntKind.wrap .i64 (b3 + 1)))) c4)
 (
 Calls pP 95 #[(.int .i64 (n3 : Int))] w fun e c5 => ∃ c1, e = .returned (.string c1) ∧ yaD [n0] w c5 ∧
 yfP b4 c1 fun d1 =>
 yaJ yo8 (yw0 392 [0, 0, 1, 0, 1, 1, 1, 1, 1, 1]) (yw1 [1, 1, 1, 1, 1, 1, 0, 1, 0] [] R) (yiV n0 i0 i1 i2 i3 q0 n1 n2 q1 n3 n4 (d1, 0)) c5)) :
 yaJ yo7 (yw0 394 [0, 0, 1, 0, 1, 1, 1, 1]) (yw1 [1, 1, 1, 1, 0, 1, 0] [] R) (yiU n0 i0 i1 i2 i3 q0 n1 n2 q1 n3 n4 (s0, i4)) w0 :=
 lrule (yiU n0 i0 i1 i2 i3 q0 n1 n2 q1 n3 n4) (U2 I) h0 (by rintro m ⟨b4, b3⟩ w h; exact ⟨by kernel_rfl, by kernel_rfl, fun js => Eq.mpr (by kernel_rfl) (hr m b4 b3 w h)⟩)
abbrev yCS (bm0 : Nat) (a6 a7 a8 a9 : Int) (a0 : OA) (a4 a2 : Nat) (a1 : OA) (a5 a3 : Nat) (I : Nat → ByteArray → Int → World → Prop) (m : Nat) : Kh := KG (yiV bm0 a6 a7 a8 a9 a0 a4 a2 a1 a5 a3) (U2 I) m
theorem yyV {I : Nat → ByteArray → Int → World → Prop} (m' : Nat) (h1 : m' < m) (h2 : I m' s0 i4 w) : KS (yCS n0 i0 i1 i2 i3 q0 n1 n2 q1 n3 n4 I m) (yiV n0 i0 i1 i2 i3 q0 n1 n2 q1 n3 n4 (s0, i4)) w := ⟨m', h1, _, rfl, rfl, h2⟩
theorem yyW (I : Nat → ByteArray → Int → World → Prop) (m0 : Nat) (h0 : I m0 s0 i4 w0)
 (hr : ∀ m b1 b0 w, I m b1 b0 w →
 brB (decide (b0 < (n3 : Int))) (
 ixA q1 n3 b0 2 fun c1 =>
 ∀ b2, Adv [] [] w b2 →
 yaT b2 c1 fun c2 =>
 ixA q1 n3 b0 2 fun b6 =>
 yaF .i64 b2 (Addr.add b6 1) fun c0 =>
 Calls pP 68 #[.string c2] b2 fun e b3 => ∃ b7, e = .returned (.string b7) ∧ yaD [n0] b2 b3 ∧ (yaF .i64 b3 (Addr.add b6 1) fun c5 => ((.int .i64 c5) : Value) = (.int .i64 c0)) ∧ (((.slice q1 n3 n4) : Value) = (.slice q1 n3 n4)) ∧
 Calls pP 95 #[.int .i64 c0] b3 fun e b9 => ∃ b8, e = .returned (.string b8) ∧ yaD [n0] b3 b9 ∧
 yfP b7 b8 fun c3 =>
 yfP b1 c3 fun c4 =>
 KS (yCS n0 i0 i1 i2 i3 q0 n1 n2 q1 n3 n4 I m) (yiV n0 i0 i1 i2 i3 q0 n1 n2 q1 n3 n4 (c4, (IntKind.wrap .i64 (b0 + 1)))) b9)
 (
 R (.tuple #[.string b1, .int .i64 0]) w)) :
 yaJ yo8 (yw0 392 [0, 0, 1, 0, 1, 1, 1, 1, 1, 1]) (yw1 [1, 1, 1, 1, 1, 1, 0, 1, 0] [] R) (yiV n0 i0 i1 i2 i3 q0 n1 n2 q1 n3 n4 (s0, i4)) w0 :=
 lrule (yiV n0 i0 i1 i2 i3 q0 n1 n2 q1 n3 n4) (U2 I) h0 (by rintro m ⟨b1, b0⟩ w h; exact ⟨by kernel_rfl, by kernel_rfl, fun js => Eq.mpr (by kernel_rfl) (hr m b1 b0 w h)⟩)
theorem yHK (h :
 ∀ b1, w.heap.size ≤ b1 →
 ∀ w2, Adv [] [b1] w w2 →
 Calls pP 94 #[(.agg (Z3 i0 i1 i2 i3 q0 n0 n1 q1 n2 n3))] w2 fun e w3 => ∃ x4, e = .returned (.int .i64 x4) ∧ yaD [b1] w2 w3 ∧
 brB (x4 != 0) (
 R (.tuple #[(.string (⟨#[]⟩ : BA)), .int .i64 x4]) w3)
 (
 ∀ w5, Adv [] [] w3 w5 →
 Calls pP 95 #[.int .i64 i0] w5 fun e w6 => ∃ s7, e = .returned (.string s7) ∧ yaD [b1] w5 w6 ∧ (((.slice q0 n0 n1) : Value) = (.slice q0 n0 n1)) ∧ (((.int .i64 i3) : Value) = (.int .i64 i3)) ∧ (((.int .i64 i2) : Value) = (.int .i64 i2)) ∧ (((.int .i64 i1) : Value) = (.int .i64 i1)) ∧
 Calls pP 95 #[.int .i64 i1] w6 fun e w8 => ∃ s9, e = .returned (.string s9) ∧ yaD [b1] w6 w8 ∧ (((.slice q0 n0 n1) : Value) = (.slice q0 n0 n1)) ∧ (((.int .i64 i3) : Value) = (.int .i64 i3)) ∧ (((.int .i64 i2) : Value) = (.int .i64 i2)) ∧
 yfP s7 s9 fun b7 =>
 Calls pP 95 #[.int .i64 i2] w8 fun e b0 => ∃ b3, e = .returned (.string b3) ∧ yaD [b1] w8 b0 ∧ (((.slice q0 n0 n1) : Value) = (.slice q0 n0 n1)) ∧ (((.int .i64 i3) : Value) = (.int .i64 i3)) ∧
 yfP b7 b3 fun b8 =>
 Calls pP 95 #[.int .i64 i3] b0 fun e b2 => ∃ b4, e = .returned (.string b4) ∧ yaD [b1] b0 b2 ∧ (((.slice q0 n0 n1) : Value) = (.slice q0 n0 n1)) ∧
 yfP b8 b4 fun b9 =>
 Calls pP 95 #[(.int .i64 (n0 : Int))] b2 fun e b6 => ∃ b5, e = .returned (.string b5) ∧ yaD [b1] b2 b6 ∧
 yfP b9 b5 fun c0 =>
 yaJ yo7 (yw0 394 [0, 0, 1, 0, 1, 1, 1, 1]) (yw1 [1, 1, 1, 1, 0, 1, 0] [] R) (yiU b1 i0 i1 i2 i3 q0 n0 n1 q1 n2 n3 (c0, 0)) b6)) :
 CR pP 67 #[(.agg (Z3 i0 i1 i2 i3 q0 n0 n1 q1 n2 n3))] w R :=
 yaA Tryz.wide_mixed (an := yo9) Tryz.func67 rfl rfl (by kernel_rfl) rfl (Eq.mpr (by kernel_rfl) h)
def ypA : LA := ⟨[0, 0, 1, 0, 1, 1, 1], [1, 3, 4], [(1, 0, 0)], 1, []⟩
def ypB : List LA := [ypA]
abbrev yF7 := dnF pP ypB (code Tryz.f64)
abbrev yM6 := yaO pP ypB (code Tryz.f64)
abbrev yF8 (p : List Nat) (K : List Kh) (R : VWP) := yaO pP ypB (code Tryz.f64) p K (ya7 pP Tryz.f64 [] R)
def yiW (c3 : OA) (c5 c4 bm0 : Nat) (b3 b4 b5 b6 b7 b8 b9 c0 c1 c2 : Int) (a0 : OA) (a6 a3 : Nat) (a9 b0 b1 b2 : Int) (a1 : OA) (a7 a4 : Nat) (a2 : OA) (a8 a5 : Nat) : Int → List Value × List TB := fun c6 => ([(.pointer (some ⟨bm0, 0, none⟩)), .slice c3 c5 c4, .int .i64 c6], [⟨bm0, 37, [.int .i64 b3, .int .i64 b4, .int .i64 b5, .int .i64 b6, .int .i64 b7, .int .i64 b8, .int .i64 b9, .int .i64 c0, .int .i64 c1, .int .i64 c2, .slice a0 a6 a3, .int .i64 a9, .int .i64 b0, .int .i64 b1, .int .i64 b2, .slice a1 a7 a4, .slice a2 a8 a5], false⟩])
abbrev yCT (c3 : OA) (c5 c4 bm0 : Nat) (b3 b4 b5 b6 b7 b8 b9 c0 c1 c2 : Int) (a0 : OA) (a6 a3 : Nat) (a9 b0 b1 b2 : Int) (a1 : OA) (a7 a4 : Nat) (a2 : OA) (a8 a5 : Nat) (I : Nat → Int → World → Prop) (m : Nat) : Kh := KG (yiW c3 c5 c4 bm0 b3 b4 b5 b6 b7 b8 b9 c0 c1 c2 a0 a6 a3 a9 b0 b1 b2 a1 a7 a4 a2 a8 a5) (U1 I) m
theorem yyX {I : Nat → Int → World → Prop} (m' : Nat) (h1 : m' < m) (h2 : I m' j4 w) : KS (yCT q0 n0 n1 n2 i0 i1 i2 i3 i4 i5 i6 i7 i8 i9 q1 n3 n4 j0 j1 j2 j3 q2 n5 n6 q3 n7 n8 I m) (yiW q0 n0 n1 n2 i0 i1 i2 i3 i4 i5 i6 i7 i8 i9 q1 n3 n4 j0 j1 j2 j3 q2 n5 n6 q3 n7 n8 j4) w := ⟨m', h1, _, rfl, rfl, h2⟩
theorem yyY {c5 : OA} {a0 : OA} {a1 : OA} {a2 : OA} (I : Nat → Int → World → Prop) (m0 : Nat) (h0 : I m0 j4 w0)
 (hr : ∀ m c4 w, I m c4 w →
 brB (decide (c4 < (n0 : Int))) (
 ixA c5 n0 c4 1 fun q9 =>
 yaF .i64 w q9 fun d6 =>
 Calls pP 91 #[.int .i64 d6] w fun e c8 => ∃ d1, e = .returned (.bool d1) ∧ yaD [n2] w c8 ∧
 brB (!d1) (
 R (.int .i64 1) c8)
 (
 KS (yCT c5 n0 n1 n2 i0 i1 i2 i3 i4 i5 i6 i7 i8 i9 a0 n3 n4 j0 j1 j2 j3 a1 n5 n6 a2 n7 n8 I m) (yiW c5 n0 n1 n2 i0 i1 i2 i3 i4 i5 i6 i7 i8 i9 a0 n3 n4 j0 j1 j2 j3 a1 n5 n6 a2 n7 n8 (IntKind.wrap .i64 (c4 + 1))) c8))
 (
 Calls pP 66 #[.slice a0 n3 n4] w fun e c7 => ∃ d4 c9, e = .returned (.tuple #[.string d4, .int .i64 c9]) ∧ yaD [n2] w c7 ∧
 brB (c9 != 0) (
 R (.int .i64 c9) c7)
 (
 Calls pP 67 #[(.agg (Z3 j0 j1 j2 j3 a1 n5 n6 a2 n7 n8))] c7 fun e d2 => ∃ d5 d3, e = .returned (.tuple #[.string d5, .int .i64 d3]) ∧ yaD [n2] c7 d2 ∧
 R (.int .i64 d3) d2))) :
 yaJ ypA (yF7 395 [0, 0, 1, 0, 1, 1, 1]) (yF8 [1, 1, 1, 0, 1, 0] [] R) (yiW c5 n0 n1 n2 i0 i1 i2 i3 i4 i5 i6 i7 i8 i9 a0 n3 n4 j0 j1 j2 j3 a1 n5 n6 a2 n7 n8 j4) w0 :=
 lrule (yiW c5 n0 n1 n2 i0 i1 i2 i3 i4 i5 i6 i7 i8 i9 a0 n3 n4 j0 j1 j2 j3 a1 n5 n6 a2 n7 n8) (U1 I) h0 (by rintro m c4 w h; exact ⟨by kernel_rfl, by kernel_rfl, fun js => Eq.mpr (by kernel_rfl) (hr m c4 w h)⟩)
theorem yHL {a3 a2 : Nat} {a7 a5 : Nat} {b0 a9 : Nat} (h :
 ∀ b1, w.heap.size ≤ b1 →
 brB (decide (i0 < 0)) (
 ∀ w2, Adv [] [b1] w w2 →
 R (.int .i64 180) w2)
 (
 brB (decide (i0 > 11)) (
 ∀ w3, Adv [] [b1] w w3 →
 R (.int .i64 180) w3)
 (
 ∀ w4, Adv [] [b1] w w4 →
 Calls pP 37 #[(.agg (Z0 i0 i1 i2 i3 i4 i5 i6 i7 i8 i9 q0 a3 a2 j0 j1 j2 j3 q1 a7 a5 q2 b0 a9))] w4 fun e w5 => ∃ a6 n7 c8, e = .returned (.slice a6 n7 c8) ∧ yaD [b1] w4 w5 ∧
 yaJ ypA (yF7 395 [0, 0, 1, 0, 1, 1, 1]) (yF8 [1, 1, 1, 0, 1, 0] [] R) (yiW a6 n7 c8 b1 i0 i1 i2 i3 i4 i5 i6 i7 i8 i9 q0 a3 a2 j0 j1 j2 j3 q1 a7 a5 q2 b0 a9 0) w5))) :
 CR pP 64 #[(.agg (Z0 i0 i1 i2 i3 i4 i5 i6 i7 i8 i9 q0 a3 a2 j0 j1 j2 j3 q1 a7 a5 q2 b0 a9))] w R :=
 yaA Tryz.wide_mixed (an := ypB) Tryz.func64 rfl rfl (by kernel_rfl) rfl (Eq.mpr (by kernel_rfl) h)
def ypC : LA := ⟨[0, 0, 1, 0, 1, 1, 1, 1], [1, 5, 6, 7], [(1, 0, 0)], 1, []⟩
def ypD : List LA := [ypC]
abbrev yF9 := dnF pP ypD (code Tryz.f42)
abbrev yM7 := yaO pP ypD (code Tryz.f42)
abbrev yGa (p : List Nat) (K : List Kh) (R : VWP) := yaO pP ypD (code Tryz.f42) p K (ya7 pP Tryz.f42 [] R)
def yiX (c3 : OA) (c5 c4 bm0 : Nat) (b3 b4 b5 b6 b7 b8 b9 c0 c1 c2 : Int) (a0 : OA) (a6 a3 : Nat) (a9 b0 b1 b2 : Int) (a1 : OA) (a7 a4 : Nat) (a2 : OA) (a8 a5 : Nat) : ByteArray × Int → List Value × List TB := fun (c6, c7) => ([(.pointer (some ⟨bm0, 0, none⟩)), .string c6, .slice c3 c5 c4, .int .i64 c7], [⟨bm0, 37, [.int .i64 b3, .int .i64 b4, .int .i64 b5, .int .i64 b6, .int .i64 b7, .int .i64 b8, .int .i64 b9, .int .i64 c0, .int .i64 c1, .int .i64 c2, .slice a0 a6 a3, .int .i64 a9, .int .i64 b0, .int .i64 b1, .int .i64 b2, .slice a1 a7 a4, .slice a2 a8 a5], false⟩])
abbrev yCU (c3 : OA) (c5 c4 bm0 : Nat) (b3 b4 b5 b6 b7 b8 b9 c0 c1 c2 : Int) (a0 : OA) (a6 a3 : Nat) (a9 b0 b1 b2 : Int) (a1 : OA) (a7 a4 : Nat) (a2 : OA) (a8 a5 : Nat) (I : Nat → ByteArray → Int → World → Prop) (m : Nat) : Kh := KG (yiX c3 c5 c4 bm0 b3 b4 b5 b6 b7 b8 b9 c0 c1 c2 a0 a6 a3 a9 b0 b1 b2 a1 a7 a4 a2 a8 a5) (U2 I) m
theorem yyZ {I : Nat → ByteArray → Int → World → Prop} (m' : Nat) (h1 : m' < m) (h2 : I m' s0 j4 w) : KS (yCU q0 n0 n1 n2 i0 i1 i2 i3 i4 i5 i6 i7 i8 i9 q1 n3 n4 j0 j1 j2 j3 q2 n5 n6 q3 n7 n8 I m) (yiX q0 n0 n1 n2 i0 i1 i2 i3 i4 i5 i6 i7 i8 i9 q1 n3 n4 j0 j1 j2 j3 q2 n5 n6 q3 n7 n8 (s0, j4)) w := ⟨m', h1, _, rfl, rfl, h2⟩
theorem yy0 {c5 : OA} {a0 : OA} {a1 : OA} {a2 : OA} (I : Nat → ByteArray → Int → World → Prop) (m0 : Nat) (h0 : I m0 s0 j4 w0)
 (hr : ∀ m c6 c4 w, I m c6 c4 w →
 brB (decide (c4 < (n0 : Int))) (
 ixA c5 n0 c4 1 fun q9 =>
 yaF .i64 w q9 fun e5 =>
 Calls pP 65 #[(.int .u64 (IntKind.wrap .u64 e5))] w fun e e1 => ∃ d4, e = .returned (.string d4) ∧ yaD [n2] w e1 ∧
 yfP c6 d4 fun e3 =>
 KS (yCU c5 n0 n1 n2 i0 i1 i2 i3 i4 i5 i6 i7 i8 i9 a0 n3 n4 j0 j1 j2 j3 a1 n5 n6 a2 n7 n8 I m) (yiX c5 n0 n1 n2 i0 i1 i2 i3 i4 i5 i6 i7 i8 i9 a0 n3 n4 j0 j1 j2 j3 a1 n5 n6 a2 n7 n8 (e3, (IntKind.wrap .i64 (c4 + 1)))) e1)
 (
 Calls pP 66 #[.slice a0 n3 n4] w fun e d0 => ∃ d5 e6, e = .returned (.tuple #[.string d5, .int .i64 e6]) ∧ yaD [n2] w d0 ∧
 Calls pP 67 #[(.agg (Z3 j0 j1 j2 j3 a1 n5 n6 a2 n7 n8))] d0 fun e d1 => ∃ d6 e7, e = .returned (.tuple #[.string d6, .int .i64 e7]) ∧ yaD [n2] d0 d1 ∧
 Calls pP 68 #[.string d5] d1 fun e d2 => ∃ d7, e = .returned (.string d7) ∧ yaD [n2] d1 d2 ∧
 Calls pP 68 #[.string d6] d2 fun e c8 => ∃ d8, e = .returned (.string d8) ∧ yaD [n2] d2 c8 ∧
 yfP d7 d8 fun e4 =>
 yfP c6 e4 fun d9 =>
 brB (decide ((d9.size : Int) > 1048576)) (
 R (.tuple #[(.string (⟨#[]⟩ : BA)), .int .i64 2]) c8)
 (
 Calls pP 69 #[.string d9] c8 fun e e2 => ∃ e0, e = .returned (.string e0) ∧ yaD [n2] c8 e2 ∧
 R (.tuple #[.string e0, .int .i64 0]) e2))) :
 yaJ ypC (yF9 394 [0, 0, 1, 0, 1, 1, 1, 1]) (yGa [1, 1, 1, 1, 0, 1, 0] [] R) (yiX c5 n0 n1 n2 i0 i1 i2 i3 i4 i5 i6 i7 i8 i9 a0 n3 n4 j0 j1 j2 j3 a1 n5 n6 a2 n7 n8 (s0, j4)) w0 :=
 lrule (yiX c5 n0 n1 n2 i0 i1 i2 i3 i4 i5 i6 i7 i8 i9 a0 n3 n4 j0 j1 j2 j3 a1 n5 n6 a2 n7 n8) (U2 I) h0 (by rintro m ⟨c6, c4⟩ w h; exact ⟨by kernel_rfl, by kernel_rfl, fun js => Eq.mpr (by kernel_rfl) (hr m c6 c4 w h)⟩)
theorem yHM {a2 a1 : Nat} {a5 a4 : Nat} {a9 a8 : Nat} (h :
 ∀ b1, w.heap.size ≤ b1 →
 ∀ w2, Adv [] [b1] w w2 →
 Calls pP 64 #[(.agg (Z0 i0 i1 i2 i3 i4 i5 i6 i7 i8 i9 q0 a2 a1 j0 j1 j2 j3 q1 a5 a4 q2 a9 a8))] w2 fun e w3 => ∃ x4, e = .returned (.int .i64 x4) ∧ yaD [b1] w2 w3 ∧
 brB (x4 != 0) (
 R (.tuple #[(.string (⟨#[]⟩ : BA)), .int .i64 x4]) w3)
 (
 Calls pP 37 #[(.agg (Z0 i0 i1 i2 i3 i4 i5 i6 i7 i8 i9 q0 a2 a1 j0 j1 j2 j3 q1 a5 a4 q2 a9 a8))] w3 fun e w5 => ∃ a6 n7 c8, e = .returned (.slice a6 n7 c8) ∧ yaD [b1] w3 w5 ∧
 yaJ ypC (yF9 394 [0, 0, 1, 0, 1, 1, 1, 1]) (yGa [1, 1, 1, 1, 0, 1, 0] [] R) (yiX a6 n7 c8 b1 i0 i1 i2 i3 i4 i5 i6 i7 i8 i9 q0 a2 a1 j0 j1 j2 j3 q1 a5 a4 q2 a9 a8 ((⟨#[]⟩ : BA), 0)) w5)) :
 CR pP 42 #[(.agg (Z0 i0 i1 i2 i3 i4 i5 i6 i7 i8 i9 q0 a2 a1 j0 j1 j2 j3 q1 a5 a4 q2 a9 a8))] w R :=
 yaA Tryz.wide_mixed (an := ypD) Tryz.func42 rfl rfl (by kernel_rfl) rfl (Eq.mpr (by kernel_rfl) h)
def ypE : LA := ⟨[0, 0, 1, 0, 1, 1, 1], [1, 5, 18, 19], [(1, 0, 0), (5, 1, 0)], 2, [0, 1]⟩
def ypF : List LA := [ypE]
abbrev yGb := dnF pP ypF (code Tryz.f35)
abbrev yM8 := yaO pP ypF (code Tryz.f35)
abbrev yGc (p : List Nat) (K : List Kh) (R : VWP) := yaO pP ypF (code Tryz.f35) p K (ya7 pP Tryz.f35 [] R)
def yiY (b6 b7 b8 b9 c0 c1 c2 c3 c4 c5 : OA) (bm0 bm1 : Nat) : Int × Int × Int × Int × Int × Int × Int × Int × Int × Int × Int × (Option Addr) × Nat × Nat × Int × Int × Int × Int × (Option Addr) × Nat × Nat × (Option Addr) × Nat × Nat × (Option Addr) × (Option Addr) × Nat × Nat → List Value × List TB := fun (d7, c7, c8, c9, d0, d1, d2, d3, d4, d5, d6, a0, a6, a3, a9, b0, b1, b2, a1, a7, a4, a2, a8, a5, c6, b3, b5, b4) => ([(.pointer (some ⟨bm0, 0, none⟩)), (.pointer (some ⟨bm1, 0, none⟩)), (.agg (Z9 b6 b7 b8 b9 c0 c1 c2 c3 c4 c5)), .int .i64 d7], [⟨bm0, 37, [.int .i64 c7, .int .i64 c8, .int .i64 c9, .int .i64 d0, .int .i64 d1, .int .i64 d2, .int .i64 d3, .int .i64 d4, .int .i64 d5, .int .i64 d6, .slice a0 a6 a3, .int .i64 a9, .int .i64 b0, .int .i64 b1, .int .i64 b2, .slice a1 a7 a4, .slice a2 a8 a5], true⟩, ⟨bm1, 106, [.pointer c6, .slice b3 b5 b4], true⟩])
abbrev yCV (a0 a1 a2 a3 a4 a5 a6 a7 a8 a9 : OA) (bm0 bm1 : Nat) (I : Nat → Int → Int → Int → Int → Int → Int → Int → Int → Int → Int → Int → Option Addr → Nat → Nat → Int → Int → Int → Int → Option Addr → Nat → Nat → Option Addr → Nat → Nat → Option Addr → Option Addr → Nat → Nat → World → Prop) (m : Nat) : Kh := KG (yiY a0 a1 a2 a3 a4 a5 a6 a7 a8 a9 bm0 bm1) (U28 I) m
theorem yy1 {I : Nat → Int → Int → Int → Int → Int → Int → Int → Int → Int → Int → Int → Option Addr → Nat → Nat → Int → Int → Int → Int → Option Addr → Nat → Nat → Option Addr → Nat → Nat → Option Addr → Option Addr → Nat → Nat → World → Prop} (m' : Nat) (h1 : m' < m) (h2 : I m' i0 i1 i2 i3 i4 i5 i6 i7 i8 i9 j0 r0 n2 n3 j1 j2 j3 j4 r1 n4 n5 r2 n6 n7 r3 r4 n8 n9 w) : KS (yCV q0 q1 q2 q3 q4 q5 q6 q7 q8 q9 n0 n1 I m) (yiY q0 q1 q2 q3 q4 q5 q6 q7 q8 q9 n0 n1 (i0, i1, i2, i3, i4, i5, i6, i7, i8, i9, j0, r0, n2, n3, j1, j2, j3, j4, r1, n4, n5, r2, n6, n7, r3, r4, n8, n9)) w := ⟨m', h1, _, rfl, rfl, h2⟩
theorem yy2 (I : Nat → Int → Int → Int → Int → Int → Int → Int → Int → Int → Int → Int → Option Addr → Nat → Nat → Int → Int → Int → Int → Option Addr → Nat → Nat → Option Addr → Nat → Nat → Option Addr → Option Addr → Nat → Nat → World → Prop) (m0 : Nat) (h0 : I m0 i0 i1 i2 i3 i4 i5 i6 i7 i8 i9 j0 r0 n2 n3 j1 j2 j3 j4 r1 n4 n5 r2 n6 n7 r3 r4 n8 n9 w0)
 (hr : ∀ m d7 c7 c8 c9 d0 d1 d2 d3 d4 d5 d6 a0 a2 a1 b9 c0 c1 c2 b3 b7 b5 b4 b8 b6 c6 c3 c5 c4 w, I m d7 c7 c8 c9 d0 d1 d2 d3 d4 d5 d6 a0 a2 a1 b9 c0 c1 c2 b3 b7 b5 b4 b8 b6 c6 c3 c5 c4 w →
 w.heap[n0]? = some (.cells (Z0 c7 c8 c9 d0 d1 d2 d3 d4 d5 d6 a0 a2 a1 b9 c0 c1 c2 b3 b7 b5 b4 b8 b6) 37) →
 w.heap[n1]? = some (.cells #[.pointer c6, .slice c3 c5 c4] 106) →
 brB (decide (d7 < 10)) (
 ∃ w6, (∀ w' : World, (Instr.index 108 (.agg (Z9 q0 q1 q2 q3 q4 q5 q6 q7 q8 q9)) (.int .i64 d7)).run pP w' = .ok (.pointer w6) w') ∧
 ysE w6 fun ge =>
 yaF .i64 w ge fun gg =>
 Calls pP 52 #[(.int .u64 (IntKind.wrap .u64 gg))] w fun e v0 => ∃ w8, e = .returned (.string w8) ∧ ∃ gh gi gj gk gl gm gn go gp gq fr fz fv gr gs gt gu fs ga fw ft gb fx, v0.heap[n0]? = some (.cells (Z0 gh gi gj gk gl gm gn go gp gq fr fz fv gr gs gt gu fs ga fw ft gb fx) 37) ∧ ∃ gd fu gc fy, v0.heap[n1]? = some (.cells #[.pointer gd, .slice fu gc fy] 106) ∧
 Calls pP 51 #[(.pointer (some ⟨n1, 0, none⟩)), .string w8] v0 fun e v1 => ∃ gv gf, e = .returned (.tuple #[.int .i64 gv, gf]) ∧ ∃ w9 x0 x1 x2 x3 x4 x5 x6 x7 x8 v6 w3 v9 x9 y0 y1 y2 v7 w4 w1 v8 w5 w2, v1.heap[n0]? = some (.cells (Z0 w9 x0 x1 x2 x3 x4 x5 x6 x7 x8 v6 w3 v9 x9 y0 y1 y2 v7 w4 w1 v8 w5 w2) 37) ∧ ∃ w7 h3 h9 h6, v1.heap[n1]? = some (.cells #[.pointer w7, .slice h3 h9 h6] 106) ∧
 KS (yCV q0 q1 q2 q3 q4 q5 q6 q7 q8 q9 n0 n1 I m) (yiY q0 q1 q2 q3 q4 q5 q6 q7 q8 q9 n0 n1 ((IntKind.wrap .i64 (d7 + 1)), w9, x0, x1, x2, x3, x4, x5, x6, x7, x8, v6, w3, v9, x9, y0, y1, y2, v7, w4, w1, v8, w5, w2, w7, h3, h9, h6)) v1)
 (
 Calls pP 53 #[.slice a0 a2 a1] w fun e g6 => ∃ u2 ck, e = .returned (.tuple #[.string u2, .int .i64 ck]) ∧ ∃ cl cm cn co cp cq cr cs ct cu y3 be af v2 v3 v4 v5 h4 u0 h7 h5 u1 h8, g6.heap[n0]? = some (.cells (Z0 cl cm cn co cp cq cr cs ct cu y3 be af v2 v3 v4 v5 h4 u0 h7 h5 u1 h8) 37) ∧ ∃ cc y4 bf ag, g6.heap[n1]? = some (.cells #[.pointer cc, .slice y4 bf ag] 106) ∧
 Calls pP 54 #[(.agg (Z3 v2 v3 v4 v5 h4 u0 h7 h5 u1 h8))] g6 fun e g7 => ∃ u3 cv, e = .returned (.tuple #[.string u3, .int .i64 cv]) ∧ ∃ cw cx cy cz da db dc dd de df y5 bg ah dg dh di dj y6 bh ai y7 bi aj, g7.heap[n0]? = some (.cells (Z0 cw cx cy cz da db dc dd de df y5 bg ah dg dh di dj y6 bh ai y7 bi aj) 37) ∧ ∃ cd y8 bj ak, g7.heap[n1]? = some (.cells #[.pointer cd, .slice y8 bj ak] 106) ∧
 Calls pP 55 #[(.pointer (some ⟨n1, 0, none⟩))] g7 fun e g8 => ∃ u4, e = .returned (.string u4) ∧ ∃ dk dl dm dn dp dq dr ds dt du y9 bk am dv dw dx dy z0 bl an z1 bm ao, g8.heap[n0]? = some (.cells (Z0 dk dl dm dn dp dq dr ds dt du y9 bk am dv dw dx dy z0 bl an z1 bm ao) 37) ∧ ∃ ce z2 bn ap, g8.heap[n1]? = some (.cells #[.pointer ce, .slice z2 bn ap] 106) ∧
 Calls pP 56 #[.string u2] g8 fun e g9 => ∃ u5, e = .returned (.string u5) ∧ ∃ dz ea eb ec ed ee ef eg eh ei z3 bo aq ej ek el em z4 bp ar z5 bq au, g9.heap[n0]? = some (.cells (Z0 dz ea eb ec ed ee ef eg eh ei z3 bo aq ej ek el em z4 bp ar z5 bq au) 37) ∧ ∃ cf z6 br av, g9.heap[n1]? = some (.cells #[.pointer cf, .slice z6 br av] 106) ∧
 yfP u4 u5 fun cj =>
 Calls pP 56 #[.string u3] g9 fun e g5 => ∃ u6, e = .returned (.string u6) ∧ ∃ en eo ep eq er et eu ew ex ey z7 bt aw ez fa fb fc z8 bu ax z9 bv ay, g5.heap[n0]? = some (.cells (Z0 en eo ep eq er et eu ew ex ey z7 bt aw ez fa fb fc z8 bu ax z9 bv ay) 37) ∧ ∃ ch aa bw az, g5.heap[n1]? = some (.cells #[.pointer ch, .slice aa bw az] 106) ∧
 yfP cj u6 fun u7 =>
 brB (decide ((u7.size : Int) > 1048576)) (
 R (.tuple #[(.string (⟨#[]⟩ : BA)), .int .i64 2]) g5)
 (
 Calls pP 57 #[.string u7] g5 fun e h1 => ∃ u9, e = .returned (.string u9) ∧ ∃ fd fe ff fg fh fi fj fk fl fm ab bx ba fn fo fp fq ac bz bb ad ca bc, h1.heap[n0]? = some (.cells (Z0 fd fe ff fg fh fi fj fk fl fm ab bx ba fn fo fp fq ac bz bb ad ca bc) 37) ∧ ∃ ci ae cb bd, h1.heap[n1]? = some (.cells #[.pointer ci, .slice ae cb bd] 106) ∧
 R (.tuple #[.string u9, .int .i64 0]) h1))) :
 yaJ ypE (yGb 395 [0, 0, 1, 0, 1, 1, 1]) (yGc [1, 1, 1, 0, 1, 0] [] R) (yiY q0 q1 q2 q3 q4 q5 q6 q7 q8 q9 n0 n1 (i0, i1, i2, i3, i4, i5, i6, i7, i8, i9, j0, r0, n2, n3, j1, j2, j3, j4, r1, n4, n5, r2, n6, n7, r3, r4, n8, n9)) w0 :=
 lrule (yiY q0 q1 q2 q3 q4 q5 q6 q7 q8 q9 n0 n1) (U28 I) h0 (by rintro m ⟨d7, c7, c8, c9, d0, d1, d2, d3, d4, d5, d6, a0, a2, a1, b9, c0, c1, c2, b3, b7, b5, b4, b8, b6, c6, c3, c5, c4⟩ w h; exact ⟨by kernel_rfl, by kernel_rfl, fun js => Eq.mpr (by kernel_rfl) (hr m d7 c7 c8 c9 d0 d1 d2 d3 d4 d5 d6 a0 a2 a1 b9 c0 c1 c2 b3 b7 b5 b4 b8 b6 c6 c3 c5 c4 w h)⟩)
theorem yHN {a2 a1 : Nat} {a5 a4 : Nat} {a8 a7 : Nat} (h :
 ∀ b1, w.heap.size ≤ b1 →
 ∀ w2, Adv [] [b1] w w2 →
 Calls pP 49 #[(.agg (Z0 i0 i1 i2 i3 i4 i5 i6 i7 i8 i9 q0 a2 a1 j0 j1 j2 j3 q1 a5 a4 q2 a8 a7))] w2 fun e w3 => ∃ x4, e = .returned (.int .i64 x4) ∧ yaD [b1] w2 w3 ∧
 brB (x4 != 0) (
 R (.tuple #[(.string (⟨#[]⟩ : BA)), .int .i64 x4]) w3)
 (
 ∀ b5, w3.heap.size ≤ b5 →
 ∀ w6, Adv [] [b5] w3 w6 → w6.heap[b1]? = some (.cells (Z0 i0 i1 i2 i3 i4 i5 i6 i7 i8 i9 q0 a2 a1 j0 j1 j2 j3 q1 a5 a4 q2 a8 a7) 37) →
 Calls pP 50 #[(.pointer (some ⟨b1, 0, none⟩))] w6 fun e w7 => ∃ p8 p9 e9 f0 f1 f2 f3 f4 f5 f6, e = .returned (.agg (Z9 p8 p9 e9 f0 f1 f2 f3 f4 f5 f6)) ∧ ya4 [b1] [(b5, 106)] [b5] w6 w7 ∧ ∃ d5 d6 d7 d8 d9 e0 e1 e2 e3 e4 c6 d2 c9 e5 e6 e7 e8 c7 d3 d0 c8 d4 d1, w7.heap[b1]? = some (.cells (Z0 d5 d6 d7 d8 d9 e0 e1 e2 e3 e4 c6 d2 c9 e5 e6 e7 e8 c7 d3 d0 c8 d4 d1) 37) ∧
 ∀ c5, Adv [] [] w7 c5 → c5.heap[b1]? = some (.cells (Z0 d5 d6 d7 d8 d9 e0 e1 e2 e3 e4 c6 d2 c9 e5 e6 e7 e8 c7 d3 d0 c8 d4 d1) 37) →
 c5.heap[b5]? = some (.cells #[.pointer none, .slice none 0 0] 106) →
 yaJ ypE (yGb 395 [0, 0, 1, 0, 1, 1, 1]) (yGc [1, 1, 1, 0, 1, 0] [] R) (yiY p8 p9 e9 f0 f1 f2 f3 f4 f5 f6 b1 b5 (0, d5, d6, d7, d8, d9, e0, e1, e2, e3, e4, c6, d2, c9, e5, e6, e7, e8, c7, d3, d0, c8, d4, d1, none, none, 0, 0)) c5)) :
 CR pP 35 #[(.agg (Z0 i0 i1 i2 i3 i4 i5 i6 i7 i8 i9 q0 a2 a1 j0 j1 j2 j3 q1 a5 a4 q2 a8 a7))] w R :=
 yaA Tryz.wide_mixed (an := ypF) Tryz.func35 rfl rfl (by kernel_rfl) rfl (Eq.mpr (by kernel_rfl) h)
theorem yHO {a2 a1 : Nat} {a5 a4 : Nat} {a9 a8 : Nat} (h :
 ∀ b1, w.heap.size ≤ b1 →
 ∀ b2, w.heap.size ≤ b2 →
 ∀ b3, w.heap.size ≤ b3 →
 ∀ w4, Adv [] [b3, b2, b1] w w4 →
 Calls pP 33 #[.slice q0 a2 a1] w4 fun e w5 => ∃ a6 n7 c8, e = .returned (.slice a6 n7 c8) ∧ yaD [b1, b2, b3] w4 w5 ∧
 ∀ w9, Adv [b3] [] w5 w9 →
 Calls pP 34 #[(.agg (Z3 j0 j1 j2 j3 q1 a5 a4 q2 a9 a8))] w9 fun e d4 => ∃ d6 d7 d8 d9 c7 d2 d0 c9 d3 d1, e = .returned (.agg (Z3 d6 d7 d8 d9 c7 d2 d0 c9 d3 d1)) ∧ yaD [b1, b2, b3] w9 d4 ∧
 ∀ d5, Adv [b2, b3] [] d4 d5 →
 R (.agg (Z0 i0 i1 i2 i3 i4 i5 i6 i7 i8 i9 a6 n7 c8 d6 d7 d8 d9 c7 d2 d0 c9 d3 d1)) d5) :
 CR pP 11 #[(.agg (Z0 i0 i1 i2 i3 i4 i5 i6 i7 i8 i9 q0 a2 a1 j0 j1 j2 j3 q1 a5 a4 q2 a9 a8))] w R :=
 yaA Tryz.wide_mixed (an := []) Tryz.func11 rfl rfl (by kernel_rfl) rfl (Eq.mpr (by kernel_rfl) h)
end
theorem yf6 {x : Int} (h0 : 0 ≤ x) (h : x.toNat ≤ 1099511627776) : num x = true := yrV h0 (by omega)
theorem ynC {w : World} {r : PRep} {f p : Sl} (h : RepAt w r f p) :
  Calls pP 67 #[r.v f p] w fun e w' => e = .returned (.tuple #[.string (if ygP r = 0 then bs (yeC r) else bs []), .int .i64 (ygP r)]) ∧ Mod [] w w' := by
 refine yaQ (yHK ?_)
 intro b1 f1 w2 A2
 refine (yD0 (h.keep0 A2.mod)).mono ?_
 rintro _ w3 ⟨rfl, M3⟩
 have N3 := A2.mod.go0 M3 (by simp)
 refine ⟨_, rfl, yaD.of0 M3, yaC (fun g => ?_) fun g => ?_⟩
 ·have g : ygP r ≠ 0 := by simpa using g
  rw [if_neg g]; exact ⟨rfl, N3⟩
 have g : ygP r = 0 := by simpa using g
 have G := RepGood.of g
 rw [if_pos g, g]
 have e4 := h.found.1
 have e5 := h.parts.1
 have lf := G.lf
 have lp := G.lp
 obtain ⟨n0, n1, n2, n3⟩ := G.nn
 have d0 := G.hd r.e.toNat (by simp [hdL])
 have d1 := G.hd r.off.toNat (by simp [hdL])
 have d2 := G.hd r.n.toNat (by simp [hdL])
 have d3 := G.hd r.gen.toNat (by simp [hdL])
 have v0 := (yaM r.e.toNat (by omega)).2
 have v1 := (yaM r.off.toNat (by omega)).2
 have v2 := (yaM r.n.toNat (by omega)).2
 have v3 := (yaM r.gen.toNat (by omega)).2
 have v4 := (yaM f.n (by omega)).2
 have v5 := (yaM p.n (by omega)).2
 intro w5 A5
 refine (yb7 (yf6 n0 d0) w5).mono ?_
 rintro _ w6 ⟨rfl, M6⟩
 refine ⟨_, rfl, yaD.of0 M6, rfl, rfl, rfl, rfl, ?_⟩
 refine (yb7 (yf6 n1 d1) w6).mono ?_
 rintro _ w7 ⟨rfl, M7⟩
 refine ⟨_, rfl, yaD.of0 M7, rfl, rfl, rfl, by rw [yaG, yaG]; omega, ?_⟩
 rw [ybF]
 refine (yb7 (yf6 n2 d2) w7).mono ?_
 rintro _ w8 ⟨rfl, M8⟩
 refine ⟨_, rfl, yaD.of0 M8, rfl, rfl, by rw [yaG, yaG, List.length_append]; omega, ?_⟩
 rw [ybF]
 refine (yb7 (yf6 n3 d3) w8).mono ?_
 rintro _ w9 ⟨rfl, M9⟩
 refine ⟨_, rfl, yaD.of0 M9, rfl, by rw [yaG, yaG, List.length_append, List.length_append]; omega, ?_⟩
 rw [ybF]
 refine (yb7 (x := (f.n : Nat)) (yrV (by omega) (by omega)) w9).mono ?_
 rintro _ w10 ⟨rfl, M10⟩
 refine ⟨_, rfl, yaD.of0 M10, by rw [yaG, yaG, List.length_append, List.length_append, List.length_append, Int.toNat_natCast]; omega, ?_⟩
 rw [ybF, Int.toNat_natCast]
 have N10 : Mod [] w w10 := (((((N3.go0 A5.mod (by simp)).go0 M6 (by simp)).go0 M7 (by simp)).go0 M8 (by simp)).go0 M9 (by simp)).go0 M10 (by simp)
 have eh : yaL r.e.toNat ++ yaL r.off.toNat ++ yaL r.n.toNat ++ yaL r.gen.toNat ++ yaL f.n = ydQ r 0 := by
  simp [ydQ, hdL, e4]
 rw [eh]
 refine yyU (fun mm s x w' => ∃ k : Nat, x = k ∧ k ≤ r.found.length ∧ s = bs (ydQ r k) ∧ Mod [] w w' ∧ mm = r.found.length - k) r.found.length ⟨0, rfl, by omega, rfl, N10, rfl⟩ ?_
 rintro mm s x w11 ⟨k, rfl, hk, rfl, M11, rfl⟩
 have l2 := G.len2 k
 refine yaE (fun hlt => ?_) fun hge => ?_
 ·obtain ⟨y, hy⟩ : ∃ y, r.found[k]? = some y := ⟨_, List.getElem?_eq_getElem (by omega)⟩
  obtain ⟨y1, y2⟩ := G.f y (List.mem_of_getElem? hy)
  have ly := G.lenF (List.mem_of_getElem? hy)
  have l2' := G.len2 (k + 1)
  refine (h.keep0 M11).found.ixW hy fun q hq => ?_
  intro w12 A12
  have N12 := M11.go0 A12.mod (by simp)
  refine yaB (x := y.off) (by simpa [add_zero] using hq w12 A12.mod 0 _ rfl) ?_
  refine (h.keep0 N12).found.ixW hy fun q hq => ?_
  have hc := hq w12 (Mod.refl _)
  rw [ydA, ydA, ydA]
  refine yaP (hc 1 _ rfl) (yaI (hc 2 _ rfl) (yaP (hc 3 _ rfl) (yaI (hc 4 _ rfl) ?_)))
  refine (yb7 y1 w12).mono ?_
  rintro _ w13 ⟨rfl, M13⟩
  have hd := hq w13 M13
  refine ⟨_, rfl, yaD.of0 M13, ?_, rfl, ?_⟩
  ·exact yaP (hd 1 _ rfl) (yaI (hd 2 _ rfl) (yaP (hd 3 _ rfl) (yaI (hd 4 _ rfl) rfl)))
  refine (yrW y.r y2 w13).mono ?_
  rintro _ w14 ⟨rfl, M14⟩
  have N14 := (N12.go0 M13 (by simp)).go0 M14 (by simp)
  have eF : yaL y.off.toNat ++ ygW y.r = yf1 y := rfl
  refine ⟨_, rfl, yaD.of0 M14, by rw [yaG, yaG, ← List.length_append, eF]; omega, ?_⟩
  rw [ybF, eF]
  refine ⟨by rw [yaG, yaG]; omega, ?_⟩
  rw [ybF]
  refine yyT (r.found.length - (k + 1)) (by omega) ⟨k + 1, by rw [yaH (by omega) (by omega)]; omega, by omega, ?_, N14, rfl⟩
  rw [ydQ, ydQ, ybD hy, ← List.append_assoc]
 ·have hk : k = r.found.length := by omega
  subst hk
  refine (yb7 (x := (p.n : Nat)) (yrV (by omega) (by omega)) w11).mono ?_
  rintro _ w12 ⟨rfl, M12⟩
  refine ⟨_, rfl, yaD.of0 M12, by rw [yaG, yaG, Int.toNat_natCast]; omega, ?_⟩
  rw [ybF, Int.toNat_natCast]
  have e3 : ydQ r r.found.length ++ yaL p.n = yfR r 0 := by rw [ydQ, yfR, List.take_length, e5]; simp
  rw [e3]
  refine yyW (fun mm s x w' => ∃ k : Nat, x = k ∧ k ≤ r.parts.length ∧ s = bs (yfR r k) ∧ Mod [] w w' ∧ mm = r.parts.length - k) r.parts.length ⟨0, rfl, by omega, rfl, M11.go0 M12 (by simp), rfl⟩ ?_
  rintro mm s x w13 ⟨k, rfl, hk, rfl, M13, rfl⟩
  have l3 := G.len3 k
  refine yaE (fun hlt => ?_) fun hge => ?_
  ·obtain ⟨y, hy⟩ : ∃ y, r.parts[k]? = some y := ⟨_, List.getElem?_eq_getElem (by omega)⟩
   obtain ⟨y1, y2⟩ := G.p y (List.mem_of_getElem? hy)
   have ly := G.lenP (List.mem_of_getElem? hy)
   refine (h.keep0 M13).parts.ixW hy fun q hq => ?_
   intro w14 A14
   have N14 := M13.go0 A14.mod (by simp)
   refine yaI (x := y.t) (by simpa [add_zero] using hq w14 A14.mod 0 _ rfl) ?_
   refine (h.keep0 N14).parts.ixW hy fun q hq => ?_
   refine yaB (x := y.n) (hq w14 (Mod.refl _) 1 _ rfl) ?_
   refine (ybU y.t (by omega) w14).mono ?_
   rintro _ w15 ⟨rfl, M15⟩
   refine ⟨_, rfl, yaD.of0 M15, yaB (x := y.n) (hq w15 M15 1 _ rfl) rfl, rfl, ?_⟩
   refine (yb7 y1 w15).mono ?_
   rintro _ w16 ⟨rfl, M16⟩
   have N16 := (N14.go0 M15 (by simp)).go0 M16 (by simp)
   have eP : yb3 y.t ++ yaL y.n.toNat = yc4 y := rfl
   refine ⟨_, rfl, yaD.of0 M16, by rw [yaG, yaG, ← List.length_append, eP]; omega, ?_⟩
   rw [ybF, eP]
   refine ⟨by rw [yaG, yaG]; omega, ?_⟩
   rw [ybF]
   refine yyV (r.parts.length - (k + 1)) (by omega) ⟨k + 1, by rw [yaH (by omega) (by omega)]; omega, by omega, ?_, N16, rfl⟩
   rw [yfR, yfR, ybD hy, ← List.append_assoc]
  ·have hk : k = r.parts.length := by omega
   subst hk
   exact ⟨rfl, M13⟩
theorem yuD {w : World} {m : PMail} {s f p : Sl} (h : MailAt w m s f p) (hlc : m.calls.length ≤ 100000) :
  Calls pP 64 #[m.v s f p] w fun e w' => e = .returned (.int .i64 (ydF m)) ∧ Mod [] w w' := by
 obtain ⟨ll, hll, hop, hcs⟩ := h.calls
 have hl : ll.length ≤ 1000000 := by have := congrArg List.length hcs; simp at *; omega
 refine yaQ (yHL ?_)
 intro b1 f1
 refine yaE (fun g1 => fun w2 A2 => ⟨by rw [ydF, if_pos (.inl g1)], A2.mod⟩) fun g1 => ?_
 refine yaE (fun g2 => fun w2 A2 => ⟨by rw [ydF, if_pos (.inr (by omega))], A2.mod⟩) fun g2 => ?_
 have hE : ydF m = if ((yaW m).all num) = false then 1 else if ycL m.calls ≠ 0 then ycL m.calls else ygP m.r := by rw [ydF, if_neg (by omega)]
 intro w4 A4
 refine (yoU m s f p).mono ?_
 rintro e w5 ⟨_, rfl, c5, rfl, h5, M5⟩
 have N5 := A4.mod.go0 M5 (by simp)
 refine ⟨_, _, _, rfl, yaD.of0 M5, ?_⟩
 refine yyY (fun mm x w' => ∃ k : Nat, x = k ∧ k ≤ 10 ∧ ((yaW m).take k).all num = true ∧ mm = 10 - k ∧ Mod [] w5 w') 10 ⟨0, rfl, by omega, by simp, rfl, Mod.refl _⟩ ?_
 rintro mm x w6 ⟨k, rfl, hk, hal, rfl, M6⟩
 have N6 := N5.go0 M6 (by simp)
 refine yaE (fun hlt => ?_) fun hge => ?_
 ·have hk' : k < 10 := by omega
  obtain ⟨x, hx⟩ : ∃ x, (yaW m)[k]? = some x := ⟨_, List.getElem?_eq_getElem (by simpa [yaW] using hk')⟩
  refine (h5.keep0 M6).ix hx fun q hq => yaB (x := x) (by simpa [add_zero] using hq 0 _ rfl) ?_
  refine (yc0 x w6).mono ?_
  rintro _ w7 ⟨rfl, rfl⟩
  refine ⟨_, rfl, yaD.of0 (Mod.refl _), yaC (fun g3 => ⟨?_, N6⟩) fun g3 => ?_⟩
  ·rw [hE, if_pos]
   apply Bool.eq_false_iff.2
   intro hh
   have := List.all_eq_true.1 hh x (List.mem_of_getElem? hx)
   rw [this] at g3; cases g3
  ·exact yyX (10 - (k + 1)) (by omega) ⟨k + 1, by rw [yaH (by omega) (by omega)]; omega, by omega, by rw [ycG hx, hal, yjF g3]; rfl, rfl, M6⟩
 ·have hk' : k = 10 := by omega
  subst hk'
  rw [List.take_of_length_le (by simp [yaW])] at hal
  rw [hal, if_neg (by decide)] at hE
  refine (ynB (s := s) (ll := ll) ⟨hll.keep0 N6, fun q hq => (hop q hq).keep0 N6⟩ hl).mono ?_
  rw [hcs]
  rintro e w7 ⟨rfl, M7⟩
  have N7 := N6.go0 M7 (by simp)
  refine ⟨_, _, rfl, yaD.of0 M7, yaC (fun g => ?_) fun g => ?_⟩
  ·have g : ycL m.calls ≠ 0 := by simpa using g
   exact ⟨by rw [hE, if_pos g], N7⟩
  have g : ycL m.calls = 0 := by simpa using g
  rw [if_neg (by simpa using g)] at hE
  refine (ynC (h.rep.keep0 N7)).mono ?_
  rintro e w8 ⟨rfl, M8⟩
  exact ⟨_, _, rfl, yaD.of0 M8, by rw [hE], N7.go0 M8 (by simp)⟩
def ynD (n : Int) : List UInt8 := yaL n.toNat
def yb5 (m : PMail) : List UInt8 := (yaW m).flatMap ynD ++ yb3 (bs (ybZ m.calls)) ++ yb3 (bs (yeC m.r))
def ybK (m : PMail) : Int := if ydF m ≠ 0 then ydF m else if (yb5 m).length > 1048576 then 2 else 0
def ydG (m : PMail) : ByteArray := bs (yeM (bs (yb5 m)))
theorem ycI {m : PMail} (h : ybK m = 0) : ydF m = 0 ∧ (yb5 m).length ≤ 1048576 := by
 unfold ybK at h
 split at h
 ·rename_i g; exact absurd h g
 ·rename_i g
  split at h
  ·omega
  ·exact ⟨by simpa using g, by omega⟩
theorem ylA {xs : List PCall} (h : ycL xs = 0) : (ybZ xs).length ≤ 200000000 := by
 obtain ⟨h1, h2⟩ := yh2 h
 have h3 := ydD (f := ye5) (c := 40000) (l := xs) fun x hx => (ye6 (h2 x hx).1 (h2 x hx).2).1
 have h4 := (yaM xs.length (by omega)).2
 unfold ybZ; rw [List.length_append]; omega
theorem yf7 (m : PMail) : (yaW m).length = 10 := rfl
theorem yf8 {n : Int} (h : num n = true) : n.toNat < 18446744073709551616 ∧ (ynD n).length ≤ 10 := by
 have := yeO h
 exact ⟨by omega, (yaM n.toNat (by omega)).2⟩
theorem yfK {m : PMail} (h : (yaW m).all num = true) {k : Nat} {n : Int} (hn : (yaW m)[k]? = some n) : num n = true := List.all_eq_true.1 h n (List.mem_of_getElem? hn)
theorem ye8 {m : PMail} (h : (yaW m).all num = true) (k : Nat) : (((yaW m).take k).flatMap ynD).length ≤ 100 := by
 have := ydD (f := ynD) (c := 10) (l := (yaW m).take k) fun x hx => (yf8 (List.all_eq_true.1 h x (List.mem_of_mem_take hx))).2
 have e : ((yaW m).take k).length ≤ 10 := by rw [List.length_take, yf7]; omega
 omega
theorem yrY {m : PMail} (h : ydF m = 0) : (yb5 m).length ≤ 300000000 := by
 obtain ⟨_, h1, h2, h3⟩ := ycQ h
 have l1 := ye8 h1 10
 rw [List.take_of_length_le (by rw [yf7]; omega)] at l1
 have l2 := ylA h2
 have l3 := (RepGood.of h3).len3 m.r.parts.length
 have l3 : (yeC m.r).length ≤ 60000 := l3
 have p2 := (yaV (bs (ybZ m.calls)) (by rw [yaG]; omega)).2
 have p3 := (yaV (bs (yeC m.r)) (by rw [yaG]; omega)).2
 rw [yaG] at p2 p3
 unfold yb5; rw [List.length_append, List.length_append]; omega
def yjP (m : PMail) (k : Nat) : Nat := (((yaW m).take k).flatMap ynD).length
theorem yEC {m : PMail} (h : (yaW m).all num = true) {k : Nat} {n : Int} (hn : (yaW m)[k]? = some n) : yfS (yb5 m) (yjP m k) = some (n.toNat, yjP m (k + 1)) := by
 have hs := yf8 (yfK h hn)
 have hk := (List.getElem?_eq_some_iff.1 hn).1
 have e : yaW m = (yaW m).take k ++ n :: (yaW m).drop (k + 1) := by
  have h2 := List.drop_eq_getElem_cons hk
  have h3 : (yaW m)[k] = n := (List.getElem?_eq_some_iff.1 hn).2
  rw [h3] at h2
  rw [← h2, List.take_append_drop]
 have hd : (yb5 m).drop (yjP m k) = ynD n ++ (((yaW m).drop (k + 1)).flatMap ynD ++ yb3 (bs (ybZ m.calls)) ++ yb3 (bs (yeC m.r))) := by
  have e2 : (yaW m).flatMap ynD = ((yaW m).take k).flatMap ynD ++ (ynD n ++ ((yaW m).drop (k + 1)).flatMap ynD) := by
   conv => lhs; rw [e]
   rw [List.flatMap_append, List.flatMap_cons]
  unfold yb5 yjP
  rw [e2]
  simp only [List.append_assoc]
  rw [List.drop_left']
  rfl
 rw [ygJ (n := n.toNat) hs.1 hd]
 congr 2
 unfold yjP
 rw [ybD hn, List.length_append]; rfl
theorem yED {m : PMail} (h : ybK m = 0) : ym2 1048576 (yb5 m) (yjP m 10) = some (bs (ybZ m.calls), yjP m 10 + (yb3 (bs (ybZ m.calls))).length) ∧
  ym2 1048576 (yb5 m) (yjP m 10 + (yb3 (bs (ybZ m.calls))).length) = some (bs (yeC m.r), (yb5 m).length) := by
 obtain ⟨_, hl⟩ := ycI h
 have e10 : yjP m 10 = ((yaW m).flatMap ynD).length := by unfold yjP; rw [List.take_of_length_le (by rw [yf7]; omega)]
 have hd1 : (yb5 m).drop (yjP m 10) = yb3 (bs (ybZ m.calls)) ++ yb3 (bs (yeC m.r)) := by
  rw [e10]; unfold yb5; rw [List.append_assoc, List.drop_left']; rfl
 have hd2 : (yb5 m).drop (yjP m 10 + (yb3 (bs (ybZ m.calls))).length) = yb3 (bs (yeC m.r)) ++ [] := by
  rw [List.append_nil, yaU hd1]
 have hlen : (yb5 m).length = yjP m 10 + (yb3 (bs (ybZ m.calls))).length + (yb3 (bs (yeC m.r))).length := by
  rw [e10]; unfold yb5; rw [List.length_append, List.length_append]
 have z1 : (bs (ybZ m.calls)).size ≤ (yb3 (bs (ybZ m.calls))).length := by unfold yb3; rw [List.length_append]; simp
 have z2 : (bs (yeC m.r)).size ≤ (yb3 (bs (yeC m.r))).length := by unfold yb3; rw [List.length_append]; simp
 refine ⟨yfJ (by omega) (by omega) hd1, ?_⟩
 rw [yfJ (by omega) (by omega) hd2, hlen]
theorem yCW {x y : PMail} (hx : ybK x = 0) (hy : ybK y = 0) (h : ydG x = ydG y) : yb5 x = yb5 y := by
 have h := yq8 h
 obtain ⟨_, l1⟩ := ycI hx
 obtain ⟨_, l2⟩ := ycI hy
 have c1 := yvC (lim := 1048576) (bs (yb5 x)) [] (by rw [yaG]; omega) (by rw [yaG]; omega)
 have c2 := yvC (lim := 1048576) (bs (yb5 y)) [] (by rw [yaG]; omega) (by rw [yaG]; omega)
 rw [h, c2] at c1
 have := (Prod.mk.inj (Option.some.inj c1)).1
 exact (yq8 this).symm
theorem yHP {x : PMail} (hx : ybK x = 0) : cg 1048576 (ydG x).data.toList = some (bs (yb5 x), (yeM (bs (yb5 x))).length) := by
 obtain ⟨_, l1⟩ := ycI hx
 have := yvC (lim := 1048576) (bs (yb5 x)) [] (by rw [yaG]; omega) (by rw [yaG]; omega)
 rw [List.append_nil] at this
 rw [ydG, yeS]; exact this
theorem yiZ {α : Type} {f : α → List UInt8} {l : List α} {k : Nat} {x : α} (h : l[k]? = some x) : l.flatMap f = (l.take k).flatMap f ++ (f x ++ (l.drop (k + 1)).flatMap f) := by
 have hk := (List.getElem?_eq_some_iff.1 h).1
 have h2 := List.drop_eq_getElem_cons hk
 have h3 : l[k] = x := (List.getElem?_eq_some_iff.1 h).2
 rw [h3] at h2
 conv => lhs; rw [← List.take_append_drop k l, h2]
 rw [List.flatMap_append, List.flatMap_cons]
theorem ypG {p q l : List UInt8} (h : l = p ++ q) : l.drop p.length = q := by
 rw [h, List.drop_left']; rfl
theorem yLN {r : PRep} {k n : Nat} (h : (hdL r)[k]? = some n) : ∃ t, (yeC r).drop (yjO r k).length = yaL n ++ t :=
 ⟨_, ypG (p := yjO r k) (by unfold yeC yfR yjO; rw [yiZ h]; simp only [List.append_assoc]; rfl)⟩
theorem yMJ {r : PRep} {k : Nat} {y : PFound} (h : r.found[k]? = some y) : ∃ t, (yeC r).drop (ydQ r k).length = yaL y.off.toNat ++ (ygW y.r ++ t) :=
 ⟨_, ypG (p := ydQ r k) (by unfold yeC yfR ydQ; rw [yiZ h, yf1]; simp only [List.append_assoc]; rfl)⟩
theorem yLO (r : PRep) : ∃ t, (yeC r).drop (ydQ r r.found.length).length = yaL r.parts.length ++ t :=
 ⟨_, ypG (p := ydQ r r.found.length) (by unfold yeC yfR ydQ; simp only [List.take_length, List.append_assoc]; rfl)⟩
theorem yMK {r : PRep} {k : Nat} {y : PPart} (h : r.parts[k]? = some y) : ∃ t, (yeC r).drop (yfR r k).length = yc4 y ++ t :=
 ⟨_, ypG (p := yfR r k) (by unfold yeC; rw [yfR, yfR, List.take_length, yiZ h]; simp only [List.append_assoc]; rfl)⟩
theorem yCX (r : PRep) : yjO r 5 = ydQ r 0 := by rw [yjO, ydQ, List.take_of_length_le (by simp [hdL])]; simp
theorem yLP (r : PRep) : yfR r 0 = ydQ r r.found.length ++ yaL r.parts.length := by rw [ydQ, yfR, List.take_length]; simp
theorem yCY {r : PRep} {k n : Nat} (h : (hdL r)[k]? = some n) : (yjO r (k + 1)).length = (yjO r k).length + (yaL n).length := by rw [yjO, ybD h, List.length_append]; rfl
theorem yCZ {r : PRep} {k : Nat} {y : PFound} (h : r.found[k]? = some y) : (ydQ r (k + 1)).length = (ydQ r k).length + (yaL y.off.toNat).length + (ygW y.r).length := by
 have e : ydQ r (k + 1) = ydQ r k ++ yf1 y := by rw [ydQ, ydQ, ybD h, ← List.append_assoc]
 rw [e, List.length_append, yf1, List.length_append]; omega
theorem yC0 {r : PRep} {k : Nat} {y : PPart} (h : r.parts[k]? = some y) : (yfR r (k + 1)).length = (yfR r k).length + (yc4 y).length := by
 rw [yfR, yfR, ybD h, ← List.append_assoc, List.length_append]
def hdI (r : PRep) : List Int := [r.e, r.off, r.n, r.gen, r.found.length]
theorem yLQ {r : PRep} (G : RepGood r) {k : Nat} {n : Int} (h : (hdI r)[k]? = some n) : num n = true ∧ (hdL r)[k]? = some n.toNat := by
 obtain ⟨n0, n1, n2, n3⟩ := G.nn
 have lf := G.lf
 have d0 := G.hd r.e.toNat (by simp [hdL])
 have d1 := G.hd r.off.toNat (by simp [hdL])
 have d2 := G.hd r.n.toNat (by simp [hdL])
 have d3 := G.hd r.gen.toNat (by simp [hdL])
 have hk := (List.getElem?_eq_some_iff.1 h).1
 simp [hdI] at hk
 match k, hk, h with
 | 0, _, h => simp [hdI] at h; subst h; exact ⟨yf6 n0 d0, rfl⟩
 | 1, _, h => simp [hdI] at h; subst h; exact ⟨yf6 n1 d1, rfl⟩
 | 2, _, h => simp [hdI] at h; subst h; exact ⟨yf6 n2 d2, rfl⟩
 | 3, _, h => simp [hdI] at h; subst h; exact ⟨yf6 n3 d3, rfl⟩
 | 4, _, h => simp [hdI] at h; subst h; exact ⟨yrV (by omega) (by omega), by simp [hdL]⟩
def ygL (s : ByteArray) (x : PRep) : Prop := ygP x = 0 ∧ s.data.toList = yeC x
theorem ygL.eq {s : ByteArray} {x : PRep} (h : ygL s x) : s = bs (yeC x) := by
 have := h.2; rw [← this, yq7]
theorem ygL.of {s : ByteArray} {x : PRep} (h : ygP x = 0) (hs : s = bs (yeC x)) : ygL s x := ⟨h, by rw [hs, yeS]⟩
theorem ygL.hd {s : ByteArray} {x : PRep} (h : ygL s x) {k : Nat} {n : Int} (hn : (hdI x)[k]? = some n) : ybO s.data.toList (some (yjO x k).length) 0 = (some (yjO x (k + 1)).length, n) := by
 obtain ⟨h1, h2⟩ := yLQ (RepGood.of h.1) hn
 obtain ⟨t, ht⟩ := yLN h2
 rw [h.2, ybT h1 ht, yCY h2]
theorem ygL.f {s : ByteArray} {x : PRep} (h : ygL s x) {k : Nat} {y : PFound} (hy : x.found[k]? = some y) :
  ybO s.data.toList (some (ydQ x k).length) 0 = (some ((ydQ x k).length + (yaL y.off.toNat).length), y.off) ∧ yrK s.data.toList ((ydQ x k).length + (yaL y.off.toNat).length) = some (y.r, (ydQ x (k + 1)).length) := by
 obtain ⟨h1, h2⟩ := (RepGood.of h.1).f y (List.mem_of_getElem? hy)
 obtain ⟨t, ht⟩ := yMJ hy
 rw [h.2, ybT h1 ht]
 refine ⟨rfl, ?_⟩
 rw [ywB h2 (yaU ht), yCZ hy]
theorem ygL.np {s : ByteArray} {x : PRep} (h : ygL s x) : ybO s.data.toList (some (ydQ x x.found.length).length) 0 = (some (yfR x 0).length, ((x.parts.length : Nat) : Int)) := by
 obtain ⟨t, ht⟩ := yLO x
 have lp := (RepGood.of h.1).lp
 rw [h.2, ybT (n := (x.parts.length : Nat)) (yrV (by omega) (by omega)) (by simpa using ht), yLP, List.length_append]
 rfl
theorem ygL.p {s : ByteArray} {x : PRep} (h : ygL s x) {k : Nat} {y : PPart} (hy : x.parts[k]? = some y) : ydE s.data.toList (some (yfR x k).length) = (some (yfR x (k + 1)).length, y) := by
 obtain ⟨h1, h2⟩ := (RepGood.of h.1).p y (List.mem_of_getElem? hy)
 have h3 := (RepGood.of h.1).lenP (List.mem_of_getElem? hy)
 obtain ⟨t, ht⟩ := yMK hy
 rw [h.2, yeE h3.2 h1 ht, yC0 hy]
theorem yw2 {x y : PRep} (hx : ygP x = 0) (hy : ygP y = 0) (h : yeC x = yeC y) : x = y := by
 have X : ygL (bs (yeC x)) x := ⟨hx, yeS _⟩
 have Y : ygL (bs (yeC x)) y := ⟨hy, by rw [yeS, h]⟩
 have hd : ∀ k, k ≤ 5 → (yjO x k).length = (yjO y k).length ∧ (hdI x).take k = (hdI y).take k := by
  intro k
  induction k with
  | zero => intro _; exact ⟨rfl, rfl⟩
  | succ k ih =>
   intro hk
   obtain ⟨i1, i2⟩ := ih (by omega)
   obtain ⟨a, ha⟩ : ∃ a, (hdI x)[k]? = some a := ⟨_, List.getElem?_eq_getElem (by simp [hdI]; omega)⟩
   obtain ⟨b, hb⟩ : ∃ b, (hdI y)[k]? = some b := ⟨_, List.getElem?_eq_getElem (by simp [hdI]; omega)⟩
   have h1 := X.hd ha
   have h2 := Y.hd hb
   rw [i1, h2] at h1
   simp only [Prod.mk.injEq, Option.some.injEq] at h1
   exact ⟨h1.1.symm, by rw [List.take_add_one, List.take_add_one, ha, hb, i2, h1.2]⟩
 obtain ⟨h5, hI⟩ := hd 5 (Nat.le_refl _)
 rw [List.take_of_length_le (by simp [hdI]), List.take_of_length_le (by simp [hdI])] at hI
 simp only [hdI, List.cons.injEq, and_true] at hI
 obtain ⟨e1, e2, e3, e4, e5⟩ := hI
 have e5 : x.found.length = y.found.length := by omega
 rw [yCX, yCX] at h5
 have hf : ∀ k, k ≤ x.found.length → (ydQ x k).length = (ydQ y k).length ∧ x.found.take k = y.found.take k := by
  intro k
  induction k with
  | zero => intro _; exact ⟨h5, rfl⟩
  | succ k ih =>
   intro hk
   obtain ⟨i1, i2⟩ := ih (by omega)
   obtain ⟨a, ha⟩ : ∃ a, x.found[k]? = some a := ⟨_, List.getElem?_eq_getElem (by omega)⟩
   obtain ⟨b, hb⟩ : ∃ b, y.found[k]? = some b := ⟨_, List.getElem?_eq_getElem (by omega)⟩
   obtain ⟨h1, h2⟩ := X.f ha
   obtain ⟨h3, h4⟩ := Y.f hb
   rw [i1, h3] at h1
   simp only [Prod.mk.injEq, Option.some.injEq] at h1
   rw [i1, ← h1.1, h4] at h2
   simp only [Prod.mk.injEq, Option.some.injEq] at h2
   have : a = b := by
    obtain ⟨o1, q1⟩ := a
    obtain ⟨o2, q2⟩ := b
    simp only [PFound.mk.injEq]
    exact ⟨h1.2.symm, h2.1.symm⟩
   exact ⟨h2.2.symm, by rw [List.take_add_one, List.take_add_one, ha, hb, i2, this]⟩
 obtain ⟨h6, e6⟩ := hf _ (Nat.le_refl _)
 rw [List.take_length, e5, List.take_length] at e6
 have h7 := X.np
 have h8 := Y.np
 rw [h6, e5, h8] at h7
 simp only [Prod.mk.injEq, Option.some.injEq] at h7
 have e7 : x.parts.length = y.parts.length := by omega
 have hp : ∀ k, k ≤ x.parts.length → (yfR x k).length = (yfR y k).length ∧ x.parts.take k = y.parts.take k := by
  intro k
  induction k with
  | zero => intro _; exact ⟨h7.1.symm, rfl⟩
  | succ k ih =>
   intro hk
   obtain ⟨i1, i2⟩ := ih (by omega)
   obtain ⟨a, ha⟩ : ∃ a, x.parts[k]? = some a := ⟨_, List.getElem?_eq_getElem (by omega)⟩
   obtain ⟨b, hb⟩ : ∃ b, y.parts[k]? = some b := ⟨_, List.getElem?_eq_getElem (by omega)⟩
   have h1 := X.p ha
   have h2 := Y.p hb
   rw [i1, h2] at h1
   simp only [Prod.mk.injEq, Option.some.injEq] at h1
   exact ⟨h1.1.symm, by rw [List.take_add_one, List.take_add_one, ha, hb, i2, h1.2]⟩
 obtain ⟨_, e8⟩ := hp _ (Nat.le_refl _)
 rw [List.take_length, e7, List.take_length] at e8
 obtain ⟨x1, x2, x3, x4, x5, x6⟩ := x
 obtain ⟨y1, y2, y3, y4, y5, y6⟩ := y
 simp only [PRep.mk.injEq]
 exact ⟨e1, e2, e3, e4, e6, e8⟩
section
set_option maxRecDepth 100000
variable {R : VWP} {w w0 : World} {m : Nat} {i0 i1 i2 i3 i4 i5 i6 i7 i8 i9 j0 j1 j2 j3 j4 j5 j6 j7 j8 j9 k0 k1 k2 k3 k4 k5 k6 k7 k8 k9 l0 l1 l2 l3 l4 l5 l6 l7 l8 l9 : Int} {s0 s1 s2 s3 s4 s5 s6 s7 s8 s9 t0 t1 t2 t3 t4 t5 t6 t7 t8 t9 : BA} {n0 n1 n2 n3 n4 n5 n6 n7 n8 n9 o0 o1 o2 o3 o4 o5 o6 o7 o8 o9 p0 p1 p2 p3 p4 p5 p6 p7 p8 p9 : Nat} {q0 q1 q2 q3 q4 q5 q6 q7 q8 q9 r0 r1 r2 r3 r4 r5 r6 r7 r8 r9 : OA} {B0 B1 B2 B3 B4 B5 B6 B7 B8 B9 : Bool} {M0 M1 M2 M3 : Option Nat} {V0 V1 V2 V3 V4 V5 : Value} {A0 A1 A2 : Addr}
def ypH : LA := ⟨[0, 0, 1, 0, 1, 1, 1, 1], [0, 2, 4, 5, 6, 7, 8, 26, 27, 28], [(2, 0, 0), (4, 1, 0), (5, 2, 0), (6, 3, 0), (7, 4, 0), (8, 5, 0)], 6, [1, 2, 3, 4]⟩
def ypI : LA := ⟨[0, 0, 1, 0, 1, 1, 1, 1, 1, 1], [0, 2, 4, 5, 7, 8, 11], [(2, 0, 0), (4, 1, 0), (5, 2, 0), (7, 4, 0), (8, 5, 0)], 6, [1, 2, 3, 4]⟩
def yh3 : LA := ⟨[0, 0, 1, 0, 1, 1, 1, 1, 1, 1, 1, 1], [0, 2, 4, 5, 8, 16], [(2, 0, 0), (4, 1, 0), (5, 2, 0), (8, 5, 0)], 6, [1, 2, 3, 4, 5]⟩
def ypJ : List LA := [ypH, ypI, yh3]
abbrev yjJ := dnF pP ypJ (code Tryz.f88)
abbrev yLR := yaO pP ypJ (code Tryz.f88)
abbrev ylB (p : List Nat) (K : List Kh) (R : VWP) := yaO pP ypJ (code Tryz.f88) p K (ya7 pP Tryz.f88 [] R)
def yi0 (b9 : BA) (b5 : OA) (b7 b6 bm0 bm1 bm2 bm3 bm4 bm5 : Nat) : Int × ByteArray × Int × Int × Int × Int × Int × Int × (Option Addr) × Nat × Nat × (Option Addr) × Nat × Nat × Int × Int → List Value × List TB := fun (b8, a6, a7, a8, a9, b0, b1, b2, a0, a4, a2, a1, a5, a3, b3, b4) => ([.string b9, (.pointer (some ⟨bm0, 0, none⟩)), (.pointer (some ⟨bm1, 0, none⟩)), (.pointer (some ⟨bm2, 0, none⟩)), (.pointer (some ⟨bm3, 0, none⟩)), (.pointer (some ⟨bm4, 0, none⟩)), (.pointer (some ⟨bm5, 0, none⟩)), .slice b5 b7 b6, (.int .i64 (5 : Int)), .int .i64 b8], [⟨bm0, 35, [.int .i64 0, .int .i64 0, .int .i64 0, .int .i64 0, .slice none 0 0, .slice none 0 0], false⟩, ⟨bm1, 191, [.string a6, .int .i64 a7, .int .i64 a8], true⟩, ⟨bm2, 35, [.int .i64 a9, .int .i64 b0, .int .i64 b1, .int .i64 b2, .slice a0 a4 a2, .slice a1 a5 a3], true⟩, ⟨bm3, 3, [.int .i64 b3], true⟩, ⟨bm4, 3, [.int .i64 b4], true⟩, ⟨bm5, 3, [.int .i64 0], false⟩])
def yfL (b6 : BA) (bm0 bm1 bm2 bm3 bm4 bm5 : Nat) : Int × ByteArray × Int × Int × Int × Int × Int × Int × (Option Addr) × Nat × Nat × (Option Addr) × Nat × Nat × Int × Int → List Value × List TB := fun (b5, a6, a7, a8, a9, b0, b1, b2, a0, a4, a2, a1, a5, a3, b3, b4) => ([.string b6, (.pointer (some ⟨bm0, 0, none⟩)), (.pointer (some ⟨bm1, 0, none⟩)), (.pointer (some ⟨bm2, 0, none⟩)), (.pointer (some ⟨bm4, 0, none⟩)), (.pointer (some ⟨bm5, 0, none⟩)), .int .i64 b5], [⟨bm0, 35, [.int .i64 0, .int .i64 0, .int .i64 0, .int .i64 0, .slice none 0 0, .slice none 0 0], false⟩, ⟨bm1, 191, [.string a6, .int .i64 a7, .int .i64 a8], true⟩, ⟨bm2, 35, [.int .i64 a9, .int .i64 b0, .int .i64 b1, .int .i64 b2, .slice a0 a4 a2, .slice a1 a5 a3], true⟩, ⟨bm3, 3, [.int .i64 b3], true⟩, ⟨bm4, 3, [.int .i64 b4], true⟩, ⟨bm5, 3, [.int .i64 0], false⟩])
def yf9 (b7 : BA) (bm0 bm1 bm2 bm3 bm4 bm5 : Nat) : Int × ByteArray × Int × Int × Int × Int × Int × Int × (Option Addr) × Nat × Nat × (Option Addr) × Nat × Nat × Int × Int × Int → List Value × List TB := fun (b6, a6, a7, a8, a9, b0, b1, b2, a0, a4, a2, a1, a5, a3, b3, b4, b5) => ([.string b7, (.pointer (some ⟨bm0, 0, none⟩)), (.pointer (some ⟨bm1, 0, none⟩)), (.pointer (some ⟨bm2, 0, none⟩)), (.pointer (some ⟨bm5, 0, none⟩)), .int .i64 b6], [⟨bm0, 35, [.int .i64 0, .int .i64 0, .int .i64 0, .int .i64 0, .slice none 0 0, .slice none 0 0], false⟩, ⟨bm1, 191, [.string a6, .int .i64 a7, .int .i64 a8], true⟩, ⟨bm2, 35, [.int .i64 a9, .int .i64 b0, .int .i64 b1, .int .i64 b2, .slice a0 a4 a2, .slice a1 a5 a3], true⟩, ⟨bm3, 3, [.int .i64 b3], true⟩, ⟨bm4, 3, [.int .i64 b4], true⟩, ⟨bm5, 3, [.int .i64 b5], true⟩])
abbrev yC1 (a3 : BA) (a0 : OA) (a2 a1 bm0 bm1 bm2 bm3 bm4 bm5 : Nat) (I : Nat → Int → ByteArray → Int → Int → Int → Int → Int → Int → Option Addr → Nat → Nat → Option Addr → Nat → Nat → Int → Int → World → Prop) (m : Nat) : Kh := KG (yi0 a3 a0 a2 a1 bm0 bm1 bm2 bm3 bm4 bm5) (U16 I) m
theorem ye9 {I : Nat → Int → ByteArray → Int → Int → Int → Int → Int → Int → Option Addr → Nat → Nat → Option Addr → Nat → Nat → Int → Int → World → Prop} (m' : Nat) (h1 : m' < m) (h2 : I m' i0 s1 i1 i2 i3 i4 i5 i6 q1 n8 n9 q2 o0 o1 i7 i8 w) : KS (yC1 s0 q0 n0 n1 n2 n3 n4 n5 n6 n7 I m) (yi0 s0 q0 n0 n1 n2 n3 n4 n5 n6 n7 (i0, s1, i1, i2, i3, i4, i5, i6, q1, n8, n9, q2, o0, o1, i7, i8)) w := ⟨m', h1, _, rfl, rfl, h2⟩
theorem yy3 (I : Nat → Int → ByteArray → Int → Int → Int → Int → Int → Int → Option Addr → Nat → Nat → Option Addr → Nat → Nat → Int → Int → World → Prop) (m0 : Nat) (h0 : I m0 i0 s1 i1 i2 i3 i4 i5 i6 q1 n8 n9 q2 o0 o1 i7 i8 w0)
 (hr : ∀ m b6 a7 a8 a9 b4 b0 b1 b2 a1 a5 a3 a2 a6 a4 a0 b3 w, I m b6 a7 a8 a9 b4 b0 b1 b2 a1 a5 a3 a2 a6 a4 a0 b3 w →
 w.heap[n3]? = some (.cells (Z2 a7 a8 a9) 191) →
 w.heap[n4]? = some (.cells (Z3 b4 b0 b1 b2 a1 a5 a3 a2 a6 a4) 35) →
 w.heap[n5]? = some (.cells #[.int .i64 a0] 3) →
 w.heap[n6]? = some (.cells #[.int .i64 b3] 3) →
 brB (decide (b6 < (5 : Int))) (
 ixA q0 n0 b6 1 fun f4 =>
 yxA w f4 fun f3 =>
 Calls pP 125 #[(.pointer (some ⟨n3, 0, none⟩)), .pointer f3] w fun e c6 => e = .returned (.tuple #[]) ∧ ya4 [n3, n4, n5, n6] [(n2, 35), (n7, 3)] [n2, n7] w c6 ∧ ∃ e4 e5 e6, c6.heap[n3]? = some (.cells (Z2 e4 e5 e6) 191) ∧ ∃ e7 e8 e9 f0 d8 e2 e0 d9 e3 e1, c6.heap[n4]? = some (.cells (Z3 e7 e8 e9 f0 d8 e2 e0 d9 e3 e1) 35) ∧ ∃ f1, c6.heap[n5]? = some (.cells #[.int .i64 f1] 3) ∧ ∃ f2, c6.heap[n6]? = some (.cells #[.int .i64 f2] 3) ∧
 KS (yC1 s0 q0 n0 n1 n2 n3 n4 n5 n6 n7 I m) (yi0 s0 q0 n0 n1 n2 n3 n4 n5 n6 n7 ((IntKind.wrap .i64 (b6 + 1)), e4, e5, e6, e7, e8, e9, f0, d8, e2, e0, d9, e3, e1, f1, f2)) c6)
 (
 ∀ b5, Adv [n4] [] w b5 → b5.heap[n3]? = some (.cells (Z2 a7 a8 a9) 191) →
 b5.heap[n4]? = some (.cells (Z3 a0 b0 b1 b2 a1 a5 a3 a2 a6 a4) 35) →
 b5.heap[n5]? = some (.cells #[.int .i64 a0] 3) →
 b5.heap[n6]? = some (.cells #[.int .i64 b3] 3) →
 yaJ ypI (yjJ 392 [0, 0, 1, 0, 1, 1, 1, 1, 1, 1]) (ylB [1, 1, 1, 1, 1, 1, 0, 1, 0] [] R) (yfL s0 n2 n3 n4 n5 n6 n7 (0, a7, a8, a9, a0, b0, b1, b2, a1, a5, a3, a2, a6, a4, a0, b3)) b5)) :
 yaJ ypH (yjJ 394 [0, 0, 1, 0, 1, 1, 1, 1]) (ylB [1, 1, 1, 1, 0, 1, 0] [] R) (yi0 s0 q0 n0 n1 n2 n3 n4 n5 n6 n7 (i0, s1, i1, i2, i3, i4, i5, i6, q1, n8, n9, q2, o0, o1, i7, i8)) w0 :=
 lrule (yi0 s0 q0 n0 n1 n2 n3 n4 n5 n6 n7) (U16 I) h0 (by rintro m ⟨b6, a7, a8, a9, b4, b0, b1, b2, a1, a5, a3, a2, a6, a4, a0, b3⟩ w h; exact ⟨by kernel_rfl, by kernel_rfl, fun js => Eq.mpr (by kernel_rfl) (hr m b6 a7 a8 a9 b4 b0 b1 b2 a1 a5 a3 a2 a6 a4 a0 b3 w h)⟩)
abbrev ylC (a0 : BA) (bm0 bm1 bm2 bm3 bm4 bm5 : Nat) (I : Nat → Int → ByteArray → Int → Int → Int → Int → Int → Int → Option Addr → Nat → Nat → Option Addr → Nat → Nat → Int → Int → World → Prop) (m : Nat) : Kh := KG (yfL a0 bm0 bm1 bm2 bm3 bm4 bm5) (U16 I) m
theorem ygM {I : Nat → Int → ByteArray → Int → Int → Int → Int → Int → Int → Option Addr → Nat → Nat → Option Addr → Nat → Nat → Int → Int → World → Prop} (m' : Nat) (h1 : m' < m) (h2 : I m' i0 s1 i1 i2 i3 i4 i5 i6 q0 n6 n7 q1 n8 n9 i7 i8 w) : KS (ylC s0 n0 n1 n2 n3 n4 n5 I m) (yfL s0 n0 n1 n2 n3 n4 n5 (i0, s1, i1, i2, i3, i4, i5, i6, q0, n6, n7, q1, n8, n9, i7, i8)) w := ⟨m', h1, _, rfl, rfl, h2⟩
theorem yy4 (I : Nat → Int → ByteArray → Int → Int → Int → Int → Int → Int → Option Addr → Nat → Nat → Option Addr → Nat → Nat → Int → Int → World → Prop) (m0 : Nat) (h0 : I m0 i0 s1 i1 i2 i3 i4 i5 i6 q0 n6 n7 q1 n8 n9 i7 i8 w0)
 (hr : ∀ m c3 a9 b0 a1 b1 b2 b3 b4 a3 a7 a5 a4 a8 a6 b5 a2 w, I m c3 a9 b0 a1 b1 b2 b3 b4 a3 a7 a5 a4 a8 a6 b5 a2 w →
 w.heap[n1]? = some (.cells (Z2 a9 b0 a1) 191) →
 w.heap[n2]? = some (.cells (Z3 b1 b2 b3 b4 a3 a7 a5 a4 a8 a6) 35) →
 w.heap[n3]? = some (.cells #[.int .i64 b5] 3) →
 w.heap[n4]? = some (.cells #[.int .i64 a2] 3) →
 brB (decide (c3 < a2)) (
 brB (a1 == 0) (
 ∀ a0, w.heap.size ≤ a0 →
 ∀ e8, Adv [] [a0] w e8 → e8.heap[n1]? = some (.cells (Z2 a9 b0 a1) 191) →
 e8.heap[n2]? = some (.cells (Z3 b1 b2 b3 b4 a3 a7 a5 a4 a8 a6) 35) →
 e8.heap[n3]? = some (.cells #[.int .i64 b5] 3) →
 e8.heap[n4]? = some (.cells #[.int .i64 a2] 3) →
 e8.heap[a0]? = some (.cells (Z6 0 false ByteArray.empty false ByteArray.empty) 101) →
 Calls pP 125 #[(.pointer (some ⟨n1, 0, none⟩)), (.pointer (some ⟨a0, 0, none⟩))] e8 fun e d3 => e = .returned (.tuple #[]) ∧ ya4 [n1, n2, n3, n4, a0] [(n0, 35), (n5, 3)] [n0, n5] e8 d3 ∧ ∃ v0 v1 ci, d3.heap[n1]? = some (.cells (Z2 v0 v1 ci) 191) ∧ ∃ cj ck cl cm x8 ac z0 x9 ad z1, d3.heap[n2]? = some (.cells (Z3 cj ck cl cm x8 ac z0 x9 ad z1) 35) ∧ ∃ cn, d3.heap[n3]? = some (.cells #[.int .i64 cn] 3) ∧ ∃ co, d3.heap[n4]? = some (.cells #[.int .i64 co] 3) ∧ ∃ cp ap aj aq ak, d3.heap[a0]? = some (.cells (Z6 cp ap aj aq ak) 101) ∧
 ((
 ∀ d2, d3.heap.size ≤ d2 →
 ∀ e9, Adv [] [d2] d3 e9 → e9.heap[n1]? = some (.cells (Z2 v0 v1 ci) 191) →
 e9.heap[n2]? = some (.cells (Z3 cj ck cl cm x8 ac z0 x9 ad z1) 35) →
 e9.heap[n3]? = some (.cells #[.int .i64 cn] 3) →
 e9.heap[n4]? = some (.cells #[.int .i64 co] 3) →
 e9.heap[a0]? = some (.cells (Z6 cp ap aj aq ak) 101) →
 Calls pP 126 #[.string v0, .int .i64 v1] e9 fun e f2 => ∃ w5 w3 w6 w4 dc dd, e = .returned (.tuple #[(.agg (Z5 w5 w3 w6 w4)), .int .i64 dc, .int .i64 dd]) ∧ ya4 [n1, n2, n3, n4, a0] [(n0, 35), (n5, 3), (d2, 99)] [n0, n5, d2] e9 f2 ∧ ∃ cw de df, f2.heap[n1]? = some (.cells (Z2 cw de df) 191) ∧ ∃ dg dh di dj cq cu cs cr cv ct, f2.heap[n2]? = some (.cells (Z3 dg dh di dj cq cu cs cr cv ct) 35) ∧ ∃ dk, f2.heap[n3]? = some (.cells #[.int .i64 dk] 3) ∧ ∃ dl, f2.heap[n4]? = some (.cells #[.int .i64 dl] 3) ∧ ∃ dm cz cx da cy, f2.heap[a0]? = some (.cells (Z6 dm cz cx da cy) 101) ∧
 ∀ f0, Adv [d2] [] f2 f0 → f0.heap[n1]? = some (.cells (Z2 cw de df) 191) →
 f0.heap[n2]? = some (.cells (Z3 dg dh di dj cq cu cs cr cv ct) 35) →
 f0.heap[n3]? = some (.cells #[.int .i64 dk] 3) →
 f0.heap[n4]? = some (.cells #[.int .i64 dl] 3) →
 f0.heap[a0]? = some (.cells (Z6 dm cz cx da cy) 101) →
 Calls pP 127 (Z11 (some ⟨n1, 0, none⟩) dc dd) f0 fun e f1 => ∃ db, e = .returned (.bool db) ∧ ya4 [n1, n2, n3, n4, a0] [(n0, 35), (n5, 3), (d2, 99)] [n0, n5, d2] f0 f1 ∧ ∃ g2 g4 g5, f1.heap[n1]? = some (.cells (Z2 g2 g4 g5) 191) ∧ ∃ g6 g7 g8 g9 v9 w2 w1 f3 f9 f6, f1.heap[n2]? = some (.cells (Z3 g6 g7 g8 g9 v9 w2 w1 f3 f9 f6) 35) ∧ ∃ h1, f1.heap[n3]? = some (.cells #[.int .i64 h1] 3) ∧ ∃ h2, f1.heap[n4]? = some (.cells #[.int .i64 h2] 3) ∧ ∃ h3 ar v2 v6 v3, f1.heap[a0]? = some (.cells (Z6 h3 ar v2 v6 v3) 101) ∧
 brB db (
 ∀ c4, Adv [a0] [] f1 c4 → c4.heap[n1]? = some (.cells (Z2 g2 g4 g5) 191) →
 c4.heap[n2]? = some (.cells (Z3 g6 g7 g8 g9 v9 w2 w1 f3 f9 f6) 35) →
 c4.heap[n3]? = some (.cells #[.int .i64 h1] 3) →
 c4.heap[n4]? = some (.cells #[.int .i64 h2] 3) →
 c4.heap[a0]? = some (.cells (Z6 h3 w5 w3 w6 w4) 101) →
 al c4 (.cells (Z6 h3 w5 w3 w6 w4) 101) fun dn au =>
 ycE pP (Builtin.append_ #[32, 32] 32 #[.slice v9 w2 w1, (.slice (some ⟨dn, 0, none⟩) 1 1)]) au fun w8 z2 y0 av => yaD [n0, n1, n2, n3, n4, n5, a0, d2] au av ∧
 ∀ c5, Adv [n2] [] av c5 → c5.heap[n1]? = some (.cells (Z2 g2 g4 g5) 191) →
 c5.heap[n2]? = some (.cells (Z3 g6 g7 g8 g9 w8 z2 y0 f3 f9 f6) 35) →
 c5.heap[n3]? = some (.cells #[.int .i64 h1] 3) →
 c5.heap[n4]? = some (.cells #[.int .i64 h2] 3) →
 c5.heap[a0]? = some (.cells (Z6 h3 w5 w3 w6 w4) 101) →
 KS (ylC s0 n0 n1 n2 n3 n4 n5 I m) (yfL s0 n0 n1 n2 n3 n4 n5 ((IntKind.wrap .i64 (c3 + 1)), g2, g4, g5, g6, g7, g8, g9, w8, z2, y0, f3, f9, f6, h1, h2)) c5)
 (
 al f1 (.cells (Z6 h3 ar v2 v6 v3) 101) fun dp aw =>
 ycE pP (Builtin.append_ #[32, 32] 32 #[.slice v9 w2 w1, (.slice (some ⟨dp, 0, none⟩) 1 1)]) aw fun w9 z3 y1 ax => yaD [n0, n1, n2, n3, n4, n5, a0, d2] aw ax ∧
 ∀ c6, Adv [n2] [] ax c6 → c6.heap[n1]? = some (.cells (Z2 g2 g4 g5) 191) →
 c6.heap[n2]? = some (.cells (Z3 g6 g7 g8 g9 w9 z3 y1 f3 f9 f6) 35) →
 c6.heap[n3]? = some (.cells #[.int .i64 h1] 3) →
 c6.heap[n4]? = some (.cells #[.int .i64 h2] 3) →
 c6.heap[a0]? = some (.cells (Z6 h3 ar v2 v6 v3) 101) →
 KS (ylC s0 n0 n1 n2 n3 n4 n5 I m) (yfL s0 n0 n1 n2 n3 n4 n5 ((IntKind.wrap .i64 (c3 + 1)), g2, g4, g5, g6, g7, g8, g9, w9, z3, y1, f3, f9, f6, h1, h2)) c6)) ∧
 (
 ∀ b7, Adv [] [] d3 b7 → b7.heap[n1]? = some (.cells (Z2 v0 v1 ci) 191) →
 b7.heap[n2]? = some (.cells (Z3 cj ck cl cm x8 ac z0 x9 ad z1) 35) →
 b7.heap[n3]? = some (.cells #[.int .i64 cn] 3) →
 b7.heap[n4]? = some (.cells #[.int .i64 co] 3) →
 b7.heap[a0]? = some (.cells (Z6 cp ap aj aq ak) 101) →
 Calls pP 126 #[.string v0, .int .i64 v1] b7 fun e b8 => ∃ u7 u5 u9 u6 bc bd, e = .returned (.tuple #[(.agg (Z5 u7 u5 u9 u6)), .int .i64 bc, .int .i64 bd]) ∧ ya4 [n1, n2, n3, n4, a0] [(n0, 35), (n5, 3)] [n0, n5] b7 b8 ∧ ∃ ae be bf, b8.heap[n1]? = some (.cells (Z2 ae be bf) 191) ∧ ∃ bg bh bi bj x0 z4 y2 x1 z5 y3, b8.heap[n2]? = some (.cells (Z3 bg bh bi bj x0 z4 y2 x1 z5 y3) 35) ∧ ∃ bk, b8.heap[n3]? = some (.cells #[.int .i64 bk] 3) ∧ ∃ bl, b8.heap[n4]? = some (.cells #[.int .i64 bl] 3) ∧ ∃ bm am af an ag, b8.heap[a0]? = some (.cells (Z6 bm am af an ag) 101) ∧
 ∀ d5, b8.heap.size ≤ d5 →
 ∀ b9, Adv [] [d5] b8 b9 → b9.heap[n1]? = some (.cells (Z2 ae be bf) 191) →
 b9.heap[n2]? = some (.cells (Z3 bg bh bi bj x0 z4 y2 x1 z5 y3) 35) →
 b9.heap[n3]? = some (.cells #[.int .i64 bk] 3) →
 b9.heap[n4]? = some (.cells #[.int .i64 bl] 3) →
 b9.heap[a0]? = some (.cells (Z6 bm am af an ag) 101) →
 Calls pP 127 (Z11 (some ⟨n1, 0, none⟩) bc bd) b9 fun e c0 => ∃ ao, e = .returned (.bool ao) ∧ ya4 [n1, n2, n3, n4, a0] [(n0, 35), (n5, 3), (d5, 99)] [n0, n5, d5] b9 c0 ∧ ∃ d8 d9 e0, c0.heap[n1]? = some (.cells (Z2 d8 d9 e0) 191) ∧ ∃ e1 e2 e3 e4 u2 u4 u3 d4 d7 d6, c0.heap[n2]? = some (.cells (Z3 e1 e2 e3 e4 u2 u4 u3 d4 d7 d6) 35) ∧ ∃ e5, c0.heap[n3]? = some (.cells #[.int .i64 e5] 3) ∧ ∃ e6, c0.heap[n4]? = some (.cells #[.int .i64 e6] 3) ∧ ∃ e7 v7 v4 v8 v5, c0.heap[a0]? = some (.cells (Z6 e7 v7 v4 v8 v5) 101) ∧
 brB ao (
 ∀ c7, Adv [a0] [] c0 c7 → c7.heap[n1]? = some (.cells (Z2 d8 d9 e0) 191) →
 c7.heap[n2]? = some (.cells (Z3 e1 e2 e3 e4 u2 u4 u3 d4 d7 d6) 35) →
 c7.heap[n3]? = some (.cells #[.int .i64 e5] 3) →
 c7.heap[n4]? = some (.cells #[.int .i64 e6] 3) →
 c7.heap[a0]? = some (.cells (Z6 e7 u7 u5 u9 u6) 101) →
 al c7 (.cells (Z6 e7 u7 u5 u9 u6) 101) fun dq ay =>
 ycE pP (Builtin.append_ #[32, 32] 32 #[.slice u2 u4 u3, (.slice (some ⟨dq, 0, none⟩) 1 1)]) ay fun x2 z6 y4 az => yaD [n0, n1, n2, n3, n4, n5, a0, d5] ay az ∧
 ∀ c8, Adv [n2] [] az c8 → c8.heap[n1]? = some (.cells (Z2 d8 d9 e0) 191) →
 c8.heap[n2]? = some (.cells (Z3 e1 e2 e3 e4 x2 z6 y4 d4 d7 d6) 35) →
 c8.heap[n3]? = some (.cells #[.int .i64 e5] 3) →
 c8.heap[n4]? = some (.cells #[.int .i64 e6] 3) →
 c8.heap[a0]? = some (.cells (Z6 e7 u7 u5 u9 u6) 101) →
 KS (ylC s0 n0 n1 n2 n3 n4 n5 I m) (yfL s0 n0 n1 n2 n3 n4 n5 ((IntKind.wrap .i64 (c3 + 1)), d8, d9, e0, e1, e2, e3, e4, x2, z6, y4, d4, d7, d6, e5, e6)) c8)
 (
 al c0 (.cells (Z6 e7 v7 v4 v8 v5) 101) fun dr ba =>
 ycE pP (Builtin.append_ #[32, 32] 32 #[.slice u2 u4 u3, (.slice (some ⟨dr, 0, none⟩) 1 1)]) ba fun x3 z7 y5 bb => yaD [n0, n1, n2, n3, n4, n5, a0, d5] ba bb ∧
 ∀ c9, Adv [n2] [] bb c9 → c9.heap[n1]? = some (.cells (Z2 d8 d9 e0) 191) →
 c9.heap[n2]? = some (.cells (Z3 e1 e2 e3 e4 x3 z7 y5 d4 d7 d6) 35) →
 c9.heap[n3]? = some (.cells #[.int .i64 e5] 3) →
 c9.heap[n4]? = some (.cells #[.int .i64 e6] 3) →
 c9.heap[a0]? = some (.cells (Z6 e7 v7 v4 v8 v5) 101) →
 KS (ylC s0 n0 n1 n2 n3 n4 n5 I m) (yfL s0 n0 n1 n2 n3 n4 n5 ((IntKind.wrap .i64 (c3 + 1)), d8, d9, e0, e1, e2, e3, e4, x3, z7, y5, d4, d7, d6, e5, e6)) c9))))
 (
 ∀ c1, Adv [] [] w c1 → c1.heap[n1]? = some (.cells (Z2 a9 b0 a1) 191) →
 c1.heap[n2]? = some (.cells (Z3 b1 b2 b3 b4 a3 a7 a5 a4 a8 a6) 35) →
 c1.heap[n3]? = some (.cells #[.int .i64 b5] 3) →
 c1.heap[n4]? = some (.cells #[.int .i64 a2] 3) →
 c1.heap[n5]? = some (.cells #[.int .i64 0] 3) →
 Calls pP 125 #[(.pointer (some ⟨n1, 0, none⟩)), (.pointer (some ⟨n5, 0, none⟩))] c1 fun e d0 => e = .returned (.tuple #[]) ∧ ya4 [n1, n2, n3, n4, n5] [(n0, 35)] [n0] c1 d0 ∧ ∃ ah bn bo, d0.heap[n1]? = some (.cells (Z2 ah bn bo) 191) ∧ ∃ bp bq br bt x4 z8 y6 x5 z9 y7, d0.heap[n2]? = some (.cells (Z3 bp bq br bt x4 z8 y6 x5 z9 y7) 35) ∧ ∃ bu, d0.heap[n3]? = some (.cells #[.int .i64 bu] 3) ∧ ∃ bv, d0.heap[n4]? = some (.cells #[.int .i64 bv] 3) ∧ ∃ bw, d0.heap[n5]? = some (.cells #[.int .i64 bw] 3) ∧
 yaJ yh3 (yjJ 390 [0, 0, 1, 0, 1, 1, 1, 1, 1, 1, 1, 1]) (ylB [1, 1, 1, 1, 1, 1, 1, 1, 0, 1, 0] [] R) (yf9 s0 n0 n1 n2 n3 n4 n5 (0, ah, bn, bo, bp, bq, br, bt, x4, z8, y6, x5, z9, y7, bu, bv, bw)) d0))
 (
 ∀ c2, Adv [] [] w c2 → c2.heap[n1]? = some (.cells (Z2 a9 b0 a1) 191) →
 c2.heap[n2]? = some (.cells (Z3 b1 b2 b3 b4 a3 a7 a5 a4 a8 a6) 35) →
 c2.heap[n3]? = some (.cells #[.int .i64 b5] 3) →
 c2.heap[n4]? = some (.cells #[.int .i64 a2] 3) →
 c2.heap[n5]? = some (.cells #[.int .i64 0] 3) →
 Calls pP 125 #[(.pointer (some ⟨n1, 0, none⟩)), (.pointer (some ⟨n5, 0, none⟩))] c2 fun e d1 => e = .returned (.tuple #[]) ∧ ya4 [n1, n2, n3, n4, n5] [(n0, 35)] [n0] c2 d1 ∧ ∃ ai bx bz, d1.heap[n1]? = some (.cells (Z2 ai bx bz) 191) ∧ ∃ ca cb cc cd x6 aa y8 x7 ab y9, d1.heap[n2]? = some (.cells (Z3 ca cb cc cd x6 aa y8 x7 ab y9) 35) ∧ ∃ ce, d1.heap[n3]? = some (.cells #[.int .i64 ce] 3) ∧ ∃ cf, d1.heap[n4]? = some (.cells #[.int .i64 cf] 3) ∧ ∃ ch, d1.heap[n5]? = some (.cells #[.int .i64 ch] 3) ∧
 yaJ yh3 (yjJ 390 [0, 0, 1, 0, 1, 1, 1, 1, 1, 1, 1, 1]) (ylB [1, 1, 1, 1, 1, 1, 1, 1, 0, 1, 0] [] R) (yf9 s0 n0 n1 n2 n3 n4 n5 (0, ai, bx, bz, ca, cb, cc, cd, x6, aa, y8, x7, ab, y9, ce, cf, ch)) d1)) :
 yaJ ypI (yjJ 392 [0, 0, 1, 0, 1, 1, 1, 1, 1, 1]) (ylB [1, 1, 1, 1, 1, 1, 0, 1, 0] [] R) (yfL s0 n0 n1 n2 n3 n4 n5 (i0, s1, i1, i2, i3, i4, i5, i6, q0, n6, n7, q1, n8, n9, i7, i8)) w0 :=
 lrule (yfL s0 n0 n1 n2 n3 n4 n5) (U16 I) h0 (by rintro m ⟨c3, a9, b0, a1, b1, b2, b3, b4, a3, a7, a5, a4, a8, a6, b5, a2⟩ w h; exact ⟨by kernel_rfl, by kernel_rfl, fun js => Eq.mpr (by kernel_rfl) (hr m c3 a9 b0 a1 b1 b2 b3 b4 a3 a7 a5 a4 a8 a6 b5 a2 w h)⟩)
abbrev yC2 (a0 : BA) (bm0 bm1 bm2 bm3 bm4 bm5 : Nat) (I : Nat → Int → ByteArray → Int → Int → Int → Int → Int → Int → Option Addr → Nat → Nat → Option Addr → Nat → Nat → Int → Int → Int → World → Prop) (m : Nat) : Kh := KG (yf9 a0 bm0 bm1 bm2 bm3 bm4 bm5) (U17 I) m
theorem yy5 {I : Nat → Int → ByteArray → Int → Int → Int → Int → Int → Int → Option Addr → Nat → Nat → Option Addr → Nat → Nat → Int → Int → Int → World → Prop} (m' : Nat) (h1 : m' < m) (h2 : I m' i0 s1 i1 i2 i3 i4 i5 i6 q0 n6 n7 q1 n8 n9 i7 i8 i9 w) : KS (yC2 s0 n0 n1 n2 n3 n4 n5 I m) (yf9 s0 n0 n1 n2 n3 n4 n5 (i0, s1, i1, i2, i3, i4, i5, i6, q0, n6, n7, q1, n8, n9, i7, i8, i9)) w := ⟨m', h1, _, rfl, rfl, h2⟩
theorem yy6 (I : Nat → Int → ByteArray → Int → Int → Int → Int → Int → Int → Option Addr → Nat → Nat → Option Addr → Nat → Nat → Int → Int → Int → World → Prop) (m0 : Nat) (h0 : I m0 i0 s1 i1 i2 i3 i4 i5 i6 q0 n6 n7 q1 n8 n9 i7 i8 i9 w0)
 (hr : ∀ m g2 b6 b9 b2 a6 a7 a8 a9 a0 a4 a2 a1 a5 a3 c0 c1 b3 w, I m g2 b6 b9 b2 a6 a7 a8 a9 a0 a4 a2 a1 a5 a3 c0 c1 b3 w →
 w.heap[n1]? = some (.cells (Z2 b6 b9 b2) 191) →
 w.heap[n2]? = some (.cells (Z3 a6 a7 a8 a9 a0 a4 a2 a1 a5 a3) 35) →
 w.heap[n3]? = some (.cells #[.int .i64 c0] 3) →
 w.heap[n4]? = some (.cells #[.int .i64 c1] 3) →
 w.heap[n5]? = some (.cells #[.int .i64 b3] 3) →
 brB (decide (g2 < b3)) (
 brB (b2 == 0) (
 ∀ b5, w.heap.size ≤ b5 →
 ∀ b4, Adv [] [b5] w b4 → b4.heap[n1]? = some (.cells (Z2 b6 b9 b2) 191) →
 b4.heap[n2]? = some (.cells (Z3 a6 a7 a8 a9 a0 a4 a2 a1 a5 a3) 35) →
 b4.heap[n3]? = some (.cells #[.int .i64 c0] 3) →
 b4.heap[n4]? = some (.cells #[.int .i64 c1] 3) →
 b4.heap[n5]? = some (.cells #[.int .i64 b3] 3) →
 b4.heap[b5]? = some (.cells #[.string ByteArray.empty, .int .i64 0] 42) →
 Calls pP 82 #[(.iface 189 (.pointer (some ⟨n1, 0, none⟩))), (.pointer (some ⟨b5, 0, none⟩))] b4 fun e b7 => e = .returned (.tuple #[]) ∧ ya4 [n1, n2, n3, n4, n5, b5] [(n0, 35)] [n0] b4 b7 ∧ ∃ u4 u6 u7, b7.heap[n1]? = some (.cells (Z2 u4 u6 u7) 191) ∧ ∃ u9 v0 v1 v2 u1 u3 u2 v8 w3 w1, b7.heap[n2]? = some (.cells (Z3 u9 v0 v1 v2 u1 u3 u2 v8 w3 w1) 35) ∧ ∃ v3, b7.heap[n3]? = some (.cells #[.int .i64 v3] 3) ∧ ∃ v4, b7.heap[n4]? = some (.cells #[.int .i64 v4] 3) ∧ ∃ v5, b7.heap[n5]? = some (.cells #[.int .i64 v5] 3) ∧ ∃ u5 v6, b7.heap[b5]? = some (.cells #[.string u5, .int .i64 v6] 42) ∧
 al b7 (.cells #[.string u5, .int .i64 v6] 42) fun x1 w7 =>
 ycE pP (Builtin.append_ #[33, 33] 33 #[.slice v8 w3 w1, (.slice (some ⟨x1, 0, none⟩) 1 1)]) w7 fun v9 w4 w2 w8 => yaD [n0, n1, n2, n3, n4, n5, b5] w7 w8 ∧
 ∀ b8, Adv [n2] [] w8 b8 → b8.heap[n1]? = some (.cells (Z2 u4 u6 u7) 191) →
 b8.heap[n2]? = some (.cells (Z3 u9 v0 v1 v2 u1 u3 u2 v9 w4 w2) 35) →
 b8.heap[n3]? = some (.cells #[.int .i64 v3] 3) →
 b8.heap[n4]? = some (.cells #[.int .i64 v4] 3) →
 b8.heap[n5]? = some (.cells #[.int .i64 v5] 3) →
 b8.heap[b5]? = some (.cells #[.string u5, .int .i64 v6] 42) →
 KS (yC2 s0 n0 n1 n2 n3 n4 n5 I m) (yf9 s0 n0 n1 n2 n3 n4 n5 ((IntKind.wrap .i64 (g2 + 1)), u4, u6, u7, u9, v0, v1, v2, u1, u3, u2, v9, w4, w2, v3, v4, v5)) b8)
 (
 Calls pP 54 #[(.agg (Z3 a6 a7 a8 a9 a0 a4 a2 a1 a5 a3))] w fun e b0 => ∃ w5 w9, e = .returned (.tuple #[.string w5, .int .i64 w9]) ∧ ya4 [n1, n2, n3, n4, n5] [(n0, 35)] [n0] w b0 ∧ ∃ f2 f4 e2, b0.heap[n1]? = some (.cells (Z2 f2 f4 e2) 191) ∧ ∃ e3 e4 e5 e6 d0 d8 d4 d1 d9 d5, b0.heap[n2]? = some (.cells (Z3 e3 e4 e5 e6 d0 d8 d4 d1 d9 d5) 35) ∧ ∃ f5, b0.heap[n3]? = some (.cells #[.int .i64 f5] 3) ∧ ∃ f6, b0.heap[n4]? = some (.cells #[.int .i64 f6] 3) ∧ ∃ f7, b0.heap[n5]? = some (.cells #[.int .i64 f7] 3) ∧
 brB (e2 != 0) (
 ∀ c2, Adv [n0] [] b0 c2 → c2.heap[n1]? = some (.cells (Z2 f2 f4 e2) 191) →
 c2.heap[n2]? = some (.cells (Z3 e3 e4 e5 e6 d0 d8 d4 d1 d9 d5) 35) →
 c2.heap[n3]? = some (.cells #[.int .i64 f5] 3) →
 c2.heap[n4]? = some (.cells #[.int .i64 f6] 3) →
 c2.heap[n5]? = some (.cells #[.int .i64 f7] 3) →
 R (.tuple #[(.agg (Z3 0 0 0 0 none 0 0 none 0 0)), .int .i64 40]) c2)
 (
 brB (w9 != 0) (
 ∀ c3, Adv [n0] [] b0 c3 → c3.heap[n1]? = some (.cells (Z2 f2 f4 e2) 191) →
 c3.heap[n2]? = some (.cells (Z3 e3 e4 e5 e6 d0 d8 d4 d1 d9 d5) 35) →
 c3.heap[n3]? = some (.cells #[.int .i64 f5] 3) →
 c3.heap[n4]? = some (.cells #[.int .i64 f6] 3) →
 c3.heap[n5]? = some (.cells #[.int .i64 f7] 3) →
 R (.tuple #[(.agg (Z3 0 0 0 0 none 0 0 none 0 0)), .int .i64 40]) c3)
 (
 brB (!(w5.toList == s0.toList)) (
 ∀ c4, Adv [n0] [] b0 c4 → c4.heap[n1]? = some (.cells (Z2 f2 f4 e2) 191) →
 c4.heap[n2]? = some (.cells (Z3 e3 e4 e5 e6 d0 d8 d4 d1 d9 d5) 35) →
 c4.heap[n3]? = some (.cells #[.int .i64 f5] 3) →
 c4.heap[n4]? = some (.cells #[.int .i64 f6] 3) →
 c4.heap[n5]? = some (.cells #[.int .i64 f7] 3) →
 R (.tuple #[(.agg (Z3 0 0 0 0 none 0 0 none 0 0)), .int .i64 40]) c4)
 (
 ∀ c5, Adv [n0] [] b0 c5 → c5.heap[n1]? = some (.cells (Z2 f2 f4 e2) 191) →
 c5.heap[n2]? = some (.cells (Z3 e3 e4 e5 e6 d0 d8 d4 d1 d9 d5) 35) →
 c5.heap[n3]? = some (.cells #[.int .i64 f5] 3) →
 c5.heap[n4]? = some (.cells #[.int .i64 f6] 3) →
 c5.heap[n5]? = some (.cells #[.int .i64 f7] 3) →
 R (.tuple #[(.agg (Z3 e3 e4 e5 e6 d0 d8 d4 d1 d9 d5)), .int .i64 0]) c5)))))
 (
 Calls pP 54 #[(.agg (Z3 a6 a7 a8 a9 a0 a4 a2 a1 a5 a3))] w fun e b1 => ∃ w6 x0, e = .returned (.tuple #[.string w6, .int .i64 x0]) ∧ ya4 [n1, n2, n3, n4, n5] [(n0, 35)] [n0] w b1 ∧ ∃ f3 f8 e7, b1.heap[n1]? = some (.cells (Z2 f3 f8 e7) 191) ∧ ∃ e8 e9 f0 f1 d2 e0 d6 d3 e1 d7, b1.heap[n2]? = some (.cells (Z3 e8 e9 f0 f1 d2 e0 d6 d3 e1 d7) 35) ∧ ∃ f9, b1.heap[n3]? = some (.cells #[.int .i64 f9] 3) ∧ ∃ g0, b1.heap[n4]? = some (.cells #[.int .i64 g0] 3) ∧ ∃ g1, b1.heap[n5]? = some (.cells #[.int .i64 g1] 3) ∧
 brB (e7 != 0) (
 ∀ c6, Adv [n0] [] b1 c6 → c6.heap[n1]? = some (.cells (Z2 f3 f8 e7) 191) →
 c6.heap[n2]? = some (.cells (Z3 e8 e9 f0 f1 d2 e0 d6 d3 e1 d7) 35) →
 c6.heap[n3]? = some (.cells #[.int .i64 f9] 3) →
 c6.heap[n4]? = some (.cells #[.int .i64 g0] 3) →
 c6.heap[n5]? = some (.cells #[.int .i64 g1] 3) →
 R (.tuple #[(.agg (Z3 0 0 0 0 none 0 0 none 0 0)), .int .i64 40]) c6)
 (
 brB (x0 != 0) (
 ∀ c7, Adv [n0] [] b1 c7 → c7.heap[n1]? = some (.cells (Z2 f3 f8 e7) 191) →
 c7.heap[n2]? = some (.cells (Z3 e8 e9 f0 f1 d2 e0 d6 d3 e1 d7) 35) →
 c7.heap[n3]? = some (.cells #[.int .i64 f9] 3) →
 c7.heap[n4]? = some (.cells #[.int .i64 g0] 3) →
 c7.heap[n5]? = some (.cells #[.int .i64 g1] 3) →
 R (.tuple #[(.agg (Z3 0 0 0 0 none 0 0 none 0 0)), .int .i64 40]) c7)
 (
 brB (!(w6.toList == s0.toList)) (
 ∀ c8, Adv [n0] [] b1 c8 → c8.heap[n1]? = some (.cells (Z2 f3 f8 e7) 191) →
 c8.heap[n2]? = some (.cells (Z3 e8 e9 f0 f1 d2 e0 d6 d3 e1 d7) 35) →
 c8.heap[n3]? = some (.cells #[.int .i64 f9] 3) →
 c8.heap[n4]? = some (.cells #[.int .i64 g0] 3) →
 c8.heap[n5]? = some (.cells #[.int .i64 g1] 3) →
 R (.tuple #[(.agg (Z3 0 0 0 0 none 0 0 none 0 0)), .int .i64 40]) c8)
 (
 ∀ c9, Adv [n0] [] b1 c9 → c9.heap[n1]? = some (.cells (Z2 f3 f8 e7) 191) →
 c9.heap[n2]? = some (.cells (Z3 e8 e9 f0 f1 d2 e0 d6 d3 e1 d7) 35) →
 c9.heap[n3]? = some (.cells #[.int .i64 f9] 3) →
 c9.heap[n4]? = some (.cells #[.int .i64 g0] 3) →
 c9.heap[n5]? = some (.cells #[.int .i64 g1] 3) →
 R (.tuple #[(.agg (Z3 e8 e9 f0 f1 d2 e0 d6 d3 e1 d7)), .int .i64 0]) c9))))) :
 yaJ yh3 (yjJ 390 [0, 0, 1, 0, 1, 1, 1, 1, 1, 1, 1, 1]) (ylB [1, 1, 1, 1, 1, 1, 1, 1, 0, 1, 0] [] R) (yf9 s0 n0 n1 n2 n3 n4 n5 (i0, s1, i1, i2, i3, i4, i5, i6, q0, n6, n7, q1, n8, n9, i7, i8, i9)) w0 :=
 lrule (yf9 s0 n0 n1 n2 n3 n4 n5) (U17 I) h0 (by rintro m ⟨g2, b6, b9, b2, a6, a7, a8, a9, a0, a4, a2, a1, a5, a3, c0, c1, b3⟩ w h; exact ⟨by kernel_rfl, by kernel_rfl, fun js => Eq.mpr (by kernel_rfl) (hr m g2 b6 b9 b2 a6 a7 a8 a9 a0 a4 a2 a1 a5 a3 c0 c1 b3 w h)⟩)
theorem yHQ (h :
 ∀ b1, w.heap.size ≤ b1 →
 ∀ b2, w.heap.size ≤ b2 →
 ∀ b3, w.heap.size ≤ b3 →
 ∀ b4, w.heap.size ≤ b4 →
 ∀ b5, w.heap.size ≤ b5 →
 ∀ b6, w.heap.size ≤ b6 →
 ∀ w7, Adv [] [b6, b5, b4, b3, b2, b1] w w7 → w7.heap[b3]? = some (.cells (Z3 0 0 0 0 none 0 0 none 0 0) 35) →
 w7.heap[b4]? = some (.cells #[.int .i64 0] 3) →
 w7.heap[b5]? = some (.cells #[.int .i64 0] 3) →
 al w7 (.cells #[(.pointer (some ⟨b4, 0, none⟩)), (.pointer (some ⟨b3, 1, none⟩)), (.pointer (some ⟨b3, 2, none⟩)), (.pointer (some ⟨b3, 3, none⟩)), (.pointer (some ⟨b5, 0, none⟩))] 107) fun b8 w9 =>
 ∀ a0, Adv [] [] w9 a0 → a0.heap[b2]? = some (.cells (Z2 s0 0 0) 191) →
 a0.heap[b3]? = some (.cells (Z3 0 0 0 0 none 0 0 none 0 0) 35) →
 a0.heap[b4]? = some (.cells #[.int .i64 0] 3) →
 a0.heap[b5]? = some (.cells #[.int .i64 0] 3) →
 yaJ ypH (yjJ 394 [0, 0, 1, 0, 1, 1, 1, 1]) (ylB [1, 1, 1, 1, 0, 1, 0] [] R) (yi0 s0 (some ⟨b8, 0, none⟩) 5 5 b1 b2 b3 b4 b5 b6 (0, s0, 0, 0, 0, 0, 0, 0, none, 0, 0, none, 0, 0, 0, 0)) a0) :
 CR pP 88 #[.string s0] w R :=
 yaA Tryz.wide_mixed (an := ypJ) Tryz.func88 rfl rfl (by kernel_rfl) rfl (Eq.mpr (by kernel_rfl) h)
def ypK : LA := ⟨[0, 0, 1, 0, 1, 1, 1], [0, 2, 3, 4, 15, 16], [(2, 0, 0), (3, 1, 0)], 2, [1]⟩
def ypL : List LA := [ypK]
abbrev yGd := dnF pP ypL (code Tryz.f59)
abbrev yM9 := yaO pP ypL (code Tryz.f59)
abbrev yGe (p : List Nat) (K : List Kh) (R : VWP) := yaO pP ypL (code Tryz.f59) p K (ya7 pP Tryz.f59 [] R)
def yi1 (d4 : BA) (b3 b4 b5 b6 b7 b8 b9 c0 c1 c2 : OA) (bm0 bm1 : Nat) : Int × Int × Int × Int × Int × Int × Int × Int × Int × Int × Int × Int × (Option Addr) × Nat × Nat × Int × Int × Int × Int × (Option Addr) × Nat × Nat × (Option Addr) × Nat × Nat → List Value × List TB := fun (d5, d3, c3, c4, c5, c6, c7, c8, c9, d0, d1, d2, a0, a6, a3, a9, b0, b1, b2, a1, a7, a4, a2, a8, a5) => ([.string d4, (.pointer (some ⟨bm0, 0, none⟩)), (.pointer (some ⟨bm1, 0, none⟩)), .int .i64 d5, (.agg (Z9 b3 b4 b5 b6 b7 b8 b9 c0 c1 c2)), .int .i64 d3], [⟨bm0, 37, [.int .i64 0, .int .i64 0, .int .i64 0, .int .i64 0, .int .i64 0, .int .i64 0, .int .i64 0, .int .i64 0, .int .i64 0, .int .i64 0, .slice none 0 0, .int .i64 0, .int .i64 0, .int .i64 0, .int .i64 0, .slice none 0 0, .slice none 0 0], false⟩, ⟨bm1, 37, [.int .i64 c3, .int .i64 c4, .int .i64 c5, .int .i64 c6, .int .i64 c7, .int .i64 c8, .int .i64 c9, .int .i64 d0, .int .i64 d1, .int .i64 d2, .slice a0 a6 a3, .int .i64 a9, .int .i64 b0, .int .i64 b1, .int .i64 b2, .slice a1 a7 a4, .slice a2 a8 a5], true⟩])
abbrev yC3 (b0 : BA) (a0 a1 a2 a3 a4 a5 a6 a7 a8 a9 : OA) (bm0 bm1 : Nat) (I : Nat → Int → Int → Int → Int → Int → Int → Int → Int → Int → Int → Int → Int → Option Addr → Nat → Nat → Int → Int → Int → Int → Option Addr → Nat → Nat → Option Addr → Nat → Nat → World → Prop) (m : Nat) : Kh := KG (yi1 b0 a0 a1 a2 a3 a4 a5 a6 a7 a8 a9 bm0 bm1) (U25 I) m
theorem yy7 {I : Nat → Int → Int → Int → Int → Int → Int → Int → Int → Int → Int → Int → Int → Option Addr → Nat → Nat → Int → Int → Int → Int → Option Addr → Nat → Nat → Option Addr → Nat → Nat → World → Prop} (m' : Nat) (h1 : m' < m) (h2 : I m' i0 i1 i2 i3 i4 i5 i6 i7 i8 i9 j0 j1 r0 n2 n3 j2 j3 j4 j5 r1 n4 n5 r2 n6 n7 w) : KS (yC3 s0 q0 q1 q2 q3 q4 q5 q6 q7 q8 q9 n0 n1 I m) (yi1 s0 q0 q1 q2 q3 q4 q5 q6 q7 q8 q9 n0 n1 (i0, i1, i2, i3, i4, i5, i6, i7, i8, i9, j0, j1, r0, n2, n3, j2, j3, j4, j5, r1, n4, n5, r2, n6, n7)) w := ⟨m', h1, _, rfl, rfl, h2⟩
theorem yy8 (I : Nat → Int → Int → Int → Int → Int → Int → Int → Int → Int → Int → Int → Int → Option Addr → Nat → Nat → Int → Int → Int → Int → Option Addr → Nat → Nat → Option Addr → Nat → Nat → World → Prop) (m0 : Nat) (h0 : I m0 i0 i1 i2 i3 i4 i5 i6 i7 i8 i9 j0 j1 r0 n2 n3 j2 j3 j4 j5 r1 n4 n5 r2 n6 n7 w0)
 (hr : ∀ m g2 d3 c3 c4 c5 c6 c7 c8 c9 d0 d1 d2 b0 b6 b3 b9 c0 c1 c2 b1 b7 b4 b2 b8 b5 w, I m g2 d3 c3 c4 c5 c6 c7 c8 c9 d0 d1 d2 b0 b6 b3 b9 c0 c1 c2 b1 b7 b4 b2 b8 b5 w →
 w.heap[n1]? = some (.cells (Z0 c3 c4 c5 c6 c7 c8 c9 d0 d1 d2 b0 b6 b3 b9 c0 c1 c2 b1 b7 b4 b2 b8 b5) 37) →
 brB (decide (d3 < 10)) (
 ∃ co, (∀ w' : World, (Instr.index 108 (.agg (Z9 q0 q1 q2 q3 q4 q5 q6 q7 q8 q9)) (.int .i64 d3)).run pP w' = .ok (.pointer co) w') ∧
 Calls pP 86 #[.string s0, .int .i64 g2] w fun e e9 => ∃ bm cq cr, e = .returned (.tuple #[.int .u64 bm, .int .i64 cq, .int .i64 cr]) ∧ ya4 [n1] [(n0, 37)] [n0] w e9 ∧ ∃ bn bo bp bq br bt bu bv bw bx w4 y8 x6 bz ca cb cc w5 y9 x7 w6 z0 x8, e9.heap[n1]? = some (.cells (Z0 bn bo bp bq br bt bu bv bw bx w4 y8 x6 bz ca cb cc w5 y9 x7 w6 z0 x8) 37) ∧
 brB (cr != 0) (
 ∀ z2, Adv [n0] [] e9 z2 → z2.heap[n1]? = some (.cells (Z0 bn bo bp bq br bt bu bv bw bx w4 y8 x6 bz ca cb cc w5 y9 x7 w6 z0 x8) 37) →
 R (.agg (Z0 0 0 0 0 0 0 0 0 0 0 none 0 0 0 0 0 0 none 0 0 none 0 0)) z2)
 (
 brB (decide (bm > 1099511627776)) (
 ∀ z3, Adv [n0] [] e9 z3 → z3.heap[n1]? = some (.cells (Z0 bn bo bp bq br bt bu bv bw bx w4 y8 x6 bz ca cb cc w5 y9 x7 w6 z0 x8) 37) →
 R (.agg (Z0 0 0 0 0 0 0 0 0 0 0 none 0 0 0 0 0 0 none 0 0 none 0 0)) z3)
 (
 ysE co fun ec =>
 st e9 ec [(.int .i64 (IntKind.wrap .i64 bm))] fun z4 => ya4 [n1] [(n0, 37)] [n0] e9 z4 ∧ ∃ cs ct cu cv cw cx cy cz da db ce cl ci dc dd de df cf cm cj ch cn ck, z4.heap[n1]? = some (.cells (Z0 cs ct cu cv cw cx cy cz da db ce cl ci dc dd de df cf cm cj ch cn ck) 37) ∧
 KS (yC3 s0 q0 q1 q2 q3 q4 q5 q6 q7 q8 q9 n0 n1 I m) (yi1 s0 q0 q1 q2 q3 q4 q5 q6 q7 q8 q9 n0 n1 (cq, (IntKind.wrap .i64 (d3 + 1)), cs, ct, cu, cv, cw, cx, cy, cz, da, db, ce, cl, ci, dc, dd, de, df, cf, cm, cj, ch, cn, ck)) z4)))
 (
 Calls pP 85 (Z2 s0 g2 1048576) w fun e g1 => ∃ cp dg dh, e = .returned (.tuple (Z2 cp dg dh)) ∧ ya4 [n1] [(n0, 37)] [n0] w g1 ∧ ∃ di dj dk z5 z6 z7 z8 z9 aa ab v4 x9 w7 ac ad ae af v5 y0 w8 v6 y1 w9, g1.heap[n1]? = some (.cells (Z0 di dj dk z5 z6 z7 z8 z9 aa ab v4 x9 w7 ac ad ae af v5 y0 w8 v6 y1 w9) 37) ∧
 brB (dh != 0) (
 ∀ h3, Adv [n0] [] g1 h3 → h3.heap[n1]? = some (.cells (Z0 di dj dk z5 z6 z7 z8 z9 aa ab v4 x9 w7 ac ad ae af v5 y0 w8 v6 y1 w9) 37) →
 R (.agg (Z0 0 0 0 0 0 0 0 0 0 0 none 0 0 0 0 0 0 none 0 0 none 0 0)) h3)
 (
 Calls pP 85 (Z2 s0 dg 1048576) g1 fun e e4 => ∃ z1 dv ag, e = .returned (.tuple (Z2 z1 dv ag)) ∧ ya4 [n1] [(n0, 37)] [n0] g1 e4 ∧ ∃ ah ai aj ak am an ao ap aq ar v7 y2 x0 au av aw ax v8 y3 x1 v9 y4 x2, e4.heap[n1]? = some (.cells (Z0 ah ai aj ak am an ao ap aq ar v7 y2 x0 au av aw ax v8 y3 x1 v9 y4 x2) 37) ∧
 brB (ag != 0) (
 ∀ h4, Adv [n0] [] e4 h4 → h4.heap[n1]? = some (.cells (Z0 ah ai aj ak am an ao ap aq ar v7 y2 x0 au av aw ax v8 y3 x1 v9 y4 x2) 37) →
 R (.agg (Z0 0 0 0 0 0 0 0 0 0 0 none 0 0 0 0 0 0 none 0 0 none 0 0)) h4)
 (
 Calls pP 87 #[.string cp] e4 fun e h5 => ∃ w1 y5 x3 dw, e = .returned (.tuple #[.slice w1 y5 x3, .int .i64 dw]) ∧ ya4 [n1] [(n0, 37)] [n0] e4 h5 ∧ ∃ ay az ba bb bc bd be bf bg bh dl ds dp bi bj bk bl w2 y6 x4 w3 y7 x5, h5.heap[n1]? = some (.cells (Z0 ay az ba bb bc bd be bf bg bh dl ds dp bi bj bk bl w2 y6 x4 w3 y7 x5) 37) ∧
 ∀ g0, Adv [n1] [] h5 g0 → g0.heap[n1]? = some (.cells (Z0 ay az ba bb bc bd be bf bg bh w1 y5 x3 bi bj bk bl w2 y6 x4 w3 y7 x5) 37) →
 Calls pP 88 #[.string z1] g0 fun e h6 => ∃ h8 h9 u0 u1 g3 g9 g6 g4 h1 g7 dx, e = .returned (.tuple #[(.agg (Z3 h8 h9 u0 u1 g3 g9 g6 g4 h1 g7)), .int .i64 dx]) ∧ ya4 [n1] [(n0, 37)] [n0] g0 h6 ∧ ∃ u2 u3 u4 u5 u6 u7 u9 v0 v1 v2 g5 h2 g8 dy dz ea eb dm dt dq dn du dr, h6.heap[n1]? = some (.cells (Z0 u2 u3 u4 u5 u6 u7 u9 v0 v1 v2 g5 h2 g8 dy dz ea eb dm dt dq dn du dr) 37) ∧
 ∀ h7, Adv [n0, n1] [] h6 h7 → h7.heap[n1]? = some (.cells (Z0 u2 u3 u4 u5 u6 u7 u9 v0 v1 v2 g5 h2 g8 h8 h9 u0 u1 g3 g9 g6 g4 h1 g7) 37) →
 R (.agg (Z0 u2 u3 u4 u5 u6 u7 u9 v0 v1 v2 g5 h2 g8 h8 h9 u0 u1 g3 g9 g6 g4 h1 g7)) h7)))) :
 yaJ ypK (yGd 395 [0, 0, 1, 0, 1, 1, 1]) (yGe [1, 1, 1, 0, 1, 0] [] R) (yi1 s0 q0 q1 q2 q3 q4 q5 q6 q7 q8 q9 n0 n1 (i0, i1, i2, i3, i4, i5, i6, i7, i8, i9, j0, j1, r0, n2, n3, j2, j3, j4, j5, r1, n4, n5, r2, n6, n7)) w0 :=
 lrule (yi1 s0 q0 q1 q2 q3 q4 q5 q6 q7 q8 q9 n0 n1) (U25 I) h0 (by rintro m ⟨g2, d3, c3, c4, c5, c6, c7, c8, c9, d0, d1, d2, b0, b6, b3, b9, c0, c1, c2, b1, b7, b4, b2, b8, b5⟩ w h; exact ⟨by kernel_rfl, by kernel_rfl, fun js => Eq.mpr (by kernel_rfl) (hr m g2 d3 c3 c4 c5 c6 c7 c8 c9 d0 d1 d2 b0 b6 b3 b9 c0 c1 c2 b1 b7 b4 b2 b8 b5 w h)⟩)
theorem yHR (h :
 ∀ b1, w.heap.size ≤ b1 →
 ∀ b2, w.heap.size ≤ b2 →
 ∀ w3, Adv [] [b2, b1] w w3 → w3.heap[b2]? = some (.cells (Z0 0 0 0 0 0 0 0 0 0 0 none 0 0 0 0 0 0 none 0 0 none 0 0) 37) →
 Calls pP 50 #[(.pointer (some ⟨b2, 0, none⟩))] w3 fun e w4 => ∃ p5 p6 p7 p8 p9 b0 b3 b4 b5 b6, e = .returned (.agg (Z9 p5 p6 p7 p8 p9 b0 b3 b4 b5 b6)) ∧ ya4 [b2] [(b1, 37)] [b1] w3 w4 ∧ ∃ b7 b8 b9 c0 c1 c2 c3 c4 c5 c6 a1 a7 a4 c7 c8 c9 d0 a2 a8 a5 a3 a9 a6, w4.heap[b2]? = some (.cells (Z0 b7 b8 b9 c0 c1 c2 c3 c4 c5 c6 a1 a7 a4 c7 c8 c9 d0 a2 a8 a5 a3 a9 a6) 37) ∧
 yaJ ypK (yGd 395 [0, 0, 1, 0, 1, 1, 1]) (yGe [1, 1, 1, 0, 1, 0] [] R) (yi1 s0 p5 p6 p7 p8 p9 b0 b3 b4 b5 b6 b1 b2 (0, 0, b7, b8, b9, c0, c1, c2, c3, c4, c5, c6, a1, a7, a4, c7, c8, c9, d0, a2, a8, a5, a3, a9, a6)) w4) :
 CR pP 59 #[.string s0] w R :=
 yaA Tryz.wide_mixed (an := ypL) Tryz.func59 rfl rfl (by kernel_rfl) rfl (Eq.mpr (by kernel_rfl) h)
theorem yHS {a1 : BA} (h :
 ∀ b1, w.heap.size ≤ b1 →
 ∀ w2, Adv [] [b1] w w2 →
 Calls pP 58 (Z2 a1 0 1048576) w2 fun e w3 => ∃ s4 x5 x6, e = .returned (.tuple (Z2 s4 x5 x6)) ∧ yaD [b1] w2 w3 ∧
 Calls pP 59 #[.string s4] w3 fun e w7 => ∃ x8 x9 b4 b5 b6 b7 b8 b9 c0 c1 a2 a9 a6 c2 c3 c4 c5 a3 b0 a7 a4 b2 a8, e = .returned (.agg (Z0 x8 x9 b4 b5 b6 b7 b8 b9 c0 c1 a2 a9 a6 c2 c3 c4 c5 a3 b0 a7 a4 b2 a8)) ∧ yaD [b1] w3 w7 ∧
 ∀ a5, w7.heap.size ≤ a5 →
 ∀ b3, Adv [] [a5] w7 b3 →
 Calls pP 35 #[(.agg (Z0 x8 x9 b4 b5 b6 b7 b8 b9 c0 c1 a2 a9 a6 c2 c3 c4 c5 a3 b0 a7 a4 b2 a8))] b3 fun e a0 => ∃ c6 d1, e = .returned (.tuple #[.string c6, .int .i64 d1]) ∧ yaD [b1, a5] b3 a0 ∧
 brB (x6 != 0) (
 ∀ c7, Adv [b1] [] a0 c7 →
 R (.tuple #[(.agg (Z0 0 0 0 0 0 0 0 0 0 0 none 0 0 0 0 0 0 none 0 0 none 0 0)), .int .i64 180]) c7)
 (
 brB (d1 != 0) (
 ∀ c8, Adv [b1] [] a0 c8 →
 R (.tuple #[(.agg (Z0 0 0 0 0 0 0 0 0 0 0 none 0 0 0 0 0 0 none 0 0 none 0 0)), .int .i64 180]) c8)
 (
 brB (!(c6.toList == a1.toList)) (
 ∀ c9, Adv [b1] [] a0 c9 →
 R (.tuple #[(.agg (Z0 0 0 0 0 0 0 0 0 0 0 none 0 0 0 0 0 0 none 0 0 none 0 0)), .int .i64 180]) c9)
 (
 ∀ d0, Adv [b1] [] a0 d0 →
 R (.tuple #[(.agg (Z0 x8 x9 b4 b5 b6 b7 b8 b9 c0 c1 a2 a9 a6 c2 c3 c4 c5 a3 b0 a7 a4 b2 a8)), .int .i64 0]) d0)))) :
 CR pP 36 #[.string a1] w R :=
 yaA Tryz.wide_mixed (an := []) Tryz.func36 rfl rfl (by kernel_rfl) rfl (Eq.mpr (by kernel_rfl) h)
end
def yML (o : Option (PRec × Nat)) (v : Value) : Prop := ∃ (x : PRec) (b : Nat) (e : Int), v = .tuple #[x.v, .int .i64 (b : Nat), .int .i64 e] ∧ ((e = 0 ∧ o = some (x, b)) ∨ (e ≠ 0 ∧ b = 0 ∧ o = none))
theorem ynE (s : ByteArray) (a : Nat) (hs : s.size ≤ 1000000000000) (ha : a ≤ s.size) (w : World) :
  Calls pP 126 #[.string s, .int .i64 (a : Nat)] w fun e w' => ∃ v, e = .returned v ∧ yML (yrK s.data.toList a) v ∧ Mod [] w w' := by
 refine yK7 ?_
 intro b1 f1 b2 f2 w3 A3 h3
 have s3 := A3.mod.size
 have l1 := A3.lt b1 (by simp)
 have hne : b1 ≠ b2 := by have := A3.nd; simp at this; exact fun h => this h.symm
 refine (ym3 (st := some a) hs ⟨a, 0, h3, ha, rfl⟩).mono ?_
 rintro _ w4 ⟨_, rfl, x, rfl, M4, st, ⟨a4, e4, h4, ha4, he4⟩, q4⟩
 have s4 := M4.size
 refine ⟨_, _, _, _, rfl, yaD.ofE M4 fun k hk hl he => by simp at hk he ⊢; omega, _, _, _, h4, ?_⟩
 have q4 : yrK s.data.toList a = st.map fun a => (x, a) := q4
 intro b12 f12
 have N : ∀ {w'}, Adv [b1] [b12] w4 w' → Mod [] w w' := fun A => (A3.mod.go0 M4 (by simpa using f2)).go0 A.mod (by simpa using f1)
 refine yaC (fun g => ⟨rfl, fun w5 A5 _ => ⟨?_, N A5⟩⟩) fun g => ⟨rfl, fun w5 A5 _ => ⟨?_, N A5⟩⟩
 ·have g : e4 ≠ 0 := by simpa using g
  rw [if_neg g] at he4
  refine ⟨⟨false, ⟨#[]⟩, false, ⟨#[]⟩⟩, 0, e4, rfl, .inr ⟨g, rfl, ?_⟩⟩
  rw [q4, he4]; rfl
 ·have g : e4 = 0 := by simpa using g
  rw [if_pos g] at he4
  refine ⟨x, a4, 0, rfl, .inl ⟨rfl, ?_⟩⟩
  rw [q4, he4]; rfl
theorem yEE {s : ByteArray} {br bp : Nat} {st : Option Nat} {w : World} (hs : s.size ≤ 1000000000000) (h : Rd QT s br st w) (hb : w.heap[bp]? = some (.cells #[.string ⟨#[]⟩, .int .i64 0] 42)) (hne : bp ≠ br) :
  Calls pP 82 #[.iface 189 (.pointer (some ⟨br, 0, none⟩)), .pointer (some ⟨bp, 0, none⟩)] w fun e w' => e = .returned (.tuple #[]) ∧ Rd QT s br (ydE s.data.toList st).1 w' ∧ w'.heap[bp]? = some (.cells (yn4 (ydE s.data.toList st).2).toArray 42) ∧ Mod [br, bp] w w' := by
 refine yaQ (yFL ?_)
 intro w1 A1
 refine (yoI hs (h.keep0 A1.mod) (off := 0) (x := ⟨#[]⟩) (A1.mod.keep0 hb) rfl hne).mono ?_
 rintro _ w2 ⟨rfl, h2, hb2, M2⟩
 refine ⟨rfl, ?_⟩
 intro w3 A3
 refine (yb2 hs (h2.keep0 A3.mod) (off := 1) (x := 0) (A3.mod.keep0 hb2) rfl hne).mono ?_
 rintro _ w4 ⟨rfl, h4, hb4, M4⟩
 refine ⟨rfl, rfl, h4, ?_, ?_⟩
 ·rw [hb4]; rfl
 ·refine (((A1.mod.trans M2).trans A3.mod).trans M4).less fun k hk hl => ?_
  simp at hk ⊢; omega
theorem ypM {w : World} {B : Nat} {f : Sl} {l : List PFound} {y : PFound} {bs : List Nat} {F : Option Addr → Nat → Nat → World → Prop} (hR : Row w B 101 5 ylO f.a f.n f.c l) (hl : l.length ≤ 1000000) (hB : B ≤ w.heap.size) (hbs : ∀ b ∈ bs, b ∉ ydY f.a)
  (hF : ∀ a' c' w', Row w' B 101 5 ylO a' (f.n + 1) c' (l ++ [y]) → Mod (ydY f.a) w w' → F a' (f.n + 1) c' w') :
  al w (.cells (ylO y).toArray 101) fun b w1 => ycE pP (Builtin.append_ #[32, 32] 32 #[.slice f.a f.n f.c, .slice (some ⟨b, 0, none⟩) 1 1]) w1 fun a n c w2 => yaD bs w1 w2 ∧ F a n c w2 := by
 refine ycR fun b w1 c1 M1 f1 => ?_
 have s1 := M1.size
 obtain ⟨i0, hi0, hz0, hz1, hz2⟩ := info_parts yI8
 refine ybQ (x := y) (hR.keep0 M1) Tryz.underlying32 hi0 hz0 hz1 hz2 rfl (by decide) c1 rfl (yu1 _) (by omega) (by unfold maxLen; omega) (by omega) fun a' c' w8 hR8 hM8 => ?_
 have M8 := hM8 _ (ybY f.a)
 refine ⟨yaD.of M8 fun b hb _ => hbs b hb, hF a' c' w8 hR8 ?_⟩
 exact (M1.trans M8).less fun k hk _ => by simpa using hk
theorem yHT {w : World} {B : Nat} {f : Sl} {l : List PPart} {y : PPart} {bs : List Nat} {F : Option Addr → Nat → Nat → World → Prop} (hR : Row w B 42 2 yn4 f.a f.n f.c l) (hl : l.length ≤ 1000000) (hB : B ≤ w.heap.size) (hbs : ∀ b ∈ bs, b ∉ ydY f.a)
  (hF : ∀ a' c' w', Row w' B 42 2 yn4 a' (f.n + 1) c' (l ++ [y]) → Mod (ydY f.a) w w' → F a' (f.n + 1) c' w') :
  al w (.cells (yn4 y).toArray 42) fun b w1 => ycE pP (Builtin.append_ #[33, 33] 33 #[.slice f.a f.n f.c, .slice (some ⟨b, 0, none⟩) 1 1]) w1 fun a n c w2 => yaD bs w1 w2 ∧ F a n c w2 := by
 refine ycR fun b w1 c1 M1 f1 => ?_
 have s1 := M1.size
 obtain ⟨i0, hi0, hz0, hz1, hz2⟩ := info_parts yGM
 refine ybQ (x := y) (hR.keep0 M1) Tryz.underlying33 hi0 hz0 hz1 hz2 rfl (by decide) c1 rfl (yn9 _) (by omega) (by unfold maxLen; omega) (by omega) fun a' c' w8 hR8 hM8 => ?_
 have M8 := hM8 _ (ybY f.a)
 refine ⟨yaD.of M8 fun b hb _ => hbs b hb, hF a' c' w8 hR8 ?_⟩
 exact (M1.trans M8).less fun k hk _ => by simpa using hk
theorem yEF {l : List UInt8} {st : Option Nat} {b : Nat} {n : Int} (h : ybO l st 0 = (some b, n)) (x : Int) : ybO l st x = (some b, n) := by
 unfold ybO at *
 split at h
 ·rename_i p hp; simpa [hp] using h
 ·simp at h
theorem yC4 {l : List UInt8} {a b : Nat} {x : Int} (h : (ybO l (some a) x).1 = some b) : a < b ∧ b ≤ l.length := by
 unfold ybO at h
 split at h
 ·rename_i p hp
  have := yg8 (n := p.1) (b := p.2) hp
  simp at h; omega
 ·simp at h
structure RPS (w0 w : World) (b0 b1 b2 b3 b4 b5 : Nat) (s : ByteArray) (a e : Int) (x : PRep) (f p : Sl) (ev fv : Int) : Prop where
 hr : w.heap[b1]? = some (.cells #[.string s, .int .i64 a, .int .i64 e] QT)
 hx : w.heap[b2]? = some (.cells #[.int .i64 x.e, .int .i64 x.off, .int .i64 x.n, .int .i64 x.gen, .slice f.a f.n f.c, .slice p.a p.n p.c] 35)
 he : w.heap[b3]? = some (.cells #[.int .i64 ev] 3)
 hn : w.heap[b4]? = some (.cells #[.int .i64 fv] 3)
 fr : Row w w0.heap.size 101 5 ylO f.a f.n f.c x.found
 pr : Row w w0.heap.size 42 2 yn4 p.a p.n p.c x.parts
 m : Mod [b1, b2, b3, b4, b5] w0 w
 lt : b0 < w0.heap.size ∧ b1 < w0.heap.size ∧ b2 < w0.heap.size ∧ b3 < w0.heap.size ∧ b4 < w0.heap.size ∧ b5 < w0.heap.size
 nd : [b5, b4, b3, b2, b1, b0].Nodup
 pos : ∃ n : Nat, a = n ∧ n ≤ s.size
def yc5 (a e : Int) : Option Nat := if e = 0 then some a.toNat else none
theorem RPS.rd {w0 w : World} {b0 b1 b2 b3 b4 b5 : Nat} {s : ByteArray} {a e : Int} {x : PRep} {f p : Sl} {ev fv : Int} (H : RPS w0 w b0 b1 b2 b3 b4 b5 s a e x f p ev fv) : Rd QT s b1 (yc5 a e) w := by
 obtain ⟨n, h1, h2⟩ := H.pos
 have h3 := H.hr
 rw [h1] at h3
 refine ⟨n, e, h3, h2, ?_⟩
 unfold yc5; rw [h1, Int.toNat_natCast]
theorem RPS.go {w0 w w' : World} {b0 b1 b2 b3 b4 b5 : Nat} {s : ByteArray} {a e : Int} {x : PRep} {f p : Sl} {ev fv : Int} {st : Option Nat} (H : RPS w0 w b0 b1 b2 b3 b4 b5 s a e x f p ev fv) (M : Mod [b1] w w') (hr : Rd QT s b1 st w') :
  ∃ a' e', RPS w0 w' b0 b1 b2 b3 b4 b5 s a' e' x f p ev fv ∧ st = yc5 a' e' := by
 obtain ⟨n, e', h1, h2, h3⟩ := hr
 have nd := H.nd
 have lt := H.lt
 simp at nd
 refine ⟨n, e', ⟨h1, M.keep H.hx (by simp; omega), M.keep H.he (by simp; omega), M.keep H.hn (by simp; omega), H.fr.keep M fun ad ha hk => ?_, H.pr.keep M fun ad ha hk => ?_, H.m.via M (by simp), H.lt, H.nd, n, rfl, h2⟩, ?_⟩
 ·have := H.fr.base ad ha; simp at hk; omega
 ·have := H.pr.base ad ha; simp at hk; omega
 ·rw [h3]; unfold yc5; rw [Int.toNat_natCast]
theorem RPS.keep0 {w0 w w' : World} {b0 b1 b2 b3 b4 b5 : Nat} {s : ByteArray} {a e : Int} {x : PRep} {f p : Sl} {ev fv : Int} (H : RPS w0 w b0 b1 b2 b3 b4 b5 s a e x f p ev fv) (M : Mod [] w w') : RPS w0 w' b0 b1 b2 b3 b4 b5 s a e x f p ev fv :=
 ⟨M.keep0 H.hr, M.keep0 H.hx, M.keep0 H.he, M.keep0 H.hn, H.fr.keep0 M, H.pr.keep0 M, H.m.via M (by simp), H.lt, H.nd, H.pos⟩
def yHU (w0 w : World) (s : ByteArray) (v : Value) : Prop :=
 (∃ (x : PRep) (f p : Sl), ygL s x ∧ v = .tuple #[x.v f p, .int .i64 0] ∧ RepOwn w w0.heap.size x f p) ∨ ((∀ x, ¬ ygL s x) ∧ v = .tuple #[ye4.v ybS ybS, .int .i64 40])
set_option maxHeartbeats 4000000 in
theorem yLS {wS w0 wX : World} {b0 b1 b2 b3 b4 b5 : Nat} {s : ByteArray} {a e : Int} {x : PRep} {f p : Sl} {ev fv pv : Int} (H : RPS w0 wX b0 b1 b2 b3 b4 b5 s a e x f p ev fv) (h5 : wX.heap[b5]? = some (.cells #[.int .i64 pv] 3))
  (N : Mod [] wS wX) (hb : wS.heap.size ≤ b0) (hl : x.found.length ≤ 1000000 ∧ x.parts.length ≤ 1000000) (hB : wS.heap.size ≤ w0.heap.size) (hsp : ∀ y, ygL s y → e = 0 ∧ x = y) :
  Calls pP 54 #[(.agg #[.int .i64 x.e, .int .i64 x.off, .int .i64 x.n, .int .i64 x.gen, .slice f.a f.n f.c, .slice p.a p.n p.c])] wX fun e w254 => ∃ (s255 : ByteArray) (x256 : Int), e = .returned (.tuple #[.string s255, .int .i64 x256]) ∧ ya4 [b1, b2, b3, b4, b5] [(b0, 35)] [b0] wX w254 ∧ ∃ (s257 : ByteArray) (x258 x259 : Int), w254.heap[b1]? = some (.cells #[.string s257, .int .i64 x258, .int .i64 x259] 191) ∧ ∃ (x260 x261 x262 x263 : Int) (a264 : Option Addr) (n265 c266 : Nat) (a267 : Option Addr) (n268 c269 : Nat), w254.heap[b2]? = some (.cells #[.int .i64 x260, .int .i64 x261, .int .i64 x262, .int .i64 x263, .slice a264 n265 c266, .slice a267 n268 c269] 35) ∧ ∃ x270 : Int, w254.heap[b3]? = some (.cells #[.int .i64 x270] 3) ∧ ∃ x271 : Int, w254.heap[b4]? = some (.cells #[.int .i64 x271] 3) ∧ ∃ x272 : Int, w254.heap[b5]? = some (.cells #[.int .i64 x272] 3) ∧ brB (x259 != 0) ( ∀ w273, Adv [b0] [] w254 w273 → w273.heap[b1]? = some (.cells #[.string s257, .int .i64 x258, .int .i64 x259] 191) → w273.heap[b2]? = some (.cells #[.int .i64 x260, .int .i64 x261, .int .i64 x262, .int .i64 x263, .slice a264 n265 c266, .slice a267 n268 c269] 35) → w273.heap[b3]? = some (.cells #[.int .i64 x270] 3) → w273.heap[b4]? = some (.cells #[.int .i64 x271] 3) → w273.heap[b5]? = some (.cells #[.int .i64 x272] 3) → (fun v w' => yHU wS w' s v ∧ Mod [] wS w') (.tuple #[(.agg #[.int .i64 0, .int .i64 0, .int .i64 0, .int .i64 0, .slice none 0 0, .slice none 0 0]), .int .i64 40]) w273) ( brB (x256 != 0) ( ∀ w274, Adv [b0] [] w254 w274 → w274.heap[b1]? = some (.cells #[.string s257, .int .i64 x258, .int .i64 x259] 191) → w274.heap[b2]? = some (.cells #[.int .i64 x260, .int .i64 x261, .int .i64 x262, .int .i64 x263, .slice a264 n265 c266, .slice a267 n268 c269] 35) → w274.heap[b3]? = some (.cells #[.int .i64 x270] 3) → w274.heap[b4]? = some (.cells #[.int .i64 x271] 3) → w274.heap[b5]? = some (.cells #[.int .i64 x272] 3) → (fun v w' => yHU wS w' s v ∧ Mod [] wS w') (.tuple #[(.agg #[.int .i64 0, .int .i64 0, .int .i64 0, .int .i64 0, .slice none 0 0, .slice none 0 0]), .int .i64 40]) w274) ( brB (!(s255.toList == s.toList)) ( ∀ w275, Adv [b0] [] w254 w275 → w275.heap[b1]? = some (.cells #[.string s257, .int .i64 x258, .int .i64 x259] 191) → w275.heap[b2]? = some (.cells #[.int .i64 x260, .int .i64 x261, .int .i64 x262, .int .i64 x263, .slice a264 n265 c266, .slice a267 n268 c269] 35) → w275.heap[b3]? = some (.cells #[.int .i64 x270] 3) → w275.heap[b4]? = some (.cells #[.int .i64 x271] 3) → w275.heap[b5]? = some (.cells #[.int .i64 x272] 3) → (fun v w' => yHU wS w' s v ∧ Mod [] wS w') (.tuple #[(.agg #[.int .i64 0, .int .i64 0, .int .i64 0, .int .i64 0, .slice none 0 0, .slice none 0 0]), .int .i64 40]) w275) ( ∀ w276, Adv [b0] [] w254 w276 → w276.heap[b1]? = some (.cells #[.string s257, .int .i64 x258, .int .i64 x259] 191) → w276.heap[b2]? = some (.cells #[.int .i64 x260, .int .i64 x261, .int .i64 x262, .int .i64 x263, .slice a264 n265 c266, .slice a267 n268 c269] 35) → w276.heap[b3]? = some (.cells #[.int .i64 x270] 3) → w276.heap[b4]? = some (.cells #[.int .i64 x271] 3) → w276.heap[b5]? = some (.cells #[.int .i64 x272] 3) → (fun v w' => yHU wS w' s v ∧ Mod [] wS w') (.tuple #[(.agg #[.int .i64 x260, .int .i64 x261, .int .i64 x262, .int .i64 x263, .slice a264 n265 c266, .slice a267 n268 c269]), .int .i64 0]) w276))) := by
 have hA : RepOwn wX w0.heap.size x f p := ⟨H.fr, H.pr, hl.1, hl.2⟩
 refine (yv5 hA.at).mono ?_
 rintro _ w1 ⟨rfl, M1⟩
 have H1 := H.keep0 M1
 have lt := H.lt
 refine ⟨_, _, rfl, yaD.of0 M1, _, _, _, H1.hr, _, _, _, _, _, _, _, _, _, _, H1.hx, _, H1.he, _, H1.hn, _, M1.keep0 h5, ?_⟩
 have no : ∀ {w'}, Adv [b0] [] w1 w' → (∀ y, ¬ ygL s y) → yHU wS w' s (.tuple #[ye4.v ybS ybS, .int .i64 40]) ∧ Mod [] wS w' := fun {w'} A h => ⟨.inr ⟨h, rfl⟩, (N.go0 M1 (by simp)).go0 A.mod (by simpa using hb)⟩
 refine yaC (fun g => fun w2 A2 _ _ _ _ _ => no A2 fun y hy => ?_) fun g => ?_
 ·have := (hsp y hy).1; simp [this] at g
 refine yaC (fun g2 => fun w2 A2 _ _ _ _ _ => no A2 fun y hy => ?_) fun g2 => ?_
 ·have := (hsp y hy).2; subst this; simp [hy.1] at g2
 have g2 : ygP x = 0 := by simpa using g2
 rw [if_pos g2, yhS]
 refine yaC (fun g3 => fun w2 A2 _ _ _ _ _ => no A2 fun y hy => ?_) fun g3 => fun w2 A2 _ _ _ _ _ => ?_
 ·have := (hsp y hy).2; subst this; simp [hy.eq] at g3
 ·have g3 : bs (yeC x) = s := by simpa using g3
  exact ⟨.inl ⟨x, f, p, ygL.of g2 g3.symm, rfl, ((hA.keep0 M1).keepB A2.mod (by simpa using lt.1)).rebase hB⟩, (N.go0 M1 (by simp)).go0 A2.mod (by simpa using hb)⟩
set_option maxHeartbeats 4000000 in
theorem yLT {wS w0 wX : World} {b0 b1 b2 b3 b4 b5 : Nat} {s : ByteArray} {a e : Int} {x : PRep} {f : Sl} {ev fv : Int} (H : RPS w0 wX b0 b1 b2 b3 b4 b5 s a e x f ybS ev fv) (h5 : wX.heap[b5]? = some (.cells #[.int .i64 0] 3)) (hp0 : x.parts = [])
  (N : Mod [] wS w0) (hb : wS.heap.size ≤ b0 ∧ wS.heap.size ≤ b1 ∧ wS.heap.size ≤ b2 ∧ wS.heap.size ≤ b3 ∧ wS.heap.size ≤ b4 ∧ wS.heap.size ≤ b5) (hs : s.size ≤ 900000) (hl : x.found.length ≤ 1000000)
  (hsp : ∀ y, ygL s y → e = 0 ∧ a = (ydQ y y.found.length).length ∧ x = ⟨y.e, y.off, y.n, y.gen, y.found, []⟩) :
  Calls pP 125 #[(.pointer (some ⟨b1, 0, none⟩)), (.pointer (some ⟨b5, 0, none⟩))] wX fun e w278 => e = .returned (.tuple #[]) ∧ ya4 [b1, b2, b3, b4, b5] [(b0, 35)] [b0] wX w278 ∧ ∃ (s279 : ByteArray) (x280 x281 : Int), w278.heap[b1]? = some (.cells #[.string s279, .int .i64 x280, .int .i64 x281] 191) ∧ ∃ (x282 x283 x284 x285 : Int) (a286 : Option Addr) (n287 c288 : Nat) (a289 : Option Addr) (n290 c291 : Nat), w278.heap[b2]? = some (.cells #[.int .i64 x282, .int .i64 x283, .int .i64 x284, .int .i64 x285, .slice a286 n287 c288, .slice a289 n290 c291] 35) ∧ ∃ x292 : Int, w278.heap[b3]? = some (.cells #[.int .i64 x292] 3) ∧ ∃ x293 : Int, w278.heap[b4]? = some (.cells #[.int .i64 x293] 3) ∧ ∃ x294 : Int, w278.heap[b5]? = some (.cells #[.int .i64 x294] 3) ∧ yaJ yh3 (yjJ 390 [0, 0, 1, 0, 1, 1, 1, 1, 1, 1, 1, 1]) (yLR [1, 1, 1, 1, 1, 1, 1, 1, 0, 1, 0] [] (ya7 pP Tryz.f88 [] (fun v w' => yHU wS w' s v ∧ Mod [] wS w'))) (yf9 s b0 b1 b2 b3 b4 b5 (0, s279, x280, x281, x282, x283, x284, x285, a286, n287, c288, a289, n290, c291, x292, x293, x294)) w278 := by
 have sB := N.size
 have nd := H.nd
 simp at nd
 have lt := H.lt
 have hss : s.data.toList.length = s.size := by simp
 refine (yb2 (by omega) H.rd (off := 0) (x := 0) h5 rfl (by omega)).mono ?_
 rintro _ w1 ⟨rfl, hr1, hb1, M1⟩
 obtain ⟨pv, hpv⟩ : ∃ pv, pv = (ybO s.data.toList (yc5 a e) 0).2 := ⟨_, rfl⟩
 have hb1 : w1.heap[b5]? = some (.cells #[.int .i64 pv] 3) := by rw [hb1, hpv]; rfl
 obtain ⟨a1, e1, H1, hst1⟩ : ∃ a1 e1, RPS w0 w1 b0 b1 b2 b3 b4 b5 s a1 e1 x f ybS ev fv ∧ (ybO s.data.toList (yc5 a e) 0).1 = yc5 a1 e1 := by
  obtain ⟨n, e', h1, h2, h3⟩ := hr1
  refine ⟨n, e', ⟨h1, M1.keep H.hx (by simp; omega), M1.keep H.he (by simp; omega), M1.keep H.hn (by simp; omega), H.fr.keep M1 fun ad ha hk => ?_, by rw [hp0]; exact Row.nil .., H.m.via M1 (by simp), H.lt, H.nd, n, rfl, h2⟩, ?_⟩
  ·have := H.fr.base ad ha; simp at hk; omega
  ·rw [h3]; unfold yc5; rw [Int.toNat_natCast]
 refine ⟨rfl, yaD.ofE M1 fun k hk hl he => by simp at hk he ⊢; omega, _, _, _, H1.hr, _, _, _, _, _, _, _, _, _, _, H1.hx, _, H1.he, _, H1.hn, _, hb1, ?_⟩
 have hsp1 : ∀ y, ygL s y → e1 = 0 ∧ a1 = (yfR y 0).length ∧ x = ⟨y.e, y.off, y.n, y.gen, y.found, []⟩ ∧ pv = y.parts.length := fun y hy => by
  obtain ⟨h1, h2, h3⟩ := hsp y hy
  have h4 := hy.np
  have h5 : yc5 a e = some (ydQ y y.found.length).length := by unfold yc5; rw [if_pos h1, h2, Int.toNat_natCast]
  rw [h5, h4] at hst1 hpv
  obtain ⟨n, hn1, hn2⟩ := H1.pos
  unfold yc5 at hst1
  by_cases he : e1 = 0
  ·rw [if_pos he] at hst1
   simp only [Option.some.injEq] at hst1
   exact ⟨he, by omega, h3, hpv⟩
  ·rw [if_neg he] at hst1; cases hst1
 obtain ⟨ve, voff, vn, vgen, lf, lp⟩ := x
 have hp0 : lp = [] := hp0
 subst hp0
 refine yy6 (fun mm x16 s1 a e y0 y1 y2 y3 fa fn fc pa pn pc ev' fv' pv' w' => ∃ (i : Nat) (l : List PPart), x16 = i ∧ l.length = i ∧ i ≤ s.size + 1 ∧ (e = 0 → (i : Int) ≤ a) ∧ s1 = s ∧ y0 = ve ∧ y1 = voff ∧ y2 = vn ∧ y3 = vgen ∧ fa = f.a ∧ fn = f.n ∧ fc = f.c ∧ ev' = ev ∧ fv' = fv ∧ pv' = pv ∧ RPS w0 w' b0 b1 b2 b3 b4 b5 s a e ⟨ve, voff, vn, vgen, lf, l⟩ f ⟨pa, pn, pc⟩ ev fv ∧
  (∀ y, ygL s y → e = 0 ∧ a = (yfR y i).length ∧ l = y.parts.take i) ∧ mm = pv.toNat - i) pv.toNat
  ⟨0, [], rfl, rfl, by omega, fun h => by obtain ⟨n, h1, _⟩ := H1.pos; omega, rfl, rfl, rfl, rfl, rfl, rfl, rfl, rfl, rfl, rfl, rfl, H1, fun y hy => ⟨(hsp1 y hy).1, (hsp1 y hy).2.1, by simp⟩, by omega⟩ ?_
 rintro mm x16 s1 a2 e2 y0 y1 y2 y3 fa fn fc pa pn pc ev' fv' pv' w2 ⟨i, l, rfl, hli, his, hia, rfl, rfl, rfl, rfl, rfl, rfl, rfl, rfl, rfl, rfl, rfl, H2, hsp2, rfl⟩ _ _ _ _ h52
 have N2 : Mod [] wS w2 := (N.go0 H2.m (by simp; omega))
 have s2 := H2.m.size
 have ek : IntKind.wrap .i64 ((i : Int) + 1) = ((i + 1 : Nat) : Int) := by rw [yaH (by omega) (by omega)]; omega
 have fin : (∀ y, ygL s1 y → l = y.parts) → _ := fun hd => yLS (a := a2) (pv := pv') H2 h52 N2 hb.1 ⟨hl, by show l.length ≤ _; omega⟩ sB fun y hy => ⟨(hsp2 y hy).1, by rw [hd y hy]; obtain ⟨h1, h2, h3, h4⟩ := hsp1 y hy; cases h3; rfl⟩
 refine yaE (fun hlt => ?_) fun hge => fin fun y hy => ?_
 rotate_left
 ·have h1 := (hsp1 y hy).2.2.2
  have h2 := (hsp2 y hy).2.2
  rw [h2, List.take_of_length_le (by omega)]
 refine yaC (fun g => ?_) fun g => fin fun y hy => ?_
 rotate_left
 ·have := (hsp2 y hy).1; simp [this] at g
 have g : e2 = 0 := by simpa using g
 intro b6 f6 w3 A3 _ _ _ _ _ hp3
 have l6 := A3.lt b6 (by simp)
 have s3 := A3.mod.size
 refine (yEE (by omega) (H2.rd.keep0 A3.mod) hp3 (by omega)).mono ?_
 rintro _ w4 ⟨rfl, hr4, hp4, M4⟩
 have K4 : Mod [b1] w2 w4 := (A3.mod.trans M4).less fun k hk hl => by simp at hk ⊢; omega
 obtain ⟨a4, e4, H4, hst4⟩ := H2.go K4 hr4
 have s4 := M4.size
 generalize hyp : (ydE s1.data.toList (yc5 a2 e2)).2 = yp at hp4
 refine ⟨rfl, yaD.ofE M4 fun k hk hl he => by simp at hk he ⊢; omega, _, _, _, H4.hr, _, _, _, _, _, _, _, _, _, _, H4.hx, _, H4.he, _, H4.hn, _, K4.keep h52 (by simp; omega), _, _, hp4, ?_⟩
 have hrow : ∀ k ∈ ydY pa, w0.heap.size ≤ k ∧ k < w2.heap.size := fun k hk => by
  have := ya0 H2.pr k hk; exact ⟨this.1, this.2.1⟩
 refine yHT (f := ⟨pa, pn, pc⟩) (y := yp) H4.pr (by show l.length ≤ _; omega) (by have := H4.m.size; exact this) (fun b hb' hk => by have := hrow b hk; simp at hb'; omega) fun a' c' w5 hR5 M5 => ?_
 intro w6 A6 hr6 hx6 he6 hn6 h56 _
 have H6 : RPS w0 w6 b0 b1 b2 b3 b4 b5 s1 a4 e4 ⟨y0, y1, y2, y3, lf, l ++ [yp]⟩ f ⟨a', pn + 1, c'⟩ ev' fv' := by
  refine ⟨hr6, hx6, he6, hn6, ?_, hR5.keep A6.mod fun ad ha hk => ?_, (H4.m.via (M5.trans A6.mod) fun k hk hl => ?_), H4.lt, H4.nd, H4.pos⟩
  ·refine (H4.fr.keep M5 fun ad ha hk => ?_).keep A6.mod fun ad ha hk => ?_
   ·obtain ⟨_, cur, hc⟩ := H4.fr.block ad ha
    obtain ⟨_, _, cur2, hc2⟩ := ya0 H4.pr _ hk
    rw [hc2] at hc; cases hc
   ·have := H4.fr.base ad ha; simp at hk; omega
  ·have := hR5.base ad ha; simp at hk; omega
  ·rcases List.mem_append.1 hk with hk | hk
   ·have := hrow k hk; omega
   ·simp at hk ⊢; omega
 refine yy5 (pv'.toNat - (i + 1)) (by omega) ⟨i + 1, l ++ [yp], ek, by simp [hli], ?_, fun he => ?_, rfl, rfl, rfl, rfl, rfl, rfl, rfl, rfl, rfl, rfl, rfl, H6, fun y hy => ?_, by omega⟩
 ·have := hia g
  obtain ⟨n, hn1, hn2⟩ := H2.pos
  omega
 ·
  have hst : yc5 a4 e4 = some a4.toNat := by unfold yc5; rw [if_pos he]
  obtain ⟨n, hn1, hn2⟩ := H2.pos
  have h2 : yc5 a2 e2 = some n := by unfold yc5; rw [if_pos g, hn1, Int.toNat_natCast]
  rw [hst, h2] at hst4
  unfold ydE at hst4
  simp only at hst4
  have := hia g
  cases hq : (yfT s1.data.toList (some n) ⟨#[]⟩).1 with
  | none => rw [hq] at hst4; simp [ybO] at hst4
  | some q =>
   have h5 := yB3 hq
   rw [hq] at hst4
   have h6 := yC4 hst4
   obtain ⟨n4, hn4, _⟩ := H4.pos
   omega
 ·obtain ⟨h1, h2, h3⟩ := hsp2 y hy
  have h4 := (hsp1 y hy).2.2.2
  obtain ⟨y0', hy0⟩ : ∃ z, y.parts[i]? = some z := ⟨_, List.getElem?_eq_getElem (by omega)⟩
  have h5 := hy.p hy0
  have h6 : yc5 a2 e2 = some (yfR y i).length := by unfold yc5; rw [if_pos h1, h2, Int.toNat_natCast]
  rw [h6, h5] at hst4 hyp
  obtain ⟨n4, hn4, _⟩ := H4.pos
  unfold yc5 at hst4
  by_cases he : e4 = 0
  ·rw [if_pos he] at hst4
   simp only [Option.some.injEq] at hst4
   refine ⟨he, by omega, ?_⟩
   have hyp : y0' = yp := hyp
   rw [List.take_add_one, hy0, h3, hyp]; rfl
  ·rw [if_neg he] at hst4; cases hst4
theorem RPS.app {w0 w w1 w2 : World} {b0 b1 b2 b3 b4 b5 : Nat} {s : ByteArray} {a e : Int} {x : PRep} {f p : Sl} {ev fv : Int} {y : PFound} {a' : Option Addr} {n' c' : Nat} (H : RPS w0 w b0 b1 b2 b3 b4 b5 s a e x f p ev fv) (hp : p = ybS) (hx0 : x.parts = []) (hR : Row w1 w0.heap.size 101 5 ylO a' n' c' (x.found ++ [y])) (M : Mod (ydY f.a) w w1) (A : Mod [b2] w1 w2)
  (hr : w2.heap[b1]? = some (.cells #[.string s, .int .i64 a, .int .i64 e] QT)) (hx : w2.heap[b2]? = some (.cells #[.int .i64 x.e, .int .i64 x.off, .int .i64 x.n, .int .i64 x.gen, .slice a' n' c', .slice p.a p.n p.c] 35))
  (he : w2.heap[b3]? = some (.cells #[.int .i64 ev] 3)) (hn : w2.heap[b4]? = some (.cells #[.int .i64 fv] 3)) :
  RPS w0 w2 b0 b1 b2 b3 b4 b5 s a e ⟨x.e, x.off, x.n, x.gen, x.found ++ [y], x.parts⟩ ⟨a', n', c'⟩ p ev fv := by
 have lt := H.lt
 have hrow : ∀ k ∈ ydY f.a, w0.heap.size ≤ k := fun k hk => (ya0 H.fr k hk).1
 refine ⟨hr, hx, he, hn, hR.keep A fun ad ha hk => ?_, by subst hp; rw [hx0]; exact Row.nil .., (H.m.via (M.trans A) fun k hk hl => ?_), H.lt, H.nd, H.pos⟩
 ·have := hR.base ad ha; simp at hk; omega
 ·rcases List.mem_append.1 hk with hk | hk
  ·have := hrow k hk; omega
  ·simp at hk ⊢; omega
set_option maxHeartbeats 8000000 in
theorem yuE {s : ByteArray} (hs : s.size ≤ 900000) (w : World) :
  Calls pP 88 #[.string s] w fun e w' => ∃ v, e = .returned v ∧ yHU w w' s v ∧ Mod [] w w' := by
 refine yHQ ?_
 intro b0 g0 b1 g1 b2 g2 b3 g3 b4 g4 b5 g5 w7 A7 h2 h3 h4
 have s7 := A7.mod.size
 have nd := A7.nd
 have lt : b0 < w7.heap.size ∧ b1 < w7.heap.size ∧ b2 < w7.heap.size ∧ b3 < w7.heap.size ∧ b4 < w7.heap.size ∧ b5 < w7.heap.size := ⟨A7.lt b0 (by simp), A7.lt b1 (by simp), A7.lt b2 (by simp), A7.lt b3 (by simp), A7.lt b4 (by simp), A7.lt b5 (by simp)⟩
 refine ycR fun b8 w9 c9 M9 f9 => ?_
 intro w10 A10 hr10 hx10 he10 hn10
 have s9 := M9.size
 have s10 := A10.mod.size
 have l8 := yaK c9
 have c10 := A10.mod.keep0 c9
 have N10 : Mod [] w w10 := (A7.mod.go0 M9 (by simp)).go0 A10.mod (by simp)
 have H0 : RPS w10 w10 b0 b1 b2 b3 b4 b5 s 0 0 ye4 ybS ybS 0 0 := ⟨hr10, hx10, he10, hn10, Row.nil .., Row.nil .., (Mod.refl _).less (by simp), by omega, nd, 0, rfl, by omega⟩
 refine yy3 (fun mm x28 s1 a e y0 y1 y2 y3 fa fn fc pa pn pc ev fv w' => ∃ k : Nat, x28 = k ∧ k ≤ 5 ∧ s1 = s ∧ y0 = 0 ∧ fa = none ∧ fn = 0 ∧ fc = 0 ∧ pa = none ∧ pn = 0 ∧ pc = 0 ∧ RPS w10 w' b0 b1 b2 b3 b4 b5 s a e ⟨y0, y1, y2, y3, [], []⟩ ybS ybS ev fv ∧
  (∀ x, ygL s x → e = 0 ∧ a = (yjO x k).length ∧ [ev, y1, y2, y3, fv].take k = (hdI x).take k) ∧ mm = 5 - k) 5
  ⟨0, rfl, by omega, rfl, rfl, rfl, rfl, rfl, rfl, rfl, rfl, H0, fun x _ => ⟨rfl, by simp [yjO], rfl⟩, rfl⟩ ?_
 rintro mm x28 s1 a e y0 y1 y2 y3 fa fn fc pa pn pc ev fv w11 ⟨k, rfl, hk, rfl, rfl, rfl, rfl, rfl, rfl, rfl, rfl, H, hsp, rfl⟩ _ _ _ _
 have nd' := nd
 simp at nd'
 have hss : s1.data.toList.length = s1.size := by simp
 refine yaE (fun hlt => ?_) fun hge => ?_
 ·have hk5 : k < 5 := by omega
  have c11 := H.m.keep c10 (show b8 ∉ [b1, b2, b3, b4, b5] by simp; omega)
  have ek : IntKind.wrap .i64 ((k : Int) + 1) = ((k + 1 : Nat) : Int) := by rw [yaH (by omega) (by omega)]; omega
  have step : ∀ (x0 : Int) (x : PRep), ygL s1 x → ∃ n, (hdI x)[k]? = some n ∧ ybO s1.data.toList (yc5 a e) x0 = (some (yjO x (k + 1)).length, n) := fun x0 x hx => by
   obtain ⟨h1, h2, h3⟩ := hsp x hx
   obtain ⟨n, hn⟩ : ∃ n, (hdI x)[k]? = some n := ⟨_, List.getElem?_eq_getElem (by simpa [hdI] using hk5)⟩
   refine ⟨n, hn, ?_⟩
   have := hx.hd hn
   unfold yc5
   rw [if_pos h1, h2, Int.toNat_natCast]
   exact yEF this x0
  have done : ∀ {st : Option Nat} {v x0 : Int} {n : Nat} {e' z1 z2 z3 ev' fv' : Int}, ybO s1.data.toList (yc5 a e) x0 = (st, v) → st = (if e' = 0 then some n else none) → ([ev', z1, z2, z3, fv'].take (k + 1) = [ev, y1, y2, y3, fv].take k ++ [v]) →
    ∀ x, ygL s1 x → e' = 0 ∧ ((n : Nat) : Int) = (yjO x (k + 1)).length ∧ [ev', z1, z2, z3, fv'].take (k + 1) = (hdI x).take (k + 1) := fun {st v x0 n e' z1 z2 z3 ev' fv'} hv hst ht x hx => by
   obtain ⟨m, hm, hm2⟩ := step x0 x hx
   obtain ⟨_, _, hm3⟩ := hsp x hx
   rw [hv] at hm2
   simp only [Prod.mk.injEq] at hm2
   obtain ⟨e1, e2⟩ := hm2
   rw [e1] at hst
   have he : e' = 0 := by
    by_cases he : e' = 0
    ·exact he
    ·rw [if_neg he] at hst; cases hst
   rw [if_pos he] at hst
   refine ⟨he, by simp only [Option.some.injEq] at hst; omega, ?_⟩
   rw [ht, hm3, e2, List.take_add_one, hm]; rfl
  rcases (by omega : k = 0 ∨ k = 1 ∨ k = 2 ∨ k = 3 ∨ k = 4) with rfl | rfl | rfl | rfl | rfl
  ·refine ⟨_, rfl, by omega, by omega, yhN (x := some ⟨b3, 0, none⟩) (by rw [ya6, yaY c11]; rfl) ?_⟩
   refine (yb2 (by omega) H.rd (off := 0) (x := ev) H.he rfl (by omega)).mono ?_
   rintro _ w12 ⟨rfl, hr, hb, M12⟩
   obtain ⟨n, e', h1, h2', h3'⟩ := hr
   have hb : w12.heap[b3]? = some (.cells #[.int .i64 (ybO s1.data.toList (yc5 a e) ev).2] 3) := by rw [hb]; rfl
   have H' : RPS w10 w12 b0 b1 b2 b3 b4 b5 s1 n e' ⟨0, y1, y2, y3, [], []⟩ ybS ybS (ybO s1.data.toList (yc5 a e) ev).2 fv := ⟨h1, M12.keep H.hx (by simp; omega), hb, M12.keep H.hn (by simp; omega), Row.nil .., Row.nil .., H.m.via M12 (by simp), H.lt, H.nd, n, rfl, h2'⟩
   exact ⟨rfl, yaD.ofE M12 fun k hk hl he => by simp at hk he ⊢; omega, _, _, _, h1, _, _, _, _, _, _, _, _, _, _, H'.hx, _, H'.he, _, H'.hn, ye9 (5 - (0 + 1)) (by omega) ⟨0 + 1, ek, by omega, rfl, rfl, rfl, rfl, rfl, rfl, rfl, rfl, H', done rfl h3' rfl, rfl⟩⟩
  ·refine ⟨_, rfl, by omega, by omega, yhN (x := some ⟨b2, 1, none⟩) (by rw [ya6, yaY c11]; rfl) ?_⟩
   refine (yb2 (by omega) H.rd (off := 1) (x := y1) H.hx rfl (by omega)).mono ?_
   rintro _ w12 ⟨rfl, hr, hb, M12⟩
   obtain ⟨n, e', h1, h2', h3'⟩ := hr
   have H' : RPS w10 w12 b0 b1 b2 b3 b4 b5 s1 n e' ⟨0, (ybO s1.data.toList (yc5 a e) y1).2, y2, y3, [], []⟩ ybS ybS ev fv := ⟨h1, by rw [hb]; rfl, M12.keep H.he (by simp; omega), M12.keep H.hn (by simp; omega), Row.nil .., Row.nil .., H.m.via M12 (by simp), H.lt, H.nd, n, rfl, h2'⟩
   exact ⟨rfl, yaD.ofE M12 fun k hk hl he => by simp at hk he ⊢; omega, _, _, _, h1, _, _, _, _, _, _, _, _, _, _, H'.hx, _, H'.he, _, H'.hn, ye9 (5 - (1 + 1)) (by omega) ⟨1 + 1, ek, by omega, rfl, rfl, rfl, rfl, rfl, rfl, rfl, rfl, H', done rfl h3' rfl, rfl⟩⟩
  ·refine ⟨_, rfl, by omega, by omega, yhN (x := some ⟨b2, 2, none⟩) (by rw [ya6, yaY c11]; rfl) ?_⟩
   refine (yb2 (by omega) H.rd (off := 2) (x := y2) H.hx rfl (by omega)).mono ?_
   rintro _ w12 ⟨rfl, hr, hb, M12⟩
   obtain ⟨n, e', h1, h2', h3'⟩ := hr
   have H' : RPS w10 w12 b0 b1 b2 b3 b4 b5 s1 n e' ⟨0, y1, (ybO s1.data.toList (yc5 a e) y2).2, y3, [], []⟩ ybS ybS ev fv := ⟨h1, by rw [hb]; rfl, M12.keep H.he (by simp; omega), M12.keep H.hn (by simp; omega), Row.nil .., Row.nil .., H.m.via M12 (by simp), H.lt, H.nd, n, rfl, h2'⟩
   exact ⟨rfl, yaD.ofE M12 fun k hk hl he => by simp at hk he ⊢; omega, _, _, _, h1, _, _, _, _, _, _, _, _, _, _, H'.hx, _, H'.he, _, H'.hn, ye9 (5 - (2 + 1)) (by omega) ⟨2 + 1, ek, by omega, rfl, rfl, rfl, rfl, rfl, rfl, rfl, rfl, H', done rfl h3' rfl, rfl⟩⟩
  ·refine ⟨_, rfl, by omega, by omega, yhN (x := some ⟨b2, 3, none⟩) (by rw [ya6, yaY c11]; rfl) ?_⟩
   refine (yb2 (by omega) H.rd (off := 3) (x := y3) H.hx rfl (by omega)).mono ?_
   rintro _ w12 ⟨rfl, hr, hb, M12⟩
   obtain ⟨n, e', h1, h2', h3'⟩ := hr
   have H' : RPS w10 w12 b0 b1 b2 b3 b4 b5 s1 n e' ⟨0, y1, y2, (ybO s1.data.toList (yc5 a e) y3).2, [], []⟩ ybS ybS ev fv := ⟨h1, by rw [hb]; rfl, M12.keep H.he (by simp; omega), M12.keep H.hn (by simp; omega), Row.nil .., Row.nil .., H.m.via M12 (by simp), H.lt, H.nd, n, rfl, h2'⟩
   exact ⟨rfl, yaD.ofE M12 fun k hk hl he => by simp at hk he ⊢; omega, _, _, _, h1, _, _, _, _, _, _, _, _, _, _, H'.hx, _, H'.he, _, H'.hn, ye9 (5 - (3 + 1)) (by omega) ⟨3 + 1, ek, by omega, rfl, rfl, rfl, rfl, rfl, rfl, rfl, rfl, H', done rfl h3' rfl, rfl⟩⟩
  ·refine ⟨_, rfl, by omega, by omega, yhN (x := some ⟨b4, 0, none⟩) (by rw [ya6, yaY c11]; rfl) ?_⟩
   refine (yb2 (by omega) H.rd (off := 0) (x := fv) H.hn rfl (by omega)).mono ?_
   rintro _ w12 ⟨rfl, hr, hb, M12⟩
   obtain ⟨n, e', h1, h2', h3'⟩ := hr
   have hb : w12.heap[b4]? = some (.cells #[.int .i64 (ybO s1.data.toList (yc5 a e) fv).2] 3) := by rw [hb]; rfl
   have H' : RPS w10 w12 b0 b1 b2 b3 b4 b5 s1 n e' ⟨0, y1, y2, y3, [], []⟩ ybS ybS ev (ybO s1.data.toList (yc5 a e) fv).2 := ⟨h1, M12.keep H.hx (by simp; omega), M12.keep H.he (by simp; omega), hb, Row.nil .., Row.nil .., H.m.via M12 (by simp), H.lt, H.nd, n, rfl, h2'⟩
   exact ⟨rfl, yaD.ofE M12 fun k hk hl he => by simp at hk he ⊢; omega, _, _, _, h1, _, _, _, _, _, _, _, _, _, _, H'.hx, _, H'.he, _, H'.hn, ye9 (5 - (4 + 1)) (by omega) ⟨4 + 1, ek, by omega, rfl, rfl, rfl, rfl, rfl, rfl, rfl, rfl, H', done rfl h3' rfl, rfl⟩⟩
 have hk5 : k = 5 := by omega
 subst hk5
 intro w13 A13 hr13 hx13 he13 hn13
 have hb0 : w.heap.size ≤ b0 ∧ w.heap.size ≤ b1 ∧ w.heap.size ≤ b2 ∧ w.heap.size ≤ b3 ∧ w.heap.size ≤ b4 ∧ w.heap.size ≤ b5 := ⟨g0, g1, g2, g3, g4, g5⟩
 have H13 : RPS w10 w13 b0 b1 b2 b3 b4 b5 s1 a e ⟨ev, y1, y2, y3, [], []⟩ ybS ybS ev fv := ⟨hr13, hx13, he13, hn13, Row.nil .., Row.nil .., H.m.via A13.mod (by simp), H.lt, H.nd, H.pos⟩
 have hsp13 : ∀ x, ygL s1 x → e = 0 ∧ a = (ydQ x 0).length ∧ [ev, y1, y2, y3, fv] = hdI x := fun x hx => by
  obtain ⟨h1, h2, h3⟩ := hsp x hx
  rw [yCX] at h2
  exact ⟨h1, h2, by simpa [hdI] using h3⟩
 clear hsp H
 refine yy4 (fun mm x11 s2 a e z0 z1 z2 z3 fa fn fc pa pn pc ev' fv' w' => ∃ (i : Nat) (l : List PFound), x11 = i ∧ l.length = i ∧ i ≤ s1.size + 1 ∧ (e = 0 → (i : Int) ≤ a) ∧ s2 = s1 ∧ z0 = ev ∧ z1 = y1 ∧ z2 = y2 ∧ z3 = y3 ∧ pa = none ∧ pn = 0 ∧ pc = 0 ∧ ev' = ev ∧ fv' = fv ∧ RPS w10 w' b0 b1 b2 b3 b4 b5 s1 a e ⟨ev, y1, y2, y3, l, []⟩ ⟨fa, fn, fc⟩ ybS ev fv ∧
  (∀ x, ygL s1 x → e = 0 ∧ a = (ydQ x i).length ∧ l = x.found.take i) ∧ mm = fv.toNat - i) fv.toNat
  ⟨0, [], rfl, rfl, by omega, fun h => by obtain ⟨n, h1, _⟩ := H13.pos; omega, rfl, rfl, rfl, rfl, rfl, rfl, rfl, rfl, rfl, rfl, H13, fun x hx => ⟨(hsp13 x hx).1, (hsp13 x hx).2.1, by simp⟩, by omega⟩ ?_
 rintro mm x11 s2 a2 e2 z0 z1 z2 z3 fa fn fc pa pn pc ev' fv' w14 ⟨i, l, rfl, hli, his, hia, rfl, rfl, rfl, rfl, rfl, rfl, rfl, rfl, rfl, rfl, H, hsp, rfl⟩ _ _ _ _
 have s14 := H.m.size
 have hd13 : ∀ x, ygL s2 x → ev' = x.e ∧ z1 = x.off ∧ z2 = x.n ∧ z3 = x.gen ∧ fv' = x.found.length := fun x hx => by
  have := (hsp13 x hx).2.2
  simpa [hdI] using this
 have ek : IntKind.wrap .i64 ((i : Int) + 1) = ((i + 1 : Nat) : Int) := by rw [yaH (by omega) (by omega)]; omega
 have out : ∀ {w15}, Adv [] [] w14 w15 → w15.heap[b5]? = some (.cells #[.int .i64 0] 3) → (∀ x, ygL s2 x → i = x.found.length) → _ := fun {w15} A15 h5 hd => yLT (wS := w) (wX := w15) (H.keep0 A15.mod) h5 rfl N10 hb0 hs (show l.length ≤ _ by omega) fun x hx => by
  obtain ⟨h1, h2, h3⟩ := hsp x hx
  obtain ⟨q1, q2, q3, q4, q5⟩ := hd13 x hx
  have h4 := hd x hx
  refine ⟨h1, by rw [h2, h4], ?_⟩
  rw [h3, h4, List.take_length, q1, q2, q3, q4]
 refine yaE (fun hlt => ?_) fun hge => ?_
 rotate_left
 ·intro w15 A15 _ _ _ _ h5
  refine out A15 h5 fun x hx => ?_
  obtain ⟨_, _, h3⟩ := hsp x hx
  have := congrArg List.length h3
  have h4 := (hd13 x hx).2.2.2.2
  rw [List.length_take] at this; omega
 refine yaC (fun g => ?_) fun g => ?_
 rotate_left
 ·intro w15 A15 _ _ _ _ h5
  refine out A15 h5 fun x hx => ?_
  have := (hsp x hx).1; simp [this] at g
 have g : e2 = 0 := by simpa using g
 intro b6 f6 w15 A15 _ _ _ _ hf15
 have l6 := A15.lt b6 (by simp)
 have s15 := A15.mod.size
 refine (yb2 (by omega) (H.rd.keep0 A15.mod) (off := 0) (x := 0) hf15 rfl (by omega)).mono ?_
 rintro _ w16 ⟨rfl, hr16, hf16, M16⟩
 have s16 := M16.size
 have K16 : Mod [b1] w14 w16 := (A15.mod.trans M16).less fun k hk hl => by simp at hk ⊢; omega
 obtain ⟨a16, e16, H16, hst16⟩ := H.go K16 hr16
 obtain ⟨n16, rfl, hn16⟩ := H16.pos
 obtain ⟨off, hoff⟩ : ∃ off, off = (ybO s2.data.toList (yc5 a2 e2) 0).2 := ⟨_, rfl⟩
 have hf16 : w16.heap[b6]? = some (.cells #[.int .i64 off, .bool false, .string ByteArray.empty, .bool false, .string ByteArray.empty] 101) := by rw [hf16, hoff]; rfl
 have hsp16 : ∀ x, ygL s2 x → ∃ y, x.found[i]? = some y ∧ e16 = 0 ∧ off = y.off ∧ yrK s2.data.toList n16 = some (y.r, (ydQ x (i + 1)).length) := fun x hx => by
  obtain ⟨h1, h2, h3⟩ := hsp x hx
  have h4 := (hd13 x hx).2.2.2.2
  obtain ⟨y, hy⟩ : ∃ y, x.found[i]? = some y := ⟨_, List.getElem?_eq_getElem (by omega)⟩
  obtain ⟨h5, h6⟩ := hx.f hy
  have h7 : yc5 a2 e2 = some (ydQ x i).length := by unfold yc5; rw [if_pos h1, h2, Int.toNat_natCast]
  rw [h7, h5] at hst16 hoff
  unfold yc5 at hst16
  by_cases he : e16 = 0
  ·rw [if_pos he, Int.toNat_natCast] at hst16
   simp only [Option.some.injEq] at hst16
   exact ⟨y, hy, he, hoff, by rw [← hst16]; exact h6⟩
  ·rw [if_neg he] at hst16; cases hst16
 have hup16 : e16 = 0 → (i : Int) + 1 ≤ n16 := fun he => by
  have h1 : yc5 ((n16 : Nat) : Int) e16 = some n16 := by unfold yc5; rw [if_pos he, Int.toNat_natCast]
  obtain ⟨n2, hn2, hn3⟩ := H.pos
  have h2 : yc5 a2 e2 = some n2 := by unfold yc5; rw [if_pos g, hn2, Int.toNat_natCast]
  rw [h1, h2] at hst16
  have h3 := yC4 hst16
  have := hia g
  omega
 have hrow : ∀ k ∈ ydY fa, w10.heap.size ≤ k ∧ k < w14.heap.size := fun k hk => by
  have := ya0 H.fr k hk; exact ⟨this.1, this.2.1⟩
 refine ⟨rfl, yaD.ofE M16 fun k hk hl he => by simp at hk he ⊢; omega, _, _, _, H16.hr, _, _, _, _, _, _, _, _, _, _, H16.hx, _, H16.he, _, H16.hn, _, _, _, _, _, hf16, ?_, ?_⟩
 ·intro b9 f9 w17 A17 _ _ _ _ _
  have l9 := A17.lt b9 (by simp)
  have s17 := A17.mod.size
  refine (ynE s2 n16 (by omega) hn16 w17).mono ?_
  rintro _ w18 ⟨_, rfl, ⟨r, to, e18, rfl, hrec⟩, M18⟩
  have s18 := M18.size
  have K18 : Mod [b1] w14 w18 := ((K16.trans A17.mod).trans M18).less (by simp)
  have H18 := (H16.keep0 A17.mod).keep0 M18
  have hf18 := M18.keep0 (A17.mod.keep0 hf16)
  refine ⟨_, _, _, _, _, _, rfl, yaD.of0 M18, _, _, _, H18.hr, _, _, _, _, _, _, _, _, _, _, H18.hx, _, H18.he, _, H18.hn, _, _, _, _, _, hf18, ?_⟩
  intro w19 A19 _ _ _ _ _
  have s19 := A19.mod.size
  have K19 : Mod [b1] w14 w19 := (K18.trans A19.mod).less fun k hk hl => by simp at hk ⊢; omega
  have hf19 := A19.mod.keep hf18 (show b6 ∉ [b9] by simp; omega)
  have hr19 : Rd QT s2 b1 (yc5 ((n16 : Nat) : Int) e16) w19 := H18.rd.keep A19.mod (by simp; omega)
  refine (yeD hr19 (to := to) (e1 := e18) (by
   rcases hrec with ⟨_, h⟩ | ⟨_, h, _⟩
   ·have := yk3 h; omega
   ·omega)).mono ?_
  rintro _ w20 ⟨rfl, M20, hr20⟩
  have s20 := M20.size
  have K20 : Mod [b1] w14 w20 := (K19.trans M20).less (by simp)
  have hf20 := M20.keep hf19 (show b6 ∉ [b1] by simp; omega)
  obtain ⟨a20, e20, H20, hst20⟩ := H.go K20 hr20
  refine ⟨_, rfl, yaD.ofE M20 fun k hk hl he => by simp at hk he ⊢; omega, _, _, _, H20.hr, _, _, _, _, _, _, _, _, _, _, H20.hx, _, H20.he, _, H20.hn, _, _, _, _, _, hf20, ?_⟩
  have hc20 : e20 = 0 → e16 = 0 ∧ e18 = 0 ∧ a20 = to ∧ (i : Int) + 1 ≤ a20 := fun he => by
   obtain ⟨n20, hn20, _⟩ := H20.pos
   have h1 : yc5 a20 e20 = some n20 := by unfold yc5; rw [if_pos he, hn20, Int.toNat_natCast]
   rw [h1] at hst20
   by_cases hc : (yc5 ((n16 : Nat) : Int) e16).isSome = true ∧ e18 = 0
   ·rw [if_pos hc] at hst20
    have h16 : e16 = 0 := by
     by_cases h : e16 = 0
     ·exact h
     ·have := hc.1; unfold yc5 at this; rw [if_neg h] at this; cases this
    rcases hrec with ⟨_, h⟩ | ⟨h, _, _⟩
    ·have h2 := yk3 h
     have h3 := hup16 h16
     simp only [Option.some.injEq] at hst20
     exact ⟨h16, hc.2, by omega, by omega⟩
    ·exact absurd hc.2 h
   ·rw [if_neg hc] at hst20; cases hst20
  have hsp20 : ∀ x, ygL s2 x → e20 = 0 ∧ a20 = (ydQ x (i + 1)).length ∧ e16 = 0 ∧ e18 = 0 ∧ l ++ [⟨off, r⟩] = x.found.take (i + 1) := fun x hx => by
   obtain ⟨y, hy, h16, h1, h2⟩ := hsp16 x hx
   rcases hrec with ⟨h3, h4⟩ | ⟨_, _, h4⟩
   ·rw [h2] at h4
    simp only [Option.some.injEq, Prod.mk.injEq] at h4
    have h5 : (yc5 ((n16 : Nat) : Int) e16).isSome = true := by unfold yc5; rw [if_pos h16]; rfl
    rw [if_pos ⟨h5, h3⟩] at hst20
    obtain ⟨n20, hn20, _⟩ := H20.pos
    unfold yc5 at hst20
    by_cases he : e20 = 0
    ·rw [if_pos he] at hst20
     simp only [Option.some.injEq] at hst20
     refine ⟨he, by omega, h16, h3, ?_⟩
     rw [List.take_add_one, hy, (hsp x hx).2.2, h1, ← h4.1]; rfl
    ·rw [if_neg he] at hst20; cases hst20
   ·rw [h2] at h4; cases h4
  refine yaC (fun gm => ?_) fun gm => ?_
  rotate_left
  ·
   refine ypM (f := ⟨fa, fn, fc⟩) (y := ⟨off, ⟨false, ByteArray.empty, false, ByteArray.empty⟩⟩) H20.fr (show l.length ≤ _ by omega) H20.m.size (fun b hb' hk => by have := hrow b hk; simp at hb'; omega) fun a' c' w22 hR M22 => ?_
   intro w23 A23 hr hx he hn _
   have H23 := H20.app rfl rfl hR M22 A23.mod hr hx he hn
   refine ygM (fv'.toNat - (i + 1)) (by omega) ⟨i + 1, l ++ [⟨off, ⟨false, ByteArray.empty, false, ByteArray.empty⟩⟩], ek, by simp [hli], ?_, fun he => (hc20 he).2.2.2, rfl, rfl, rfl, rfl, rfl, rfl, rfl, rfl, rfl, rfl, H23, fun x hx => ?_, by omega⟩
   ·have := hia g
    obtain ⟨n, hn1, hn2⟩ := H.pos
    omega
   ·obtain ⟨_, _, h16, h18, _⟩ := hsp20 x hx
    have : (yc5 ((n16 : Nat) : Int) e16).isSome = true := by unfold yc5; rw [if_pos h16]; rfl
    rw [this, h18] at gm; cases gm
  ·intro w21 A21 hr21 hx21 he21 hn21 hf21
   have K21 : Mod [b1] w14 w21 := (K20.trans A21.mod).less fun k hk hl => by simp at hk ⊢; omega
   have s21 := A21.mod.size
   refine ypM (f := ⟨fa, fn, fc⟩) (y := ⟨off, r⟩) (H.fr.keep K21 fun ad ha hk => by have := H.fr.base ad ha; simp at hk; omega) (show l.length ≤ _ by omega) (by have := H.m.size; omega) (fun b hb' hk => by have := hrow b hk; simp at hb'; omega) fun a' c' w22 hR M22 => ?_
   intro w23 A23 hr hx he hn _
   have H21 : RPS w10 w21 b0 b1 b2 b3 b4 b5 s2 a20 e20 ⟨ev', z1, z2, z3, l, []⟩ ⟨fa, fn, fc⟩ ybS ev' fv' := ⟨hr21, hx21, he21, hn21, H.fr.keep K21 fun ad ha hk => by have := H.fr.base ad ha; simp at hk; omega, Row.nil .., H.m.via K21 (by simp), H.lt, H.nd, H20.pos⟩
   have H23 := H21.app rfl rfl hR M22 A23.mod hr hx he hn
   refine ygM (fv'.toNat - (i + 1)) (by omega) ⟨i + 1, l ++ [⟨off, r⟩], ek, by simp [hli], ?_, fun he => (hc20 he).2.2.2, rfl, rfl, rfl, rfl, rfl, rfl, rfl, rfl, rfl, rfl, H23, fun x hx => ⟨(hsp20 x hx).1, (hsp20 x hx).2.1, (hsp20 x hx).2.2.2.2⟩, by omega⟩
   have := hia g
   obtain ⟨n, hn1, hn2⟩ := H.pos
   omega
 ·intro w17 A17 _ _ _ _ _
  have s17 := A17.mod.size
  refine (ynE s2 n16 (by omega) hn16 w17).mono ?_
  rintro _ w18 ⟨_, rfl, ⟨r, to, e18, rfl, hrec⟩, M18⟩
  have s18 := M18.size
  have K18 : Mod [b1] w14 w18 := ((K16.trans A17.mod).trans M18).less (by simp)
  have H18 := (H16.keep0 A17.mod).keep0 M18
  have hf18 := M18.keep0 (A17.mod.keep0 hf16)
  refine ⟨_, _, _, _, _, _, rfl, yaD.of0 M18, _, _, _, H18.hr, _, _, _, _, _, _, _, _, _, _, H18.hx, _, H18.he, _, H18.hn, _, _, _, _, _, hf18, ?_⟩
  intro b9 f9 w19 A19 _ _ _ _ _
  have l9 := A19.lt b9 (by simp)
  have s19 := A19.mod.size
  have K19 : Mod [b1] w14 w19 := (K18.trans A19.mod).less fun k hk hl => by simp at hk ⊢; omega
  have hf19 := A19.mod.keep0 hf18
  have hr19 : Rd QT s2 b1 (yc5 ((n16 : Nat) : Int) e16) w19 := H18.rd.keep0 A19.mod
  refine (yeD hr19 (to := to) (e1 := e18) (by
   rcases hrec with ⟨_, h⟩ | ⟨_, h, _⟩
   ·have := yk3 h; omega
   ·omega)).mono ?_
  rintro _ w20 ⟨rfl, M20, hr20⟩
  have s20 := M20.size
  have K20 : Mod [b1] w14 w20 := (K19.trans M20).less (by simp)
  have hf20 := M20.keep hf19 (show b6 ∉ [b1] by simp; omega)
  obtain ⟨a20, e20, H20, hst20⟩ := H.go K20 hr20
  refine ⟨_, rfl, yaD.ofE M20 fun k hk hl he => by simp at hk he ⊢; omega, _, _, _, H20.hr, _, _, _, _, _, _, _, _, _, _, H20.hx, _, H20.he, _, H20.hn, _, _, _, _, _, hf20, ?_⟩
  have hc20 : e20 = 0 → e16 = 0 ∧ e18 = 0 ∧ a20 = to ∧ (i : Int) + 1 ≤ a20 := fun he => by
   obtain ⟨n20, hn20, _⟩ := H20.pos
   have h1 : yc5 a20 e20 = some n20 := by unfold yc5; rw [if_pos he, hn20, Int.toNat_natCast]
   rw [h1] at hst20
   by_cases hc : (yc5 ((n16 : Nat) : Int) e16).isSome = true ∧ e18 = 0
   ·rw [if_pos hc] at hst20
    have h16 : e16 = 0 := by
     by_cases h : e16 = 0
     ·exact h
     ·have := hc.1; unfold yc5 at this; rw [if_neg h] at this; cases this
    rcases hrec with ⟨_, h⟩ | ⟨h, _, _⟩
    ·have h2 := yk3 h
     have h3 := hup16 h16
     simp only [Option.some.injEq] at hst20
     exact ⟨h16, hc.2, by omega, by omega⟩
    ·exact absurd hc.2 h
   ·rw [if_neg hc] at hst20; cases hst20
  have hsp20 : ∀ x, ygL s2 x → e20 = 0 ∧ a20 = (ydQ x (i + 1)).length ∧ e16 = 0 ∧ e18 = 0 ∧ l ++ [⟨off, r⟩] = x.found.take (i + 1) := fun x hx => by
   obtain ⟨y, hy, h16, h1, h2⟩ := hsp16 x hx
   rcases hrec with ⟨h3, h4⟩ | ⟨_, _, h4⟩
   ·rw [h2] at h4
    simp only [Option.some.injEq, Prod.mk.injEq] at h4
    have h5 : (yc5 ((n16 : Nat) : Int) e16).isSome = true := by unfold yc5; rw [if_pos h16]; rfl
    rw [if_pos ⟨h5, h3⟩] at hst20
    obtain ⟨n20, hn20, _⟩ := H20.pos
    unfold yc5 at hst20
    by_cases he : e20 = 0
    ·rw [if_pos he] at hst20
     simp only [Option.some.injEq] at hst20
     refine ⟨he, by omega, h16, h3, ?_⟩
     rw [List.take_add_one, hy, (hsp x hx).2.2, h1, ← h4.1]; rfl
    ·rw [if_neg he] at hst20; cases hst20
   ·rw [h2] at h4; cases h4
  refine yaC (fun gm => ?_) fun gm => ?_
  rotate_left
  ·
   refine ypM (f := ⟨fa, fn, fc⟩) (y := ⟨off, ⟨false, ByteArray.empty, false, ByteArray.empty⟩⟩) H20.fr (show l.length ≤ _ by omega) H20.m.size (fun b hb' hk => by have := hrow b hk; simp at hb'; omega) fun a' c' w22 hR M22 => ?_
   intro w23 A23 hr hx he hn _
   have H23 := H20.app rfl rfl hR M22 A23.mod hr hx he hn
   refine ygM (fv'.toNat - (i + 1)) (by omega) ⟨i + 1, l ++ [⟨off, ⟨false, ByteArray.empty, false, ByteArray.empty⟩⟩], ek, by simp [hli], ?_, fun he => (hc20 he).2.2.2, rfl, rfl, rfl, rfl, rfl, rfl, rfl, rfl, rfl, rfl, H23, fun x hx => ?_, by omega⟩
   ·have := hia g
    obtain ⟨n, hn1, hn2⟩ := H.pos
    omega
   ·obtain ⟨_, _, h16, h18, _⟩ := hsp20 x hx
    have : (yc5 ((n16 : Nat) : Int) e16).isSome = true := by unfold yc5; rw [if_pos h16]; rfl
    rw [this, h18] at gm; cases gm
  ·intro w21 A21 hr21 hx21 he21 hn21 hf21
   have K21 : Mod [b1] w14 w21 := (K20.trans A21.mod).less fun k hk hl => by simp at hk ⊢; omega
   have s21 := A21.mod.size
   refine ypM (f := ⟨fa, fn, fc⟩) (y := ⟨off, r⟩) (H.fr.keep K21 fun ad ha hk => by have := H.fr.base ad ha; simp at hk; omega) (show l.length ≤ _ by omega) (by have := H.m.size; omega) (fun b hb' hk => by have := hrow b hk; simp at hb'; omega) fun a' c' w22 hR M22 => ?_
   intro w23 A23 hr hx he hn _
   have H21 : RPS w10 w21 b0 b1 b2 b3 b4 b5 s2 a20 e20 ⟨ev', z1, z2, z3, l, []⟩ ⟨fa, fn, fc⟩ ybS ev' fv' := ⟨hr21, hx21, he21, hn21, H.fr.keep K21 fun ad ha hk => by have := H.fr.base ad ha; simp at hk; omega, Row.nil .., H.m.via K21 (by simp), H.lt, H.nd, H20.pos⟩
   have H23 := H21.app rfl rfl hR M22 A23.mod hr hx he hn
   refine ygM (fv'.toNat - (i + 1)) (by omega) ⟨i + 1, l ++ [⟨off, r⟩], ek, by simp [hli], ?_, fun he => (hc20 he).2.2.2, rfl, rfl, rfl, rfl, rfl, rfl, rfl, rfl, rfl, rfl, H23, fun x hx => ⟨(hsp20 x hx).1, (hsp20 x hx).2.1, (hsp20 x hx).2.2.2.2⟩, by omega⟩
   have := hia g
   obtain ⟨n, hn1, hn2⟩ := H.pos
   omega
theorem Row.fresh0 {α : Type} {w : World} {base T sz b : Nat} {enc : α → List Value} (h : w.heap[b]? = some (.cells #[] T)) (hb : base ≤ b) : Row w base T sz enc (some ⟨b, 0, none⟩) 0 0 [] :=
 ⟨rfl, by simp, .inr ⟨b, 0, #[], rfl, hb, h, by simp, by simp, by simp, by simp⟩⟩
theorem yMa.out {a : Nat} {o : Option (Nat × Nat)} {v : Value} (h : yMa a o v) : ∃ (n : Nat) (b e : Int), v = .tuple #[.int .u64 (n : Nat), .int .i64 b, .int .i64 e] ∧ ((e = 0 ∧ ∃ m : Nat, b = ((a + m : Nat) : Int) ∧ o = some (n, m)) ∨ (e ≠ 0 ∧ o = none)) := by
 cases o with
 | none => obtain ⟨e, he, rfl⟩ := h; exact ⟨0, _, _, rfl, .inr ⟨he, rfl⟩⟩
 | some p => obtain ⟨x, b⟩ := p; exact ⟨_, _, _, h, .inl ⟨rfl, b, rfl, rfl⟩⟩
theorem yDY.out {a : Nat} {o : Option (ByteArray × Nat)} {v : Value} (h : yDY a o v) : ∃ (n : ByteArray) (b e : Int), v = .tuple #[.string n, .int .i64 b, .int .i64 e] ∧ ((e = 0 ∧ ∃ m : Nat, b = ((a + m : Nat) : Int) ∧ o = some (n, m)) ∨ (e ≠ 0 ∧ o = none ∧ n = ⟨#[]⟩ ∧ b = 0)) := by
 cases o with
 | none => obtain ⟨e, he, rfl⟩ := h; exact ⟨_, _, _, rfl, .inr ⟨he, rfl, rfl, rfl⟩⟩
 | some p => obtain ⟨x, b⟩ := p; exact ⟨_, _, _, h, .inl ⟨rfl, b, rfl, rfl⟩⟩
theorem yLU {n : Int} (h : num n = true) : IntKind.wrap .u64 n = ((n.toNat : Nat) : Int) := by
 have := yeO h
 obtain ⟨k, rfl⟩ := Int.eq_ofNat_of_zero_le this.1
 rw [yeR (by omega), Int.toNat_natCast]
theorem yrZ {l : List Int} {k : Nat} {n : Int} (h : l[k]? = some n) : (l.take (k + 1)).flatMap ynD = (l.take k).flatMap ynD ++ yaL n.toNat := ybD h
set_option maxHeartbeats 4000000 in
theorem yC5 {w : World} {m : PMail} {s f p : Sl} (h : MailAt w m s f p) (hlc : m.calls.length ≤ 100000) :
  Calls pP 35 #[m.v s f p] w fun e w' => e = .returned (.tuple #[.string (if ybK m = 0 then ydG m else bs []), .int .i64 (ybK m)]) ∧ Mod [] w w' := by
 refine yaQ (yHN ?_)
 intro b1 f1 w2 A2
 have l1 := A2.lt b1 (by simp)
 refine (yuC ((h.keep0 A2.mod).w hlc)).mono ?_
 rintro _ w3 ⟨rfl, M3⟩
 have s3 := M3.size
 have N3 := A2.mod.go0 M3 (by simp)
 refine ⟨_, rfl, yaD.of0 M3, yaC (fun g => ?_) fun g => ?_⟩
 ·have g : ydF m ≠ 0 := by simpa using g
  have e : ybK m = ydF m := by rw [ybK, if_pos g]
  rw [e, if_neg g]; exact ⟨rfl, N3⟩
 have g : ydF m = 0 := by simpa using g
 obtain ⟨_, hn, ht, hr⟩ := ycQ g
 have hE : ybK m = if (yb5 m).length > 1048576 then 2 else 0 := by rw [ybK, if_neg (by simpa using g)]
 intro b5 f5 w6 A6 h6
 have l5 := A6.lt b5 (by simp)
 refine (yBQ b1 w6).mono ?_
 rintro _ w7 ⟨rfl, M7⟩
 refine ⟨_, _, _, _, _, _, _, _, _, _, rfl, yaD.of0 M7, _, _, _, _, _, _, _, _, _, _, _, _, _, _, _, _, _, _, _, _, _, _, _, M7.keep0 h6, ?_⟩
 intro w8 A8 h8 hb8
 have s6 := A6.mod.size
 have s7 := M7.size
 have s8 := A8.mod.size
 have N8 : Mod [] w w8 := ((N3.go0 A6.mod (by simp)).go0 M7 (by simp)).go0 A8.mod (by simp)
 have hB0 : Sb w3.heap.size b5 [] w8 := Sb.fresh f5 hb8
 have hsb : ycD w8 1 (fun x : Int => [.int .i64 x]) (some ⟨b1, 0, none⟩) 10 (yaW m) := ⟨rfl, fun i x hx => ⟨_, rfl, fun j v hv => by
  have hj : j = 0 := by have := (List.getElem?_eq_some_iff.1 hv).1; simp at this; omega
  subst hj
  simp at hv; subst hv
  have := yiG (s := s) (f := f) (p := p) h8 hx
  simpa [ya6, add_zero] using this⟩⟩
 refine yy2 (fun mm x19 k0 k1 k2 k3 k4 k5 k6 k7 k8 k9 sa sn sc r0 r1 r2 r3 fa fn fc pa pn pc p1 a1 n1 c1 w' => ∃ k : Nat, x19 = k ∧ k ≤ 10 ∧ k0 = m.kind ∧ k1 = m.fr ∧ k2 = m.to ∧ k3 = m.view ∧ k4 = m.normal ∧ k5 = m.last ∧ k6 = m.commit ∧ k7 = m.nonce ∧ k8 = m.base ∧ k9 = m.n ∧ sa = s.a ∧ sn = s.n ∧ sc = s.c ∧ r0 = m.r.e ∧ r1 = m.r.off ∧ r2 = m.r.n ∧ r3 = m.r.gen ∧ fa = f.a ∧ fn = f.n ∧ fc = f.c ∧ pa = p.a ∧ pn = p.n ∧ pc = p.c ∧ Sb w3.heap.size b5 (((yaW m).take k).flatMap ynD) w' ∧ Wr w3.heap.size b5 w8 w' ∧ mm = 10 - k) 10
  ⟨0, rfl, by omega, rfl, rfl, rfl, rfl, rfl, rfl, rfl, rfl, rfl, rfl, rfl, rfl, rfl, rfl, rfl, rfl, rfl, rfl, rfl, rfl, rfl, rfl, rfl, by simpa using hB0, Wr.of0 (Mod.refl _) (by omega), rfl⟩ ?_
 rintro mm x19 k0 k1 k2 k3 k4 k5 k6 k7 k8 k9 sa sn sc r0 r1 r2 r3 fa fn fc pa pn pc p1 a1 n1 c1 w9 ⟨k, rfl, hk, rfl, rfl, rfl, rfl, rfl, rfl, rfl, rfl, rfl, rfl, rfl, rfl, rfl, rfl, rfl, rfl, rfl, rfl, rfl, rfl, rfl, rfl, rfl, hB9, W9, rfl⟩ h9 hb9
 have lk := ye8 hn k
 have lk1 := ye8 hn (k + 1)
 have s9 := W9.bel.size
 have N9 : Mod [] w w9 := W9.mod N8 (by have := N3.size; omega)
 have sz3 : w3.heap.size ≤ w9.heap.size := by omega
 have ne : b1 ≠ b5 := by omega
 have M0 : ∀ {w'}, Wr w3.heap.size b5 w8 w' → Mod [] w w' := fun W => W.mod N8 (by have := N3.size; omega)
 refine yaE (fun hlt => ?_) fun hge => ?_
 ·have hk' : k < 10 := by omega
  obtain ⟨x, hx⟩ : ∃ x, (yaW m)[k]? = some x := ⟨_, List.getElem?_eq_getElem (by simpa [yaW] using hk')⟩
  have hc := yiG (s := s) (f := f) (p := p) h9 hx
  have hx1 := yfK hn hx
  refine ⟨_, yHe b1 hk', ywG (yaB hc ?_)⟩
  rw [yLU hx1]
  refine (ykN x.toNat (yf8 hx1).1 w9).mono ?_
  rintro _ w10 ⟨rfl, M10⟩
  obtain ⟨q1, q2, q3, q4, hq⟩ := (hB9.keep0 M10).cells
  refine ⟨_, rfl, _, _, _, _, _, _, _, _, _, _, _, _, _, _, _, _, _, _, _, _, _, _, _, M10.keep0 h9, _, _, _, _, hq, ?_⟩
  have ls := yf8 hx1
  have lv := (yaM x.toNat ls.1).2
  have s10 := M10.size
  refine (yBP (hB9.keep0 M10) (l2 := yaL x.toNat) (by omega) (by omega)).mono ?_
  rintro _ w11 ⟨rfl, hB11, W11⟩
  obtain ⟨t1, t2, t3, t4, ht1⟩ := hB11.cells
  have W9' : Wr w3.heap.size b5 w8 w11 := (W9.trans (Wr.of0 M10 (by omega))).trans W11
  refine ⟨_, _, rfl, _, _, _, _, _, _, _, _, _, _, _, _, _, _, _, _, _, _, _, _, _, _, _, W11.keep (M10.keep0 h9) ne (by decide), _, _, _, _, ht1, ?_⟩
  refine yy1 (10 - (k + 1)) (by omega) ⟨k + 1, by rw [yaH (by omega) (by omega)]; omega, by omega, rfl, rfl, rfl, rfl, rfl, rfl, rfl, rfl, rfl, rfl, rfl, rfl, rfl, rfl, rfl, rfl, rfl, rfl, rfl, rfl, rfl, rfl, rfl, ?_, W9', rfl⟩
  rw [yrZ hx]; exact hB11
 ·have hk' : k = 10 := by omega
  subst hk'
  have e10 : (yaW m).take 10 = yaW m := List.take_of_length_le (by simp [yaW])
  rw [e10] at hB9 lk
  obtain ⟨ll, hll, hop, hcs⟩ := h.calls
  have hl : ll.length ≤ 1000000 := by have := congrArg List.length hcs; simp at *; omega
  refine (yt5 (s := s) (ll := ll) ⟨hll.keep0 N9, fun q hq => (hop q hq).keep0 N9⟩ hl).mono ?_
  rw [hcs, ht, if_pos rfl]
  rintro _ w10 ⟨rfl, M10⟩
  obtain ⟨q1, q2, q3, q4, hq⟩ := (hB9.keep0 M10).cells
  refine ⟨_, _, rfl, _, _, _, _, _, _, _, _, _, _, _, _, _, _, _, _, _, _, _, _, _, _, _, M10.keep0 h9, _, _, _, _, hq, ?_⟩
  have N10 := N9.go0 M10 (by simp)
  refine (yv5 (h.rep.keep0 N10)).mono ?_
  rw [hr, if_pos rfl]
  rintro _ w11 ⟨rfl, M11⟩
  obtain ⟨t1, t2, t3, t4, ht1⟩ := ((hB9.keep0 M10).keep0 M11).cells
  refine ⟨_, _, rfl, _, _, _, _, _, _, _, _, _, _, _, _, _, _, _, _, _, _, _, _, _, _, _, M11.keep0 (M10.keep0 h9), _, _, _, _, ht1, ?_⟩
  have hne : (yaW m).flatMap ynD ≠ [] := fun e => by
   have := (yaM m.kind.toNat (by have := yeO (yfK hn (k := 0) (n := m.kind) rfl); omega)).1
   have e2 := congrArg List.length e
   simp only [yaW, List.flatMap_cons, List.length_append, List.length_nil] at e2
   unfold ynD at e2
   omega
  have s10 := M10.size
  have s11 := M11.size
  refine (yG3 ((hB9.keep0 M10).keep0 M11) hne).mono ?_
  rintro _ w12 ⟨rfl, hB12, W12⟩
  have s12 := W12.bel.size
  obtain ⟨u1, u2, u3, u4, hu1⟩ := hB12.cells
  have h12 := W12.keep (M11.keep0 (M10.keep0 h9)) ne (by decide)
  refine ⟨_, rfl, _, _, _, _, _, _, _, _, _, _, _, _, _, _, _, _, _, _, _, _, _, _, _, h12, _, _, _, _, hu1, ?_⟩
  have lt := ylA ht
  have lr : (yeC m.r).length ≤ 60000 := (RepGood.of hr).len3 m.r.parts.length
  have W8 : Wr w3.heap.size b5 w8 w12 := ((W9.trans (Wr.of0 M10 (by omega))).trans (Wr.of0 M11 (by omega))).trans W12
  refine (ycT (bs (ybZ m.calls)) (by rw [yaG]; omega) w12).mono ?_
  rintro _ w13 ⟨rfl, M13⟩
  obtain ⟨v1, v2, v3, v4, hv1⟩ := (hB12.keep0 M13).cells
  have p1 := (yaV (bs (ybZ m.calls)) (by rw [yaG]; omega)).2
  have p2 := (yaV (bs (yeC m.r)) (by rw [yaG]; omega)).2
  rw [yaG] at p1 p2
  refine ⟨_, rfl, _, _, _, _, _, _, _, _, _, _, _, _, _, _, _, _, _, _, _, _, _, _, _, M13.keep0 h12, _, _, _, _, hv1, by rw [yaG, yaG]; omega, ?_⟩
  rw [ybF]
  refine (ycT (bs (yeC m.r)) (by rw [yaG]; omega) w13).mono ?_
  rintro _ w14 ⟨rfl, M14⟩
  obtain ⟨y1, y2, y3, y4, hy1⟩ := ((hB12.keep0 M13).keep0 M14).cells
  refine ⟨_, rfl, _, _, _, _, _, _, _, _, _, _, _, _, _, _, _, _, _, _, _, _, _, _, _, M14.keep0 (M13.keep0 h12), _, _, _, _, hy1, by rw [yaG, yaG, List.length_append]; omega, ?_⟩
  rw [ybF]
  have eB : (yaW m).flatMap ynD ++ yb3 (bs (ybZ m.calls)) ++ yb3 (bs (yeC m.r)) = yb5 m := rfl
  rw [eB]
  have lB := yrY g
  have N14 : Mod [] w w14 := ((M0 W8).go0 M13 (by simp)).go0 M14 (by simp)
  refine yaE (fun hbig => ?_) fun hbig => ?_
  ·rw [yaG] at hbig
   have e : ybK m = 2 := by rw [hE, if_pos (by omega)]
   rw [e]; exact ⟨rfl, N14⟩
  ·rw [yaG] at hbig
   have e : ybK m = 0 := by rw [hE, if_neg (by omega)]
   refine (yvB (bs (yb5 m)) (by rw [yaG]; omega) w14).mono ?_
   rintro _ w15 ⟨rfl, M15⟩
   obtain ⟨z1, z2, z3, z4, hz1⟩ := (((hB12.keep0 M13).keep0 M14).keep0 M15).cells
   refine ⟨_, rfl, _, _, _, _, _, _, _, _, _, _, _, _, _, _, _, _, _, _, _, _, _, _, _, M15.keep0 (M14.keep0 (M13.keep0 h12)), _, _, _, _, hz1, ?_⟩
   rw [e, if_pos rfl]; exact ⟨rfl, N14.go0 M15 (by simp)⟩
set_option maxHeartbeats 4000000 in
theorem yC6 {w : World} {m : PMail} {s f p : Sl} (h : MailAt w m s f p) (hlc : m.calls.length ≤ 100000) :
  Calls pP 42 #[m.v s f p] w fun e w' => e = .returned (.tuple #[.string (if ybK m = 0 then ydG m else bs []), .int .i64 (ybK m)]) ∧ Mod [] w w' := by
 refine yaQ (yHM ?_)
 intro b1 f1 w2 A2
 refine (yuD (h.keep0 A2.mod) hlc).mono ?_
 rintro _ w3 ⟨rfl, M3⟩
 have N3 := A2.mod.go0 M3 (by simp)
 refine ⟨_, rfl, yaD.of0 M3, yaC (fun g => ?_) fun g => ?_⟩
 ·have g : ydF m ≠ 0 := by simpa using g
  have e : ybK m = ydF m := by rw [ybK, if_pos g]
  rw [e, if_neg g]; exact ⟨rfl, N3⟩
 have g : ydF m = 0 := by simpa using g
 obtain ⟨_, hn, ht, hr⟩ := ycQ g
 have hE : ybK m = if (yb5 m).length > 1048576 then 2 else 0 := by rw [ybK, if_neg (by simpa using g)]
 refine (yoU m s f p).mono ?_
 rintro _ w4 ⟨_, rfl, c4, rfl, h4, M4⟩
 refine ⟨_, _, _, rfl, yaD.of0 M4, ?_⟩
 have N4 := N3.go0 M4 (by simp)
 refine yy0 (fun mm s5 x7 w' => ∃ k : Nat, x7 = k ∧ k ≤ 10 ∧ s5 = bs (((yaW m).take k).flatMap ynD) ∧ Mod [] w4 w' ∧ mm = 10 - k) 10 ⟨0, rfl, by omega, by simp [yJD], Mod.refl _, rfl⟩ ?_
 rintro mm s5 x7 w5 ⟨k, rfl, hk, rfl, M5, rfl⟩
 have lk := ye8 hn k
 have N5 := N4.go0 M5 (by simp)
 refine yaE (fun hlt => ?_) fun hge => ?_
 ·have hk' : k < 10 := by omega
  obtain ⟨x, hx⟩ : ∃ x, (yaW m)[k]? = some x := ⟨_, List.getElem?_eq_getElem (by simpa [yaW] using hk')⟩
  have hx1 := yfK hn hx
  have ls := yf8 hx1
  have lv := (yaM x.toNat ls.1).2
  refine (h4.keep0 M5).ix hx fun q hq => yaB (x := x) (by simpa [add_zero] using hq 0 _ rfl) ?_
  rw [yLU hx1]
  refine (ycO ls.1 w5).mono ?_
  rintro _ w6 ⟨rfl, M6⟩
  refine ⟨_, rfl, yaD.of0 M6, by rw [yaG, yaG]; omega, ?_⟩
  rw [ybF]
  exact yyZ (10 - (k + 1)) (by omega) ⟨k + 1, by rw [yaH (by omega) (by omega)]; omega, by omega, by rw [yrZ hx], M5.go0 M6 (by simp), rfl⟩
 ·have hk' : k = 10 := by omega
  subst hk'
  have e10 : (yaW m).take 10 = yaW m := List.take_of_length_le (by simp [yaW])
  rw [e10] at lk ⊢
  obtain ⟨ll, hll, hop, hcs⟩ := h.calls
  have hl : ll.length ≤ 1000000 := by have := congrArg List.length hcs; simp at *; omega
  refine (ynB (s := s) (ll := ll) ⟨hll.keep0 N5, fun q hq => (hop q hq).keep0 N5⟩ hl).mono ?_
  rw [hcs, ht, if_pos rfl]
  rintro _ w6 ⟨rfl, M6⟩
  have N6 := N5.go0 M6 (by simp)
  refine ⟨_, _, rfl, yaD.of0 M6, ?_⟩
  refine (ynC (h.rep.keep0 N6)).mono ?_
  rw [hr, if_pos rfl]
  rintro _ w7 ⟨rfl, M7⟩
  refine ⟨_, _, rfl, yaD.of0 M7, ?_⟩
  have lt := ylA ht
  have lr : (yeC m.r).length ≤ 60000 := (RepGood.of hr).len3 m.r.parts.length
  refine (ybU (bs (ybZ m.calls)) (by rw [yaG]; omega) w7).mono ?_
  rintro _ w8 ⟨rfl, M8⟩
  refine ⟨_, rfl, yaD.of0 M8, ?_⟩
  refine (ybU (bs (yeC m.r)) (by rw [yaG]; omega) w8).mono ?_
  rintro _ w9 ⟨rfl, M9⟩
  have p1 := (yaV (bs (ybZ m.calls)) (by rw [yaG]; omega)).2
  have p2 := (yaV (bs (yeC m.r)) (by rw [yaG]; omega)).2
  rw [yaG] at p1 p2
  refine ⟨_, rfl, yaD.of0 M9, by rw [yaG, yaG]; omega, ?_⟩
  rw [ybF]
  refine ⟨by rw [yaG, yaG, List.length_append]; omega, ?_⟩
  rw [ybF]
  have eB : (yaW m).flatMap ynD ++ (yb3 (bs (ybZ m.calls)) ++ yb3 (bs (yeC m.r))) = yb5 m := by rw [← List.append_assoc]; rfl
  rw [eB]
  have lB := yrY g
  have N9 : Mod [] w w9 := ((N6.go0 M7 (by simp)).go0 M8 (by simp)).go0 M9 (by simp)
  refine yaE (fun hbig => ?_) fun hbig => ?_
  ·rw [yaG] at hbig
   have e : ybK m = 2 := by rw [hE, if_pos (by omega)]
   rw [e]; exact ⟨rfl, N9⟩
  ·rw [yaG] at hbig
   have e : ybK m = 0 := by rw [hE, if_neg (by omega)]
   refine (yrS (bs (yb5 m)) (by rw [yaG]; omega) w9).mono ?_
   rintro _ w10 ⟨rfl, M10⟩
   refine ⟨_, rfl, yaD.of0 M10, ?_⟩
   rw [e, if_pos rfl]; exact ⟨rfl, N9.go0 M10 (by simp)⟩
def ygS (s : ByteArray) (x : PMail) : Prop := ybK x = 0 ∧ s.data.toList = yb5 x
theorem ygS.num {s : ByteArray} {x : PMail} (h : ygS s x) {k : Nat} {n : Int} (hn : (yaW x)[k]? = some n) : vg 0 (s.data.toList.drop (yjP x k)) = some (n.toNat, yjP x (k + 1) - yjP x k) ∧ yjP x k ≤ yjP x (k + 1) ∧ num n = true := by
 obtain ⟨h1, _⟩ := ycI h.1
 obtain ⟨_, h2, _, _⟩ := ycQ h1
 have h3 := yEC h2 hn
 rw [← h.2] at h3
 unfold yfS at h3
 obtain ⟨p, hp, h4⟩ := Option.map_eq_some_iff.1 h3
 simp only [Prod.mk.injEq] at h4
 refine ⟨?_, by omega, yfK h2 hn⟩
 rw [hp]
 congr 1
 exact Prod.ext h4.1 (by omega)
theorem ygS.txt {s : ByteArray} {x : PMail} (h : ygS s x) : ∃ m1 m2, tg 1048576 (s.data.toList.drop (yjP x 10)) = some (bs (ybZ x.calls), m1) ∧ tg 1048576 (s.data.toList.drop (yjP x 10 + m1)) = some (bs (yeC x.r), m2) := by
 obtain ⟨h1, h2⟩ := yED h.1
 rw [← h.2] at h1 h2
 unfold ym2 at h1 h2
 obtain ⟨p, hp, h3⟩ := Option.map_eq_some_iff.1 h1
 obtain ⟨q, hq, h4⟩ := Option.map_eq_some_iff.1 h2
 simp only [Prod.mk.injEq] at h3 h4
 refine ⟨p.2, q.2, ?_, ?_⟩
 ·rw [hp]; congr 1; exact Prod.ext h3.1 rfl
 ·rw [h3.2, hq]; congr 1; exact Prod.ext h4.1 rfl
theorem yy9 {s : ByteArray} {x y : PMail} (hx : ygS s x) (hy : ygS s y) : x = y := by
 have hd : ∀ k, k ≤ 10 → yjP x k = yjP y k ∧ (yaW x).take k = (yaW y).take k := by
  intro k
  induction k with
  | zero => intro _; exact ⟨rfl, rfl⟩
  | succ k ih =>
   intro hk
   obtain ⟨i1, i2⟩ := ih (by omega)
   obtain ⟨a, ha⟩ : ∃ a, (yaW x)[k]? = some a := ⟨_, List.getElem?_eq_getElem (by simp [yaW]; omega)⟩
   obtain ⟨b, hb⟩ : ∃ b, (yaW y)[k]? = some b := ⟨_, List.getElem?_eq_getElem (by simp [yaW]; omega)⟩
   obtain ⟨h1, h2, h3⟩ := hx.num ha
   obtain ⟨h4, h5, h6⟩ := hy.num hb
   rw [i1, h4] at h1
   simp only [Option.some.injEq, Prod.mk.injEq] at h1
   have h3 := yeO h3
   have h6 := yeO h6
   have e : a = b := by omega
   exact ⟨by omega, by rw [List.take_add_one, List.take_add_one, ha, hb, i2, e]⟩
 obtain ⟨h1, h2⟩ := hd 10 (Nat.le_refl _)
 rw [List.take_of_length_le (by simp [yaW]), List.take_of_length_le (by simp [yaW])] at h2
 obtain ⟨m1, m2, h3, h4⟩ := hx.txt
 obtain ⟨n1, n2, h5, h6⟩ := hy.txt
 rw [h1, h5] at h3
 simp only [Option.some.injEq, Prod.mk.injEq] at h3
 rw [h1, ← h3.2, h6] at h4
 simp only [Option.some.injEq, Prod.mk.injEq] at h4
 obtain ⟨_, _, tx, rx⟩ := ycQ (ycI hx.1).1
 obtain ⟨_, _, ty, ry⟩ := ycQ (ycI hy.1).1
 have e1 : y.calls = x.calls := by
  have p1 := ye7 ty
  rw [h3.1, ye7 tx] at p1
  exact (Option.some.inj p1).symm
 have e2 := yw2 ry rx (yq8 h4.1)
 obtain ⟨a1, a2, a3, a4, a5, a6, a7, a8, a9, a10, a11, a12⟩ := x
 obtain ⟨b1, b2, b3, b4, b5, b6, b7, b8, b9, b10, b11, b12⟩ := y
 simp [yaW] at h2
 simp only [PMail.mk.injEq]
 refine ⟨?_, ?_, ?_, ?_, ?_, ?_, ?_, ?_, ?_, ?_, e1.symm, e2.symm⟩ <;> omega
set_option maxHeartbeats 8000000 in
theorem yEG {s : ByteArray} (hs : s.size ≤ 900000) (w : World) :
  Calls pP 59 #[.string s] w fun e w' => ∃ v, e = .returned v ∧ ∃ (m : PMail) (s1 f1 p1 : Sl), v = m.v s1 f1 p1 ∧ MailOwn w' w.heap.size m s1 f1 p1 ∧ m.calls.length ≤ 100000 ∧ (∀ x, ygS s x → m = x) ∧ Mod [] w w' := by
 have hss : s.data.toList.length = s.size := by simp
 refine yHR ?_
 intro b1 f1 b2 f2 w3 A3 h3
 have l1 := A3.lt b1 (by simp)
 have l2 := A3.lt b2 (by simp)
 have nd : b1 ≠ b2 := by have := A3.nd; simp at this; exact fun h => this h.symm
 have s3 := A3.mod.size
 refine (yBQ b2 w3).mono ?_
 rintro _ w4 ⟨rfl, M4⟩
 have s4 := M4.size
 have h4 := M4.keep0 h3
 refine ⟨_, _, _, _, _, _, _, _, _, _, rfl, yaD.of0 M4, _, _, _, _, _, _, _, _, _, _, _, _, _, _, _, _, _, _, _, _, _, _, _, h4, ?_⟩
 have N4 : Mod [] w w4 := A3.mod.go0 M4 (by simp)
 have z0 : ∀ {w' : World}, Mod [] w w' → (∀ x, ¬ ygS s x) → ∃ (m : PMail) (s1 f1 p1 : Sl), Value.agg #[.int .i64 0, .int .i64 0, .int .i64 0, .int .i64 0, .int .i64 0, .int .i64 0, .int .i64 0, .int .i64 0, .int .i64 0, .int .i64 0, .slice none 0 0, .int .i64 0, .int .i64 0, .int .i64 0, .int .i64 0, .slice none 0 0, .slice none 0 0] = m.v s1 f1 p1 ∧ MailOwn w' w.heap.size m s1 f1 p1 ∧ m.calls.length ≤ 100000 ∧ (∀ x, ygS s x → m = x) ∧ Mod [] w w' := fun {w'} N hn =>
  ⟨ycW, ybS, ybS, ybS, rfl, ⟨⟨[], Row.nil .., by simp, rfl⟩, ⟨Row.nil .., Row.nil .., by simp [ycW, ye4], by simp [ycW, ye4]⟩⟩, by simp [ycW], fun x hx => absurd hx (hn x), N⟩
 refine yy8 (fun mm x4 x16 k0 k1 k2 k3 k4 k5 k6 k7 k8 k9 sa sn sc r0 r1 r2 r3 fa fn fc pa pn pc w' => ∃ a k : Nat, x4 = a ∧ x16 = k ∧ k ≤ 10 ∧ a ≤ s.size ∧ sa = none ∧ sn = 0 ∧ sc = 0 ∧ r0 = 0 ∧ r1 = 0 ∧ r2 = 0 ∧ r3 = 0 ∧ fa = none ∧ fn = 0 ∧ fc = 0 ∧ pa = none ∧ pn = 0 ∧ pc = 0 ∧ Mod [b2] w4 w' ∧ (∀ x, ygS s x → a = yjP x k ∧ ([k0, k1, k2, k3, k4, k5, k6, k7, k8, k9] : List Int).take k = (yaW x).take k) ∧ mm = 10 - k) 10
  ⟨0, 0, rfl, rfl, by omega, by omega, rfl, rfl, rfl, rfl, rfl, rfl, rfl, rfl, rfl, rfl, rfl, rfl, rfl, (Mod.refl _).less (by simp), fun x _ => ⟨by simp [yjP], rfl⟩, rfl⟩ ?_
 rintro mm x4 x16 k0 k1 k2 k3 k4 k5 k6 k7 k8 k9 sa sn sc r0 r1 r2 r3 fa fn fc pa pn pc w5 ⟨a, k, rfl, rfl, hk, ha, rfl, rfl, rfl, rfl, rfl, rfl, rfl, rfl, rfl, rfl, rfl, rfl, rfl, M5, hsp, rfl⟩ h5
 have s5 := M5.size
 have N5 : Mod [] w w5 := N4.go0 M5 (by simpa using f2)
 refine yaE (fun hlt => ?_) fun hge => ?_
 ·have hk' : k < 10 := by omega
  refine ⟨_, yHe b2 hk', ?_⟩
  refine (yg6 s a (by omega) ha w5).mono ?_
  rintro _ w6 ⟨v, rfl, hv, rfl⟩
  obtain ⟨n, b, e, rfl, hg⟩ := hv.out
  refine ⟨_, _, _, rfl, yaD.of0 (Mod.refl _), _, _, _, _, _, _, _, _, _, _, _, _, _, _, _, _, _, _, _, _, _, _, _, h5, ?_⟩
  have hnum : ∀ x, ygS s x → ∃ y : Int, (yaW x)[k]? = some y ∧ n = y.toNat ∧ e = 0 ∧ b = ((yjP x (k + 1) : Nat) : Int) ∧ num y = true := fun x hx => by
   obtain ⟨h1, h2⟩ := hsp x hx
   obtain ⟨y, hy⟩ : ∃ y, (yaW x)[k]? = some y := ⟨_, List.getElem?_eq_getElem (by simpa [yaW] using hk')⟩
   obtain ⟨h6, h7, h8⟩ := hx.num hy
   rw [← h1] at h6
   rcases hg with ⟨g1, m, g2, g3⟩ | ⟨_, g3⟩
   ·rw [h6] at g3
    simp only [Option.some.injEq, Prod.mk.injEq] at g3
    exact ⟨y, hy, g3.1.symm, g1, by omega, h8⟩
   ·rw [h6] at g3; cases g3
  refine yaC (fun g => fun w7 A7 _ => z0 (N5.go0 A7.mod (by simpa using f1)) fun x hx => ?_) fun g => ?_
  ·obtain ⟨y, _, _, he, _⟩ := hnum x hx
   simp [he] at g
  have g : e = 0 := by simpa using g
  refine yaE (fun gb => fun w7 A7 _ => z0 (N5.go0 A7.mod (by simpa using f1)) fun x hx => ?_) fun gb => ?_
  ·obtain ⟨y, _, h6, _, _, h7⟩ := hnum x hx
   have := yeO h7
   omega
  rcases hg with ⟨_, m, hb, hvg⟩ | ⟨g3, _⟩
  rotate_left
  ·exact absurd g g3
  have hml := yq6 _ hvg
  rw [List.length_drop, hss] at hml
  obtain ⟨v, hv⟩ : ∃ v, v = IntKind.wrap .i64 (n : Int) := ⟨_, rfl⟩
  have hvn : v = n := by rw [hv, yaH (by omega) (by omega)]
  rw [← hv]
  refine ywG (ydX h5 rfl (by simp; omega) fun w7 h7 M7 => ?_)
  have h7' : w7.heap[b2]? = some (.cells #[.int .i64 (if k = 0 then v else k0), .int .i64 (if k = 1 then v else k1), .int .i64 (if k = 2 then v else k2), .int .i64 (if k = 3 then v else k3), .int .i64 (if k = 4 then v else k4), .int .i64 (if k = 5 then v else k5), .int .i64 (if k = 6 then v else k6), .int .i64 (if k = 7 then v else k7), .int .i64 (if k = 8 then v else k8), .int .i64 (if k = 9 then v else k9), .slice none 0 0, .int .i64 0, .int .i64 0, .int .i64 0, .int .i64 0, .slice none 0 0, .slice none 0 0] 37) := by
   rw [h7]
   rcases (by omega : k = 0 ∨ k = 1 ∨ k = 2 ∨ k = 3 ∨ k = 4 ∨ k = 5 ∨ k = 6 ∨ k = 7 ∨ k = 8 ∨ k = 9) with rfl | rfl | rfl | rfl | rfl | rfl | rfl | rfl | rfl | rfl <;> rfl
  refine ⟨yaD.ofE M7 fun k hk hl he => by simp at hk he ⊢; omega, _, _, _, _, _, _, _, _, _, _, _, _, _, _, _, _, _, _, _, _, _, _, _, h7', ?_⟩
  rw [hb]
  refine yy7 (10 - (k + 1)) (by omega) ⟨a + m, k + 1, rfl, by rw [yaH (by omega) (by omega)]; omega, by omega, by omega, rfl, rfl, rfl, rfl, rfl, rfl, rfl, rfl, rfl, rfl, rfl, rfl, rfl, M5.via M7 (by simp), fun x hx => ?_, rfl⟩
  obtain ⟨y, hy, h6, _, h8, h9⟩ := hnum x hx
  have := yeO h9
  refine ⟨by omega, ?_⟩
  rw [List.take_add_one (l := yaW x), hy, ← (hsp x hx).2, show y = v by omega]
  rcases (by omega : k = 0 ∨ k = 1 ∨ k = 2 ∨ k = 3 ∨ k = 4 ∨ k = 5 ∨ k = 6 ∨ k = 7 ∨ k = 8 ∨ k = 9) with rfl | rfl | rfl | rfl | rfl | rfl | rfl | rfl | rfl | rfl <;> rfl
 ·have hk' : k = 10 := by omega
  subst hk'
  refine (yd1 s a 1048576 (by omega) ha (by omega) w5).mono ?_
  rintro _ w6 ⟨v, rfl, hv, rfl⟩
  obtain ⟨t, b, e, rfl, hg⟩ := hv.out
  refine ⟨_, _, _, rfl, yaD.of0 (Mod.refl _), _, _, _, _, _, _, _, _, _, _, _, _, _, _, _, _, _, _, _, _, _, _, _, h5, ?_⟩
  have ht1 : ∀ x, ygS s x → e = 0 ∧ t = bs (ybZ x.calls) ∧ ∃ m2, tg 1048576 (s.data.toList.drop b.toNat) = some (bs (yeC x.r), m2) := fun x hx => by
   obtain ⟨m1, m2, h1, h2⟩ := hx.txt
   rw [← (hsp x hx).1] at h1 h2
   rcases hg with ⟨g1, m, g2, g3⟩ | ⟨_, g3, _⟩
   ·rw [h1] at g3
    simp only [Option.some.injEq, Prod.mk.injEq] at g3
    refine ⟨g1, g3.1.symm, m2, ?_⟩
    rw [g2, ← g3.2, Int.toNat_natCast]; exact h2
   ·rw [h1] at g3; cases g3
  refine yaC (fun g => fun w7 A7 _ => z0 (N5.go0 A7.mod (by simpa using f1)) fun x hx => by simp [(ht1 x hx).1] at g) fun g => ?_
  have g : e = 0 := by simpa using g
  rcases hg with ⟨_, m, hb, htg⟩ | ⟨g3, _⟩
  rotate_left
  ·exact absurd g g3
  have hml := ymG htg
  rw [List.length_drop, hss] at hml
  subst hb
  refine (yd1 s (a + m) 1048576 (by omega) (by omega) (by omega) w6).mono ?_
  rintro _ w7 ⟨v, rfl, hv, rfl⟩
  obtain ⟨t2, b', e2, rfl, hg2⟩ := hv.out
  refine ⟨_, _, _, rfl, yaD.of0 (Mod.refl _), _, _, _, _, _, _, _, _, _, _, _, _, _, _, _, _, _, _, _, _, _, _, _, h5, ?_⟩
  have ht2 : ∀ x, ygS s x → e2 = 0 ∧ t2 = bs (yeC x.r) := fun x hx => by
   obtain ⟨_, _, m2, h2⟩ := ht1 x hx
   rw [Int.toNat_natCast] at h2
   rcases hg2 with ⟨g1, m', g2, g3⟩ | ⟨_, g3, _⟩
   ·rw [h2] at g3
    simp only [Option.some.injEq, Prod.mk.injEq] at g3
    exact ⟨g1, g3.1.symm⟩
   ·rw [h2] at g3; cases g3
  refine yaC (fun g => fun w8 A8 _ => z0 (N5.go0 A8.mod (by simpa using f1)) fun x hx => by simp [(ht2 x hx).1] at g) fun g2 => ?_
  have g2 : e2 = 0 := by simpa using g2
  rcases hg2 with ⟨_, m', _, htg2⟩ | ⟨g3, _⟩
  rotate_left
  ·exact absurd g2 g3
  have hml2 := ymG htg2
  rw [List.length_drop, hss] at hml2
  refine (yCd (s := t) (by omega) w7).mono ?_
  rintro _ w8 ⟨v, rfl, hv, M8⟩
  have s8 := M8.size
  have hpc : ∃ (xs : List PCall) (sl : Sl) (e8 : Int), v = .tuple #[.slice sl.a sl.n sl.c, .int .i64 e8] ∧ ybJ w8 w7.heap.size sl xs ∧ xs.length ≤ 100000 ∧ ∀ x, ygS s x → xs = x.calls := by
   cases hp : yeP t with
   | none =>
    rw [hp] at hv
    refine ⟨[], ybS, 162, hv, ⟨[], Row.nil .., by simp, rfl⟩, by simp, fun x hx => ?_⟩
    obtain ⟨h1, _⟩ := ycI hx.1
    obtain ⟨_, _, h2, _⟩ := ycQ h1
    rw [(ht1 x hx).2.1, ye7 h2] at hp; cases hp
   | some xs =>
    rw [hp] at hv
    obtain ⟨sl, rfl, hc⟩ := hv
    have h6 := (yx8.1 hp).1
    refine ⟨xs, sl, 0, rfl, hc, by have := (yh2 h6).1; omega, fun x hx => ?_⟩
    obtain ⟨h1, _⟩ := ycI hx.1
    obtain ⟨_, _, h2, _⟩ := ycQ h1
    rw [(ht1 x hx).2.1, ye7 h2] at hp
    exact (Option.some.inj hp).symm
  obtain ⟨xs, sl, e8, rfl, hC, hxl, hxs⟩ := hpc
  have h8 := M8.keep0 h5
  refine ⟨_, _, _, _, rfl, yaD.of0 M8, _, _, _, _, _, _, _, _, _, _, _, _, _, _, _, _, _, _, _, _, _, _, _, h8, ?_⟩
  intro w9 A9 h9
  have s9 := A9.mod.size
  refine (yuE (s := t2) (by omega) w9).mono ?_
  rintro _ w10 ⟨v, rfl, hv, M10⟩
  have s10 := M10.size
  have hpr : ∃ (r : PRep) (fl pl : Sl) (e10 : Int), v = .tuple #[r.v fl pl, .int .i64 e10] ∧ RepOwn w10 w9.heap.size r fl pl ∧ ∀ x, ygS s x → r = x.r := by
   rcases hv with ⟨r, fl, pl, h1, rfl, h2⟩ | ⟨h1, rfl⟩
   ·refine ⟨r, fl, pl, 0, rfl, h2, fun x hx => ?_⟩
    obtain ⟨h3, _⟩ := ycI hx.1
    obtain ⟨_, _, _, h4⟩ := ycQ h3
    have h5 := h1.eq
    rw [(ht2 x hx).2] at h5
    exact (yw2 h4 h1.1 (yq8 h5)).symm
   ·refine ⟨ye4, ybS, ybS, 40, rfl, ⟨Row.nil .., Row.nil .., by simp [ye4], by simp [ye4]⟩, fun x hx => ?_⟩
    obtain ⟨h3, _⟩ := ycI hx.1
    obtain ⟨_, _, _, h4⟩ := ycQ h3
    exact absurd (ygL.of h4 (ht2 x hx).2) (h1 _)
  obtain ⟨r, fl, pl, e10, rfl, hR, hrx⟩ := hpr
  have h10 := M10.keep0 h9
  refine ⟨_, _, _, _, _, _, _, _, _, _, _, rfl, yaD.of0 M10, _, _, _, _, _, _, _, _, _, _, _, _, _, _, _, _, _, _, _, _, _, _, _, h10, ?_⟩
  intro w11 A11 h11
  have lb : b1 < w7.heap.size ∧ b2 < w7.heap.size := by omega
  refine ⟨⟨k0, k1, k2, k3, k4, k5, k6, k7, k8, k9, xs, r⟩, sl, fl, pl, rfl, ⟨?_, ?_⟩, hxl, fun x hx => ?_, ?_⟩
  ·exact (((hC.keepB A9.mod (by simp; omega)).keep0 M10).keepB A11.mod (by simp; omega)).rebase (by omega)
  ·exact (hR.keepB A11.mod (by simp; omega)).rebase (by omega)
  ·have h6 := (hsp x hx).2
   have h7 := hxs x hx
   have h8 := hrx x hx
   obtain ⟨x1, x2, x3, x4, x5, x6, x7, x8, x9, x10, xc, xr⟩ := x
   simp [yaW] at h6
   simp only [PMail.mk.injEq]
   refine ⟨?_, ?_, ?_, ?_, ?_, ?_, ?_, ?_, ?_, ?_, h7, h8⟩ <;> omega
  ·exact (((N5.go0 M8 (by simp)).go0 A9.mod (by simpa using f2)).go0 M10 (by simp)).go0 A11.mod (by simp; omega)
def yLV (w0 w : World) (base : Nat) (s : ByteArray) (v : Value) : Prop :=
 (∃ (m : PMail) (s1 f1 p1 : Sl), ybK m = 0 ∧ s = ydG m ∧ v = .tuple #[m.v s1 f1 p1, .int .i64 0] ∧ MailOwn w base m s1 f1 p1 ∧ m.calls.length ≤ 100000) ∨ ((∀ m, ybK m = 0 → s ≠ ydG m) ∧ v = .tuple #[ycW.v ybS ybS ybS, .int .i64 180])
theorem yHV {s : ByteArray} (hs : s.size ≤ 900000) (w : World) :
  Calls pP 36 #[.string s] w fun e w' => ∃ v, e = .returned v ∧ yLV w w' w.heap.size s v ∧ Mod [] w w' := by
 have hss : s.data.toList.length = s.size := by simp
 refine yHS ?_
 intro b1 f1 w2 A2
 have s2 := A2.mod.size
 refine (yq9 s 0 1048576 (by omega) (by omega) (by omega) w2).mono ?_
 rintro _ w3 ⟨v, rfl, hv, M3⟩
 have s3 := M3.size
 rw [List.drop_zero] at hv
 obtain ⟨t, b, e, rfl, hg⟩ := hv.out
 refine ⟨_, _, _, rfl, yaD.of0 M3, ?_⟩
 have htl : t.size ≤ 900000 := by
  rcases hg with ⟨_, m, _, g3⟩ | ⟨_, _, g4, _⟩
  ·have := yFp g3; omega
  ·rw [g4]; show 0 ≤ _; omega
 have hx : ∀ x, ybK x = 0 → s = ydG x → e = 0 ∧ ygS t x := fun x h1 h2 => by
  have h3 := yHP h1
  rw [← h2] at h3
  rcases hg with ⟨g1, m, _, g3⟩ | ⟨_, g3, _⟩
  ·rw [h3] at g3
   simp only [Option.some.injEq, Prod.mk.injEq] at g3
   exact ⟨g1, h1, by rw [← g3.1, yeS]⟩
  ·rw [h3] at g3; cases g3
 refine (yEG htl w3).mono ?_
 rintro _ w4 ⟨_, rfl, m, s1, f1', p1, rfl, hO, hlc, hm, M4⟩
 have s4 := M4.size
 refine ⟨_, _, _, _, _, _, _, _, _, _, _, _, _, _, _, _, _, _, _, _, _, _, _, rfl, yaD.of0 M4, ?_⟩
 intro b5 f5 w6 A6
 have s6 := A6.mod.size
 refine (yC5 ((hO.keep0 A6.mod).at) hlc).mono ?_
 rintro _ w7 ⟨rfl, M7⟩
 have s7 := M7.size
 refine ⟨_, _, rfl, yaD.of0 M7, ?_⟩
 have N7 : Mod [] w w7 := (((A2.mod.go0 M3 (by simp)).go0 M4 (by simp)).go0 A6.mod (by simp)).go0 M7 (by simp)
 have no : ∀ {w'}, Adv [b1] [] w7 w' → (∀ x, ybK x = 0 → s ≠ ydG x) → yLV w w' w.heap.size s (.tuple #[ycW.v ybS ybS ybS, .int .i64 180]) ∧ Mod [] w w' := fun {w'} A h => ⟨.inr ⟨h, rfl⟩, N7.go0 A.mod (by simpa using f1)⟩
 refine yaC (fun g => fun w8 A8 => no A8 fun x h1 h2 => ?_) fun g => ?_
 ·have := (hx x h1 h2).1; simp [this] at g
 refine yaC (fun g2 => fun w8 A8 => no A8 fun x h1 h2 => ?_) fun g2 => ?_
 ·have := hm x (hx x h1 h2).2; subst this; simp [h1] at g2
 have g2 : ybK m = 0 := by simpa using g2
 rw [if_pos g2, yhS]
 refine yaC (fun g3 => fun w8 A8 => no A8 fun x h1 h2 => ?_) fun g3 => fun w8 A8 => ?_
 ·have := hm x (hx x h1 h2).2; subst this; simp [h2] at g3
 ·have g3 : ydG m = s := by simpa using g3
  have l1 : b1 < w2.heap.size := A2.lt b1 (by simp)
  exact ⟨.inl ⟨m, s1, f1', p1, g2, g3.symm, rfl, ((((hO.keep0 A6.mod).keep0 M7).keepB A8.mod (by simp; omega)).rebase (by omega)), hlc⟩, N7.go0 A8.mod (by simpa using f1)⟩
section
set_option maxRecDepth 100000
variable {R : VWP} {w w0 : World} {m : Nat} {i0 i1 i2 i3 i4 i5 i6 i7 i8 i9 j0 j1 j2 j3 j4 j5 j6 j7 j8 j9 k0 k1 k2 k3 k4 k5 k6 k7 k8 k9 l0 l1 l2 l3 l4 l5 l6 l7 l8 l9 : Int} {s0 s1 s2 s3 s4 s5 s6 s7 s8 s9 t0 t1 t2 t3 t4 t5 t6 t7 t8 t9 : BA} {n0 n1 n2 n3 n4 n5 n6 n7 n8 n9 o0 o1 o2 o3 o4 o5 o6 o7 o8 o9 p0 p1 p2 p3 p4 p5 p6 p7 p8 p9 : Nat} {q0 q1 q2 q3 q4 q5 q6 q7 q8 q9 r0 r1 r2 r3 r4 r5 r6 r7 r8 r9 : OA} {B0 B1 B2 B3 B4 B5 B6 B7 B8 B9 : Bool} {M0 M1 M2 M3 : Option Nat} {V0 V1 V2 V3 V4 V5 : Value} {A0 A1 A2 : Addr}
def ypN : LA := ⟨[0, 0, 1, 0, 1, 1, 1, 1], [1, 2, 3, 4], [(1, 0, 0), (2, 1, 0), (3, 2, 0)], 3, []⟩
def yj0 : LA := ⟨[0, 0, 1, 0, 1, 1, 1, 1, 1], [1, 2, 3, 6], [(1, 0, 0), (2, 1, 0), (3, 2, 0)], 3, []⟩
def ypO : List LA := [ypN, yj0]
abbrev yr0 := dnF pP ypO (code Tryz.f34)
abbrev yNa := yaO pP ypO (code Tryz.f34)
abbrev yr1 (p : List Nat) (K : List Kh) (R : VWP) := yaO pP ypO (code Tryz.f34) p K (ya7 pP Tryz.f34 [] R)
def yi2 (bm0 : Nat) (a9 b0 b1 b2 : Int) (a0 : OA) (a6 a3 : Nat) (a1 : OA) (a7 a4 bm1 bm2 : Nat) (b3 b4 b5 b6 : Int) : Int × (Option Addr) × Nat × Nat → List Value × List TB := fun (b7, a2, a8, a5) => ([(.pointer (some ⟨bm0, 0, none⟩)), (.pointer (some ⟨bm1, 0, none⟩)), (.pointer (some ⟨bm2, 0, none⟩)), .int .i64 b7], [⟨bm0, 35, [.int .i64 a9, .int .i64 b0, .int .i64 b1, .int .i64 b2, .slice a0 a6 a3, .slice a1 a7 a4], false⟩, ⟨bm1, 35, [.int .i64 0, .int .i64 0, .int .i64 0, .int .i64 0, .slice none 0 0, .slice none 0 0], false⟩, ⟨bm2, 35, [.int .i64 b3, .int .i64 b4, .int .i64 b5, .int .i64 b6, .slice a2 a8 a5, .slice none 0 0], false⟩])
def yg9 (bm0 : Nat) (b2 b3 b4 b5 : Int) (a0 : OA) (a8 a4 : Nat) (a1 : OA) (a9 a5 bm1 bm2 : Nat) (b6 b7 b8 b9 : Int) (a2 : OA) (b0 a6 : Nat) : Int × (Option Addr) × Nat × Nat → List Value × List TB := fun (c0, a3, b1, a7) => ([(.pointer (some ⟨bm0, 0, none⟩)), (.pointer (some ⟨bm1, 0, none⟩)), (.pointer (some ⟨bm2, 0, none⟩)), .int .i64 c0], [⟨bm0, 35, [.int .i64 b2, .int .i64 b3, .int .i64 b4, .int .i64 b5, .slice a0 a8 a4, .slice a1 a9 a5], false⟩, ⟨bm1, 35, [.int .i64 0, .int .i64 0, .int .i64 0, .int .i64 0, .slice none 0 0, .slice none 0 0], false⟩, ⟨bm2, 35, [.int .i64 b6, .int .i64 b7, .int .i64 b8, .int .i64 b9, .slice a2 b0 a6, .slice a3 b1 a7], false⟩])
abbrev yC7 (bm0 : Nat) (a6 a7 a8 a9 : Int) (a0 : OA) (a4 a2 : Nat) (a1 : OA) (a5 a3 bm1 bm2 : Nat) (b0 b1 b2 b3 : Int) (I : Nat → Int → Option Addr → Nat → Nat → World → Prop) (m : Nat) : Kh := KG (yi2 bm0 a6 a7 a8 a9 a0 a4 a2 a1 a5 a3 bm1 bm2 b0 b1 b2 b3) (U4 I) m
theorem yzA {I : Nat → Int → Option Addr → Nat → Nat → World → Prop} (m' : Nat) (h1 : m' < m) (h2 : I m' i8 q2 n7 n8 w) : KS (yC7 n0 i0 i1 i2 i3 q0 n1 n2 q1 n3 n4 n5 n6 i4 i5 i6 i7 I m) (yi2 n0 i0 i1 i2 i3 q0 n1 n2 q1 n3 n4 n5 n6 i4 i5 i6 i7 (i8, q2, n7, n8)) w := ⟨m', h1, _, rfl, rfl, h2⟩
theorem yzB {a1 : OA} {a2 : OA} {b8 : OA} (I : Nat → Int → Option Addr → Nat → Nat → World → Prop) (m0 : Nat) (h0 : I m0 i8 b8 n7 n8 w0)
 (hr : ∀ m b7 a3 a8 a6 w, I m b7 a3 a8 a6 w →
 brB (decide (b7 < (n1 : Int))) (
 brB (decide (b7 < 70)) (
 ixA a1 n1 b7 5 fun q4 =>
 yaF .i64 w q4 fun x5 => ya1 w (Addr.add q4 1) fun t6 => yaT w (Addr.add q4 2) fun s7 => ya1 w (Addr.add q4 3) fun t8 => yaT w (Addr.add q4 4) fun s9 =>
 ∀ c1, w.heap.size ≤ c1 →
 slS s7 0 (if 80 < (s7.size : Int) then 80 else (s7.size : Int)) fun d1 =>
 slS s9 0 (if 600 < (s9.size : Int) then 600 else (s9.size : Int)) fun d2 =>
 ∀ c3, Adv [] [c1] w c3 →
 al c3 (.cells (Z6 x5 t6 d1 t8 d2) 101) fun c8 c4 =>
 ycE pP (Builtin.append_ #[32, 32] 32 #[.slice a3 a8 a6, (.slice (some ⟨c8, 0, none⟩) 1 1)]) c4 fun c7 d0 c9 c5 => yaD [n0, n5, n6, c1] c4 c5 ∧
 ∀ c6, Adv [n6] [] c5 c6 →
 KS (yC7 n0 i0 i1 i2 i3 a1 n1 n2 a2 n3 n4 n5 n6 i4 i5 i6 i7 I m) (yi2 n0 i0 i1 i2 i3 a1 n1 n2 a2 n3 n4 n5 n6 i4 i5 i6 i7 ((IntKind.wrap .i64 (b7 + 1)), c7, d0, c9)) c6)
 (
 yaJ yj0 (yr0 393 [0, 0, 1, 0, 1, 1, 1, 1, 1]) (yr1 [1, 1, 1, 1, 1, 0, 1, 0] [] R) (yg9 n0 i0 i1 i2 i3 a1 n1 n2 a2 n3 n4 n5 n6 i4 i5 i6 i7 a3 a8 a6 (0, none, 0, 0)) w))
 (
 yaJ yj0 (yr0 393 [0, 0, 1, 0, 1, 1, 1, 1, 1]) (yr1 [1, 1, 1, 1, 1, 0, 1, 0] [] R) (yg9 n0 i0 i1 i2 i3 a1 n1 n2 a2 n3 n4 n5 n6 i4 i5 i6 i7 a3 a8 a6 (0, none, 0, 0)) w)) :
 yaJ ypN (yr0 394 [0, 0, 1, 0, 1, 1, 1, 1]) (yr1 [1, 1, 1, 1, 0, 1, 0] [] R) (yi2 n0 i0 i1 i2 i3 a1 n1 n2 a2 n3 n4 n5 n6 i4 i5 i6 i7 (i8, b8, n7, n8)) w0 :=
 lrule (yi2 n0 i0 i1 i2 i3 a1 n1 n2 a2 n3 n4 n5 n6 i4 i5 i6 i7) (U4 I) h0 (by rintro m ⟨b7, a3, a8, a6⟩ w h; exact ⟨by kernel_rfl, by kernel_rfl, fun js => Eq.mpr (by kernel_rfl) (hr m b7 a3 a8 a6 w h)⟩)
abbrev yC8 (bm0 : Nat) (a9 b0 b1 b2 : Int) (a0 : OA) (a6 a3 : Nat) (a1 : OA) (a7 a4 bm1 bm2 : Nat) (b3 b4 b5 b6 : Int) (a2 : OA) (a8 a5 : Nat) (I : Nat → Int → Option Addr → Nat → Nat → World → Prop) (m : Nat) : Kh := KG (yg9 bm0 a9 b0 b1 b2 a0 a6 a3 a1 a7 a4 bm1 bm2 b3 b4 b5 b6 a2 a8 a5) (U4 I) m
theorem ynF {I : Nat → Int → Option Addr → Nat → Nat → World → Prop} (m' : Nat) (h1 : m' < m) (h2 : I m' i8 q3 n9 o0 w) : KS (yC8 n0 i0 i1 i2 i3 q0 n1 n2 q1 n3 n4 n5 n6 i4 i5 i6 i7 q2 n7 n8 I m) (yg9 n0 i0 i1 i2 i3 q0 n1 n2 q1 n3 n4 n5 n6 i4 i5 i6 i7 q2 n7 n8 (i8, q3, n9, o0)) w := ⟨m', h1, _, rfl, rfl, h2⟩
theorem ynG (I : Nat → Int → Option Addr → Nat → Nat → World → Prop) (m0 : Nat) (h0 : I m0 i8 q3 n9 o0 w0)
 (hr : ∀ m c0 a1 a6 a3 w, I m c0 a1 a6 a3 w →
 brB (decide (c0 < (n3 : Int))) (
 brB (decide (c0 < 70)) (
 ixA q1 n3 c0 2 fun c7 =>
 yaT w c7 fun c5 => yaF .i64 w (Addr.add c7 1) fun d9 =>
 ∀ c4, w.heap.size ≤ c4 →
 slS c5 0 (if 40 < (c5.size : Int) then 40 else (c5.size : Int)) fun d8 =>
 ∀ c8, Adv [] [c4] w c8 →
 al c8 (.cells #[.string d8, .int .i64 d9] 42) fun d5 c9 =>
 ycE pP (Builtin.append_ #[33, 33] 33 #[.slice a1 a6 a3, (.slice (some ⟨d5, 0, none⟩) 1 1)]) c9 fun d4 d7 d6 d0 => yaD [n0, n5, n6, c4] c9 d0 ∧
 ∀ d1, Adv [n6] [] d0 d1 →
 KS (yC8 n0 i0 i1 i2 i3 q0 n1 n2 q1 n3 n4 n5 n6 i4 i5 i6 i7 q2 n7 n8 I m) (yg9 n0 i0 i1 i2 i3 q0 n1 n2 q1 n3 n4 n5 n6 i4 i5 i6 i7 q2 n7 n8 ((IntKind.wrap .i64 (c0 + 1)), d4, d7, d6)) d1)
 (
 ∀ d2, Adv [n5] [] w d2 →
 R (.agg (Z3 i4 i5 i6 i7 q2 n7 n8 a1 a6 a3)) d2))
 (
 ∀ d3, Adv [n5] [] w d3 →
 R (.agg (Z3 i4 i5 i6 i7 q2 n7 n8 a1 a6 a3)) d3)) :
 yaJ yj0 (yr0 393 [0, 0, 1, 0, 1, 1, 1, 1, 1]) (yr1 [1, 1, 1, 1, 1, 0, 1, 0] [] R) (yg9 n0 i0 i1 i2 i3 q0 n1 n2 q1 n3 n4 n5 n6 i4 i5 i6 i7 q2 n7 n8 (i8, q3, n9, o0)) w0 :=
 lrule (yg9 n0 i0 i1 i2 i3 q0 n1 n2 q1 n3 n4 n5 n6 i4 i5 i6 i7 q2 n7 n8) (U4 I) h0 (by rintro m ⟨c0, a1, a6, a3⟩ w h; exact ⟨by kernel_rfl, by kernel_rfl, fun js => Eq.mpr (by kernel_rfl) (hr m c0 a1 a6 a3 w h)⟩)
theorem yHW (h :
 ∀ b1, w.heap.size ≤ b1 →
 ∀ b2, w.heap.size ≤ b2 →
 ∀ b3, w.heap.size ≤ b3 →
 ∀ b0, Adv [] [b3, b2, b1] w b0 →
 yaJ ypN (yr0 394 [0, 0, 1, 0, 1, 1, 1, 1]) (yr1 [1, 1, 1, 1, 0, 1, 0] [] R) (yi2 b1 i0 i1 i2 i3 q0 n0 n1 q1 n2 n3 b2 b3 i0 i1 i2 i3 (0, none, 0, 0)) b0) :
 CR pP 34 #[(.agg (Z3 i0 i1 i2 i3 q0 n0 n1 q1 n2 n3))] w R :=
 yaA Tryz.wide_mixed (an := ypO) Tryz.func34 rfl rfl (by kernel_rfl) rfl (Eq.mpr (by kernel_rfl) h)
end
def ysD (n : Nat) (s : ByteArray) : ByteArray := s.extract 0 (min s.size n)
theorem yeU {s : ByteArray} {m : Int} {n : Nat} {F : ByteArray → Prop} (hm : m = (n : Nat)) (hF : F (ysD n s)) : slS s 0 (if m < (s.size : Int) then m else (s.size : Int)) F := by
 subst hm
 refine ⟨by omega, by split <;> omega, by split <;> omega, ?_⟩
 have e : (if (n : Int) < (s.size : Int) then (n : Int) else (s.size : Int)).toNat = min s.size n := by split <;> omega
 rw [e]; exact hF
theorem yfA {α β : Type} {f : α → β} {l : List α} {k : Nat} {x : α} (hx : l[k]? = some x) : (l.take (k + 1)).map f = (l.take k).map f ++ [f x] := by
 rw [List.take_add_one, hx]; simp
theorem yeF {α : Type} {l : List α} {k : Nat} (n : Nat) (hk : k ≤ n) (h : ¬ (k < l.length ∧ k < n)) (hk2 : k ≤ l.length) : l.take k = l.take n := by
 by_cases h1 : k = n
 ·rw [h1]
 ·rw [List.take_of_length_le (by omega), List.take_of_length_le (by omega)]
def yLW (r : PRec) : PRec := ⟨r.hk, ysD 80 r.key, r.tomb, ysD 600 r.val⟩
def yz1 (b : PBatch) : PBatch := ⟨b.prod, b.epoch, b.seq, (b.recs.take 20).map yLW⟩
def yGf (o : POp) : POp := ⟨o.kind, ⟨ysD 40 o.part.t, o.part.n⟩, o.n, o.off, yz1 o.b, ysD 40 o.g, ysD 40 o.m, o.gen, o.robin, (o.topics.take 12).map (ysD 40)⟩
def yMM (c : PCall) : PCall := ⟨c.c, c.n, yGf c.op⟩
def yEH (xs : List PCall) : List PCall := (xs.take 12).map yMM
def yMd (x : PFound) : PFound := ⟨x.off, ⟨x.r.hk, ysD 80 x.r.key, x.r.tomb, ysD 600 x.r.val⟩⟩
def yHX (x : PPart) : PPart := ⟨ysD 40 x.t, x.n⟩
def yeG (r : PRep) : PRep := ⟨r.e, r.off, r.n, r.gen, (r.found.take 70).map yMd, (r.parts.take 70).map yHX⟩
theorem yEI (r : PRec) (w : World) : Calls pP 110 #[r.v] w fun e w' => e = .returned (yLW r).v ∧ Mod [] w w' := by
 refine yaQ (yHB ?_)
 intro b1 f1 b2 f2
 refine yeU (n := 80) rfl (yeU (n := 600) rfl ?_)
 intro w3 A3
 exact ⟨rfl, A3.mod⟩
theorem yC9 {w : World} {b : PBatch} {rs : Sl} (h : ycD w 4 yfW rs.a rs.n b.recs) (hw : rs.n ≤ maxLen) :
  Calls pP 74 #[b.v rs] w fun e w' => ∃ v, e = .returned v ∧ ∃ rs' : Sl, v = (yz1 b).v rs' ∧ Row w' w.heap.size 99 4 yfW rs'.a rs'.n rs'.c (yz1 b).recs ∧ Mod [] w w' := by
 refine yHC ?_
 intro b1 f1 b2 f2 b3 f3 w1 A1
 have l1 := A1.lt b1 (by simp)
 have l2 := A1.lt b2 (by simp)
 have l3 := A1.lt b3 (by simp)
 have s1 := A1.mod.size
 have hn := h.1
 refine yyG (fun mm x a n c w' => ∃ k : Nat, x = k ∧ k ≤ b.recs.length ∧ k ≤ 20 ∧ Row w' w1.heap.size 99 4 yfW a n c ((b.recs.take k).map yLW) ∧ Mod [] w w' ∧ w1.heap.size ≤ w'.heap.size ∧ mm = b.recs.length - k) b.recs.length
  ⟨0, rfl, by omega, by omega, Row.nil .., A1.mod, Nat.le_refl _, rfl⟩ ?_
 rintro mm x a n c w2 ⟨k, rfl, hk, hk2, hRow, N2, s2, rfl⟩
 have hlk : ((b.recs.take k).map yLW).length = k := by rw [List.length_map, List.length_take]; omega
 have fin : ∀ {w'}, ¬ (k < b.recs.length ∧ k < 20) → Adv [b2] [] w2 w' → ∃ rs' : Sl, Value.agg #[.int .i64 b.prod, .int .i64 b.epoch, .int .i64 b.seq, .slice a n c] = (yz1 b).v rs' ∧ Row w' w.heap.size 99 4 yfW rs'.a rs'.n rs'.c (yz1 b).recs ∧ Mod [] w w' := fun {w'} hne A => by
  rw [yeF 20 hk2 hne hk] at hRow
  exact ⟨⟨a, n, c⟩, rfl, (hRow.keep A.mod fun ad ha hk => by have := hRow.base ad ha; simp at hk; omega).rebase s1, N2.go0 A.mod (by simpa using f2)⟩
 refine yaE (fun hlt => ?_) fun hge => fun w3 A3 => fin (by omega) A3
 refine yaE (fun hlt2 => ?_) fun hge => fun w3 A3 => fin (by omega) A3
 obtain ⟨r, hr⟩ : ∃ r, b.recs[k]? = some r := ⟨_, List.getElem?_eq_getElem (by omega)⟩
 refine (h.keep0 N2).ixW hr fun q hq => ?_
 intro w3 A3
 have hq := hq w3 A3.mod
 refine yaP (x := r.hk) (by simpa [add_zero] using hq 0 _ rfl) (yaI (hq 1 _ rfl) (yaP (hq 2 _ rfl) (yaI (hq 3 _ rfl) ?_)))
 refine (yEI r w3).mono ?_
 rintro e w4 ⟨rfl, M4⟩
 refine ⟨_, _, _, _, rfl, yaD.of0 M4, rfl, ?_⟩
 refine ycR fun b5 w5 c5 M5 f5 => ?_
 have K5 : Mod [] w2 w5 := (A3.mod.go0 M4 (by simp)).go0 M5 (by simp)
 have s5 := K5.size
 obtain ⟨i0, hi, hz0, hz1, hz2⟩ := info_parts yKU
 refine ybQ (x := yLW r) (hRow.keep0 K5) Tryz.underlying43 hi hz0 hz1 hz2 rfl (by decide) c5 rfl (yvD _) (by omega) (by unfold maxLen; omega) (by omega) fun a' c' w6 hR6 hM6 => ?_
 have M6 := hM6 _ (ybY a)
 have hrow := ya0 hRow
 refine ⟨yaD.of M6 fun b hb _ hb' => ?_, ?_⟩
 ·have := hrow b hb'; simp at hb; omega
 intro w7 A7
 unfold maxLen at hw
 refine yyF (b.recs.length - (k + 1)) (by omega) ⟨k + 1, by rw [yaH (by omega) (by omega)]; omega, by omega, by omega, Row.keep (by rw [yfA hr]; exact hR6) A7.mod fun ad ha hk => ?_, ?_, by have := M6.size; have := A7.mod.size; omega, rfl⟩
 ·have := hR6.base ad ha; simp at hk; omega
 ·refine ((N2.go0 K5 (by simp)).go0 M6 fun i hi => ?_).go0 A7.mod (by simpa using f3)
  have := hrow i hi; omega
theorem yHY {w : World} {o : POp} {rs ts : Sl} (h : OpRd w o rs ts) :
  Calls pP 48 #[o.v rs ts] w fun e w' => ∃ v, e = .returned v ∧ ∃ rs' ts' : Sl, v = (yGf o).v rs' ts' ∧ OpOwn w' w.heap.size (yGf o) rs' ts' ∧ Mod [] w w' := by
 refine yHD ?_
 intro b1 f1 b2 f2 b3 f3
 refine yeU (n := 40) rfl (yeU (n := 40) rfl (yeU (n := 40) rfl ?_))
 intro w1 A1
 have l1 := A1.lt b1 (by simp)
 have l2 := A1.lt b2 (by simp)
 have l3 := A1.lt b3 (by simp)
 have s1 := A1.mod.size
 have hn := h.topics.1
 have hw := h.wt
 unfold maxLen at hw
 refine (yC9 (b := o.b) (rs := rs) (h.recs.keep0 A1.mod) h.wr).mono ?_
 rintro e w2 ⟨_, rfl, rs', rfl, hB, M2⟩
 have s2 := M2.size
 refine ⟨_, _, _, _, _, _, rfl, yaD.of0 M2, ?_⟩
 intro w3 A3
 have s3 := A3.mod.size
 have hB3 : Row w3 w1.heap.size 99 4 yfW rs'.a rs'.n rs'.c (yz1 o.b).recs := hB.keep A3.mod fun ad ha hk => by have := hB.base ad ha; simp at hk; omega
 have N3 := (A1.mod.go0 M2 (by simp)).go0 A3.mod (by simpa using f3)
 refine yyI (fun mm x a n c w' => ∃ k : Nat, x = k ∧ k ≤ o.topics.length ∧ k ≤ 12 ∧ Row w' w1.heap.size 9 1 ykT a n c ((o.topics.take k).map (ysD 40)) ∧ Row w' w1.heap.size 99 4 yfW rs'.a rs'.n rs'.c (yz1 o.b).recs ∧ Mod [] w w' ∧ w1.heap.size ≤ w'.heap.size ∧ mm = o.topics.length - k) o.topics.length
  ⟨0, rfl, by omega, by omega, Row.nil .., hB3, N3, by omega, rfl⟩ ?_
 rintro mm x a n c w4 ⟨k, rfl, hk, hk2, hRow, hB4, N4, s4, rfl⟩
 have hlk : ((o.topics.take k).map (ysD 40)).length = k := by rw [List.length_map, List.length_take]; omega
 have fin : ∀ {w'}, ¬ (k < o.topics.length ∧ k < 12) → Adv [b2] [] w4 w' → ∃ rs'' ts' : Sl, Value.agg #[.int .i64 o.kind, .string (ysD 40 o.part.t), .int .i64 o.part.n, .int .i64 o.n, .int .i64 o.off, .int .i64 (yz1 o.b).prod, .int .i64 (yz1 o.b).epoch, .int .i64 (yz1 o.b).seq, .slice rs'.a rs'.n rs'.c, .string (ysD 40 o.g), .string (ysD 40 o.m), .int .i64 o.gen, .bool o.robin, .slice a n c] = (yGf o).v rs'' ts' ∧ OpOwn w' w.heap.size (yGf o) rs'' ts' ∧ Mod [] w w' := fun {w'} hne A => by
  rw [yeF 12 hk2 hne hk] at hRow
  exact ⟨rs', ⟨a, n, c⟩, rfl, ⟨(hB4.keep A.mod fun ad ha hk => by have := hB4.base ad ha; simp at hk; omega).rebase s1, (hRow.keep A.mod fun ad ha hk => by have := hRow.base ad ha; simp at hk; omega).rebase s1, by simp [yGf, yz1]; omega, by simp [yGf]; omega⟩, N4.go0 A.mod (by simpa using f2)⟩
 refine yaE (fun hlt => ?_) fun hge => fun w5 A5 => fin (by omega) A5
 refine yaE (fun hlt2 => ?_) fun hge => fun w5 A5 => fin (by omega) A5
 obtain ⟨t, ht⟩ : ∃ t, o.topics[k]? = some t := ⟨_, List.getElem?_eq_getElem (by omega)⟩
 refine (h.topics.keep0 N4).ixW ht fun q hq => ?_
 intro w5 A5
 refine yaI (x := t) (by simpa [add_zero] using hq w5 A5.mod 0 _ rfl) ?_
 refine (h.topics.keep0 N4).ixW ht fun q hq => ?_
 refine yaI (x := t) (by simpa [add_zero] using hq w5 A5.mod 0 _ rfl) ?_
 refine yeU (n := 40) rfl ?_
 refine ycR fun b6 w6 c6 M6 f6 => ?_
 have K6 : Mod [] w4 w6 := A5.mod.go0 M6 (by simp)
 have s6 := K6.size
 obtain ⟨i0, hi, hz0, hz1, hz2⟩ := info_parts yKV
 refine ybQ (enc := ykT) (x := ysD 40 t) (hRow.keep0 K6) Tryz.underlying46 hi hz0 hz1 hz2 rfl (by decide) c6 rfl (yvE _) (by omega) (by unfold maxLen; omega) (by omega) fun a' c' w7 hR7 hM7 => ?_
 have M7 := hM7 _ (ybY a)
 have s7 := M7.size
 have hrow := ya0 hRow
 refine ⟨yaD.of M7 fun b hb _ hb' => ?_, ?_⟩
 ·have := hrow b hb'; simp at hb; omega
 intro w8 A8
 have s8 := A8.mod.size
 have hB7 : Row w7 w1.heap.size 99 4 yfW rs'.a rs'.n rs'.c (yz1 o.b).recs := (hB4.keep0 K6).keep M7 fun ad ha hk => by
  obtain ⟨_, cur, hc⟩ := hB4.block ad ha
  obtain ⟨_, _, cur2, hc2⟩ := hrow _ hk
  rw [hc2] at hc; cases hc
 refine yyH (o.topics.length - (k + 1)) (by omega) ⟨k + 1, by rw [yaH (by omega) (by omega)]; omega, by omega, by omega, Row.keep (by rw [yfA ht]; exact hR7) A8.mod fun ad ha hk => ?_, hB7.keep A8.mod fun ad ha hk => ?_, ?_, by omega, rfl⟩
 ·have := hR7.base ad ha; simp at hk; omega
 ·have := hB7.base ad ha; simp at hk; omega
 ·refine ((N4.go0 K6 (by simp)).go0 M7 fun i hi => ?_).go0 A8.mod (by simpa using f3)
  have := hrow i hi; omega
theorem yEJ {w : World} {a : Option Addr} {n c : Nat} {ll : List CV} (h : ycD w 16 CV.cs a n ll) (hO : ∀ q ∈ ll, OpRd w q.x.op q.rs q.ts) (hw : n ≤ maxLen) :
  Calls pP 33 #[.slice a n c] w fun e w' => ∃ v, e = .returned v ∧ ∃ s' : Sl, v = .slice s'.a s'.n s'.c ∧ ybJ w' w.heap.size s' (yEH (ll.map (·.x))) ∧ Mod [] w w' := by
 have hn := h.1
 unfold maxLen at hw
 refine yHE ?_
 refine ycR fun b1 w1 c1 M1 f1 => ?_
 have s1 := M1.size
 refine yyK (fun mm a3 n3 c3 x w' => ∃ (k : Nat) (l : List CV), x = k ∧ k ≤ ll.length ∧ k ≤ 12 ∧ l.map (·.x) = ((ll.map (·.x)).take k).map yMM ∧ Row w' w.heap.size 50 16 CV.cs a3 n3 c3 l ∧ (∀ q ∈ l, OpOwn w' w.heap.size q.x.op q.rs q.ts) ∧ Mod [] w w' ∧ mm = ll.length - k) ll.length
  ⟨0, [], rfl, by omega, by omega, by simp, Row.fresh c1 f1, by simp, M1, rfl⟩ ?_
 rintro mm a3 n3 c3 x w2 ⟨k, l, rfl, hk, hk2, hlx, hRow, hOw, M2, rfl⟩
 have hlk : l.length = k := by have := congrArg List.length hlx; simp at this; omega
 have fin : ¬ (k < (ll.map (·.x)).length ∧ k < 12) → ∃ s' : Sl, Value.slice a3 n3 c3 = .slice s'.a s'.n s'.c ∧ ybJ w2 w.heap.size s' (yEH (ll.map (·.x))) ∧ Mod [] w w2 := fun hne => ⟨⟨a3, n3, c3⟩, rfl, ⟨l, hRow, hOw, by rw [hlx, yEH, yeF 12 hk2 hne (by simpa using hk)]⟩, M2⟩
 have s2 := M2.size
 refine yaE (fun hlt => ?_) fun hge => fin (by simp; omega)
 refine yaE (fun hlt2 => ?_) fun hge => fin (by simp; omega)
 obtain ⟨q, hq⟩ : ∃ q, ll[k]? = some q := ⟨_, List.getElem?_eq_getElem (by omega)⟩
 refine (h.keep0 M2).ixW hq fun ad had => ?_
 intro w3 A3
 have s3 := A3.mod.size
 have N3 := M2.go0 A3.mod (by simp)
 refine yaB (x := q.x.c) (by simpa [add_zero] using had w3 A3.mod 0 _ rfl) ?_
 refine (h.keep0 N3).ixW hq fun ad2 had2 => yaB (x := q.x.n) (had2 w3 (Mod.refl _) 1 _ rfl) ?_
 refine (h.keep0 N3).ixW hq fun ad3 had3 => ?_
 have hc := had3 w3 (Mod.refl _)
 refine yoT (yjZ hc) ?_
 refine (yHY ((hO q (List.mem_of_getElem? hq)).keep0 N3)).mono ?_
 rintro _ w4 ⟨_, rfl, rs', ts', rfl, hO', M4⟩
 have s4 := M4.size
 refine ⟨_, _, _, _, _, _, _, _, _, _, _, _, _, _, _, _, _, _, rfl, ?_, ?_, ?_⟩
 ·exact yaB (x := q.x.n) (had2 w4 M4 1 _ rfl) rfl
 ·exact yaB (x := q.x.c) (by simpa [add_zero] using had w4 (A3.mod.go0 M4 (by simp)) 0 _ rfl) rfl
 refine ycR fun b7 w7 c7 M7 f7 => ?_
 have s7 := M7.size
 have K7 : Mod [] w2 w7 := (A3.mod.go0 M4 (by simp)).go0 M7 (by simp)
 obtain ⟨i0, hi, hz0, hz1, hz2⟩ := info_parts yv4
 refine ybQ (x := (⟨⟨q.x.c, q.x.n, yGf q.x.op⟩, rs', ts'⟩ : CV)) (hRow.keep0 K7) Tryz.underlying31 hi hz0 hz1 hz2 rfl (by decide) c7 rfl (CV.cs_one _) (by omega) (by unfold maxLen; omega) (by omega) fun a' c' w8 hR8 hM8 => ?_
 have M8 := hM8 _ (ybY a3)
 have hrow := ya0 hRow
 have kp : ∀ {o rs ts}, OpOwn w7 w.heap.size o rs ts → OpOwn w8 w.heap.size o rs ts := fun hh => hh.keep M8 fun k hk cs T hc => by
  obtain ⟨_, _, cur, hcur⟩ := hrow k hk
  rw [K7.keep0 hcur] at hc; cases hc; decide
 refine yyJ (ll.length - (k + 1)) (by omega) ⟨k + 1, _, by rw [yaH (by omega) (by omega)]; omega, by omega, by omega, by rw [yfA (show (ll.map (·.x))[k]? = some q.x by rw [List.getElem?_map, hq]; rfl), List.map_append, hlx]; rfl, hR8, fun y hy => ?_, (M2.go0 K7 (by simp)).go0 M8 fun i hi => (hrow i hi).1, rfl⟩
 rcases List.mem_append.1 hy with hy | hy
 ·exact kp ((hOw y hy).keep0 K7)
 ·simp at hy; subst hy; exact kp ((hO'.keep0 M7).rebase (by omega))
set_option maxHeartbeats 1000000 in
theorem yr2 {w : World} {r : PRep} {f p : Sl} (h : RepRd w r f p) :
  Calls pP 34 #[r.v f p] w fun e w' => ∃ v, e = .returned v ∧ ∃ f' p' : Sl, v = (yeG r).v f' p' ∧ RepOwn w' w.heap.size (yeG r) f' p' ∧ Mod [] w w' := by
 refine yHW ?_
 intro b1 f1 b2 f2 b3 f3 w1 A1
 have l1 : ∀ b ∈ [b3, b2, b1], b < w1.heap.size := A1.lt
 have l3 := l1 b3 (by simp)
 have l2 := l1 b2 (by simp)
 have l1 := l1 b1 (by simp)
 have s1 := A1.mod.size
 refine yzB (fun mm x a n c w' => ∃ k : Nat, x = k ∧ k ≤ 70 ∧ k ≤ r.found.length ∧ Row w' w1.heap.size 101 5 ylO a n c ((r.found.take k).map yMd) ∧ Mod [] w w' ∧ w1.heap.size ≤ w'.heap.size ∧ mm = 70 - k) 70 ⟨0, rfl, by omega, by omega, Row.nil .., A1.mod, Nat.le_refl _, rfl⟩ ?_
 rintro mm x a1 n1 c1 w2 ⟨k, rfl, hk, hkf, hR, M2, hs2, rfl⟩
 have hl1 : ((r.found.take k).map yMd).length = k := by rw [List.length_map, List.length_take]; omega
 have e4 := h.found.1
 have e5 := h.parts.1
 refine yaE (fun hlt => ?_) fun hge => ?_
 ·refine yaE (fun hlt4 => ?_) fun hge => ?_
  ·obtain ⟨y, hy⟩ : ∃ y, r.found[k]? = some y := ⟨_, List.getElem?_eq_getElem (by have := h.found.1; omega)⟩
   have hym := h.sf y (List.mem_of_getElem? hy)
   unfold maxLen at hym
   refine (h.keep0 M2).found.ix hy fun q hq => yaB (x := y.off) (by simpa [add_zero] using hq 0 _ rfl) (yaP (hq 1 _ rfl) (yaI (hq 2 _ rfl) (yaP (hq 3 _ rfl) (yaI (hq 4 _ rfl) ?_))))
   intro b6 f6
   refine yeU (n := 80) rfl (yeU (n := 600) rfl ?_)
   intro w6 A6
   have l6 := A6.lt b6 (by simp)
   have s6 := A6.mod.size
   refine ycR fun b7 w7 c7 M7 f7 => ?_
   have s7 := M7.size
   obtain ⟨i0, hi0, hz0, hz1, hz2⟩ := info_parts yI8
   refine ybQ (x := yMd y) ((hR.keep0 A6.mod).keep0 M7) Tryz.underlying32 hi0 hz0 hz1 hz2 rfl (by decide) c7 rfl (yu1 _) (by omega) (by unfold maxLen; omega) (by omega) fun a' c' w8 hR8 hM8 => ?_
   have M8 := hM8 _ (ybY a1)
   have hrow : ∀ k ∈ ydY a1, w1.heap.size ≤ k ∧ k < w2.heap.size := by
    cases a1 with
    | none => simp [ydY]
    | some ad => intro k hk; simp [ydY] at hk; subst hk; obtain ⟨h1, cur, h2⟩ := hR.block ad rfl; exact ⟨h1, yaK h2⟩
   refine ⟨yaD.of M8 fun b hb _ hb' => ?_, ?_⟩
   ·have := hrow b hb'; simp at hb; omega
   intro w9 A9
   have N7 : Mod [] w2 w7 := A6.mod.go0 M7 (by simp)
   have N8 : Mod [] w w8 := (M2.go0 N7 (by simp)).go0 M8 fun i hi => by have := hrow i hi; omega
   have s8 := M8.size
   have s9 := A9.mod.size
   refine yzA (70 - (k + 1)) (by omega) ⟨k + 1, by rw [yaH (by omega) (by omega)]; omega, by omega, by have := (List.getElem?_eq_some_iff.1 hy).1; omega, Row.keep (by rw [yfA hy]; exact hR8) A9.mod fun ad ha hk' => ?_, N8.go0 A9.mod (by simp; omega), by omega, rfl⟩
   have := hR8.base ad ha; simp at hk'; omega
  ·have hRf : Row w2 w1.heap.size 101 5 ylO a1 n1 c1 (yeG r).found := by
    have := yeF (l := r.found) 70 hk (by omega) hkf
    rw [this] at hR; exact hR
   clear hR
   refine ynG (fun mm x a n c w' => ∃ k : Nat, x = k ∧ k ≤ 70 ∧ k ≤ r.parts.length ∧ Row w' w1.heap.size 42 2 yn4 a n c ((r.parts.take k).map yHX) ∧ Row w' w1.heap.size 101 5 ylO a1 n1 c1 (yeG r).found ∧ Mod [] w w' ∧ w1.heap.size ≤ w'.heap.size ∧ mm = 70 - k) 70 ⟨0, rfl, by omega, by omega, Row.nil .., hRf, M2, hs2, rfl⟩ ?_
   rintro mm x a n c w3 ⟨k, rfl, hk, hkp, hP, hR, M3, hs3, rfl⟩
   have hl : ((r.parts.take k).map yHX).length = k := by rw [List.length_map, List.length_take]; omega
   have fin : ¬ (k < r.parts.length ∧ k < 70) → ∀ w4, Adv [b2] [] w3 w4 → ∃ f' p' : Sl, Value.agg #[.int .i64 r.e, .int .i64 r.off, .int .i64 r.n, .int .i64 r.gen, .slice a1 n1 c1, .slice a n c] = (yeG r).v f' p' ∧ RepOwn w4 w.heap.size (yeG r) f' p' ∧ Mod [] w w4 := fun hne w4 A4 => by
    rw [yeF 70 hk hne hkp] at hP
    refine ⟨⟨a1, n1, c1⟩, ⟨a, n, c⟩, rfl, ⟨?_, ?_, by simp [yeG]; omega, by simp [yeG]; omega⟩, M3.go0 A4.mod (by simp; omega)⟩
    ·refine (hR.keep A4.mod fun ad ha hk' => ?_).rebase (by omega)
     have := hR.base ad ha; simp at hk'; omega
    ·refine (hP.keep A4.mod fun ad ha hk' => ?_).rebase (by omega)
     have := hP.base ad ha; simp at hk'; omega
   refine yaE (fun hlt => ?_) fun hge => fin (by omega)
   refine yaE (fun hlt4 => ?_) fun hge => fin (by omega)
   obtain ⟨y, hy⟩ : ∃ y, r.parts[k]? = some y := ⟨_, List.getElem?_eq_getElem (by have := h.parts.1; omega)⟩
   have hym := h.sp y (List.mem_of_getElem? hy)
   unfold maxLen at hym
   refine (h.keep0 M3).parts.ix hy fun q hq => yaI (x := y.t) (by simpa [add_zero] using hq 0 _ rfl) (yaB (hq 1 _ rfl) ?_)
   intro b6 f6
   refine yeU (n := 40) rfl ?_
   intro w6 A6
   have l6 := A6.lt b6 (by simp)
   have s6 := A6.mod.size
   refine ycR fun b7 w7 c7 M7 f7 => ?_
   have s7 := M7.size
   obtain ⟨i0, hi0, hz0, hz1, hz2⟩ := info_parts yGM
   refine ybQ (x := yHX y) ((hP.keep0 A6.mod).keep0 M7) Tryz.underlying33 hi0 hz0 hz1 hz2 rfl (by decide) c7 rfl (yn9 _) (by omega) (by unfold maxLen; omega) (by omega) fun a' c' w8 hR8 hM8 => ?_
   have M8 := hM8 _ (ybY a)
   have hrow : ∀ k ∈ ydY a, w1.heap.size ≤ k ∧ k < w3.heap.size ∧ ∃ cur, w3.heap[k]? = some (.cells cur 42) := by
    cases a with
    | none => simp [ydY]
    | some ad => intro k hk; simp [ydY] at hk; subst hk; obtain ⟨h1, cur, h2⟩ := hP.block ad rfl; exact ⟨h1, yaK h2, cur, h2⟩
   refine ⟨yaD.of M8 fun b hb _ hb' => ?_, ?_⟩
   ·have := hrow b hb'; simp at hb; omega
   intro w9 A9
   have N7 : Mod [] w3 w7 := A6.mod.go0 M7 (by simp)
   have N8 : Mod [] w w8 := (M3.go0 N7 (by simp)).go0 M8 fun i hi => by have := hrow i hi; omega
   have s8 := M8.size
   have s9 := A9.mod.size
   refine ynF (70 - (k + 1)) (by omega) ⟨k + 1, by rw [yaH (by omega) (by omega)]; omega, by omega, by have := (List.getElem?_eq_some_iff.1 hy).1; omega, Row.keep (by rw [yfA hy]; exact hR8) A9.mod fun ad ha hk' => ?_, ?_, N8.go0 A9.mod (by simp; omega), by omega, rfl⟩
   ·have := hR8.base ad ha; simp at hk'; omega
   ·have h7 := hR.keep0 N7
    refine (h7.keep M8 fun ad ha hk' => ?_).keep A9.mod fun ad ha hk' => ?_
    ·obtain ⟨_, _, cur, hc⟩ := hrow _ hk'
     obtain ⟨_, cur', hc'⟩ := hR.block ad ha
     rw [hc] at hc'; cases hc'
    ·have := hR.base ad ha; simp at hk'; omega
 ·have hRf : Row w2 w1.heap.size 101 5 ylO a1 n1 c1 (yeG r).found := by
   have := yeF (l := r.found) 70 hk (by omega) hkf
   rw [this] at hR; exact hR
  clear hR
  refine ynG (fun mm x a n c w' => ∃ k : Nat, x = k ∧ k ≤ 70 ∧ k ≤ r.parts.length ∧ Row w' w1.heap.size 42 2 yn4 a n c ((r.parts.take k).map yHX) ∧ Row w' w1.heap.size 101 5 ylO a1 n1 c1 (yeG r).found ∧ Mod [] w w' ∧ w1.heap.size ≤ w'.heap.size ∧ mm = 70 - k) 70 ⟨0, rfl, by omega, by omega, Row.nil .., hRf, M2, hs2, rfl⟩ ?_
  rintro mm x a n c w3 ⟨k, rfl, hk, hkp, hP, hR, M3, hs3, rfl⟩
  have hl : ((r.parts.take k).map yHX).length = k := by rw [List.length_map, List.length_take]; omega
  have fin : ¬ (k < r.parts.length ∧ k < 70) → ∀ w4, Adv [b2] [] w3 w4 → ∃ f' p' : Sl, Value.agg #[.int .i64 r.e, .int .i64 r.off, .int .i64 r.n, .int .i64 r.gen, .slice a1 n1 c1, .slice a n c] = (yeG r).v f' p' ∧ RepOwn w4 w.heap.size (yeG r) f' p' ∧ Mod [] w w4 := fun hne w4 A4 => by
   rw [yeF 70 hk hne hkp] at hP
   refine ⟨⟨a1, n1, c1⟩, ⟨a, n, c⟩, rfl, ⟨?_, ?_, by simp [yeG]; omega, by simp [yeG]; omega⟩, M3.go0 A4.mod (by simp; omega)⟩
   ·refine (hR.keep A4.mod fun ad ha hk' => ?_).rebase (by omega)
    have := hR.base ad ha; simp at hk'; omega
   ·refine (hP.keep A4.mod fun ad ha hk' => ?_).rebase (by omega)
    have := hP.base ad ha; simp at hk'; omega
  refine yaE (fun hlt => ?_) fun hge => fin (by omega)
  refine yaE (fun hlt4 => ?_) fun hge => fin (by omega)
  obtain ⟨y, hy⟩ : ∃ y, r.parts[k]? = some y := ⟨_, List.getElem?_eq_getElem (by have := h.parts.1; omega)⟩
  have hym := h.sp y (List.mem_of_getElem? hy)
  unfold maxLen at hym
  refine (h.keep0 M3).parts.ix hy fun q hq => yaI (x := y.t) (by simpa [add_zero] using hq 0 _ rfl) (yaB (hq 1 _ rfl) ?_)
  intro b6 f6
  refine yeU (n := 40) rfl ?_
  intro w6 A6
  have l6 := A6.lt b6 (by simp)
  have s6 := A6.mod.size
  refine ycR fun b7 w7 c7 M7 f7 => ?_
  have s7 := M7.size
  obtain ⟨i0, hi0, hz0, hz1, hz2⟩ := info_parts yGM
  refine ybQ (x := yHX y) ((hP.keep0 A6.mod).keep0 M7) Tryz.underlying33 hi0 hz0 hz1 hz2 rfl (by decide) c7 rfl (yn9 _) (by omega) (by unfold maxLen; omega) (by omega) fun a' c' w8 hR8 hM8 => ?_
  have M8 := hM8 _ (ybY a)
  have hrow : ∀ k ∈ ydY a, w1.heap.size ≤ k ∧ k < w3.heap.size ∧ ∃ cur, w3.heap[k]? = some (.cells cur 42) := by
   cases a with
   | none => simp [ydY]
   | some ad => intro k hk; simp [ydY] at hk; subst hk; obtain ⟨h1, cur, h2⟩ := hP.block ad rfl; exact ⟨h1, yaK h2, cur, h2⟩
  refine ⟨yaD.of M8 fun b hb _ hb' => ?_, ?_⟩
  ·have := hrow b hb'; simp at hb; omega
  intro w9 A9
  have N7 : Mod [] w3 w7 := A6.mod.go0 M7 (by simp)
  have N8 : Mod [] w w8 := (M3.go0 N7 (by simp)).go0 M8 fun i hi => by have := hrow i hi; omega
  have s8 := M8.size
  have s9 := A9.mod.size
  refine ynF (70 - (k + 1)) (by omega) ⟨k + 1, by rw [yaH (by omega) (by omega)]; omega, by omega, by have := (List.getElem?_eq_some_iff.1 hy).1; omega, Row.keep (by rw [yfA hy]; exact hR8) A9.mod fun ad ha hk' => ?_, ?_, N8.go0 A9.mod (by simp; omega), by omega, rfl⟩
  ·have := hR8.base ad ha; simp at hk'; omega
  ·have h7 := hR.keep0 N7
   refine (h7.keep M8 fun ad ha hk' => ?_).keep A9.mod fun ad ha hk' => ?_
   ·obtain ⟨_, _, cur, hc⟩ := hrow _ hk'
    obtain ⟨_, cur', hc'⟩ := hR.block ad ha
    rw [hc] at hc'; cases hc'
   ·have := hR.base ad ha; simp at hk'; omega
def yfM (m : PMail) : PMail := ⟨m.kind, m.fr, m.to, m.view, m.normal, m.last, m.commit, m.nonce, m.base, m.n, yEH m.calls, yeG m.r⟩
theorem MailRd.keep0 {w w' : World} {m : PMail} {s f p : Sl} (h : MailRd w m s f p) (M : Mod [] w w') : MailRd w' m s f p := by
 obtain ⟨⟨ll, h1, h2, h3⟩, h4, h5⟩ := h
 exact ⟨⟨ll, h1.keep0 M, fun q hq => (h2 q hq).keep0 M, h3⟩, h4, h5.keep0 M⟩
theorem yHZ {w : World} {m : PMail} {s f p : Sl} (h : MailRd w m s f p) :
  Calls pP 11 #[m.v s f p] w fun e w' => ∃ v, e = .returned v ∧ ∃ s' f' p' : Sl, v = (yfM m).v s' f' p' ∧ MailOwn w' w.heap.size (yfM m) s' f' p' ∧ Mod [] w w' := by
 refine yHO ?_
 intro b1 f1 b2 f2 b3 f3 w4 A4
 have l1 := A4.lt b1 (by simp)
 have l2 := A4.lt b2 (by simp)
 have l3 := A4.lt b3 (by simp)
 have s4 := A4.mod.size
 obtain ⟨ll, h1, h2, h3⟩ := (h.keep0 A4.mod).calls
 refine (yEJ h1 h2 h.ws).mono ?_
 rintro _ w5 ⟨_, rfl, s', rfl, hC, M5⟩
 rw [h3] at hC
 have s5 := M5.size
 refine ⟨_, _, _, rfl, yaD.of0 M5, ?_⟩
 intro w9 A9
 have s9 := A9.mod.size
 have N9 : Mod [] w w9 := (A4.mod.go0 M5 (by simp)).go0 A9.mod (by simpa using f3)
 refine (yr2 (h.keep0 N9).rep).mono ?_
 rintro _ w10 ⟨_, rfl, f', p', rfl, hR, M10⟩
 have s10 := M10.size
 refine ⟨_, _, _, _, _, _, _, _, _, _, rfl, yaD.of0 M10, ?_⟩
 intro w21 A21
 refine ⟨s', f', p', rfl, ⟨((hC.keepB A9.mod (by simp; omega)).keep0 M10).keepB A21.mod (by simp; omega) |>.rebase s4, (hR.keepB A21.mod (by simp; omega)).rebase (by omega)⟩, (N9.go0 M10 (by simp)).go0 A21.mod (by simp; omega)⟩
theorem yzC {m : PMail} (hn : (yaW m).all num = true) (hk : 0 ≤ m.kind ∧ m.kind < 12) (hc : m.calls = []) (hr : m.r = ye4) : ybK m = 0 ∧ (yb5 m).length ≤ 100000 := by
 have ht : ycL m.calls = 0 := by rw [hc]; decide
 have hre : ygP m.r = 0 := by rw [hr]; decide
 have hE : ydF m = 0 := by
  rw [ydF, if_neg (by omega), if_neg (by rw [hn]; decide), if_neg (by simpa using ht), hre]
 have l1 := ye8 hn 10
 rw [List.take_of_length_le (by rw [yf7]; omega)] at l1
 have l2 : (ybZ m.calls).length ≤ 10 := by
  rw [hc]
  have := (yaM 0 (by omega)).2
  simpa [ybZ] using this
 have l3 : (yeC m.r).length ≤ 60000 := (RepGood.of hre).len3 m.r.parts.length
 have p2 := (yaV (bs (ybZ m.calls)) (by rw [yaG]; omega)).2
 have p3 := (yaV (bs (yeC m.r)) (by rw [yaG]; omega)).2
 rw [yaG] at p2 p3
 have hl : (yb5 m).length ≤ 100000 := by unfold yb5; rw [List.length_append, List.length_append]; omega
 exact ⟨by rw [ybK, if_neg (by simpa using hE), if_neg (by omega)], hl⟩
theorem ynH {m : PMail} (hl : (yb5 m).length ≤ 1048576) : (ydG m).size ≤ (yb5 m).length + 14 := by
 unfold ydG
 rw [yaG, yiF]
 have := (yaV (bs (yb5 m)) (by rw [yaG]; omega)).2
 rw [yaG] at this; omega
theorem ydN (w : World) (m : PMail) (hc : m.calls = []) (hr : m.r = ye4) : MailAt w m ybS ybS ybS :=
 ⟨by rw [hc]; exact ⟨[], (Row.nil w 0 50 16 CV.cs).sl CV.cs_len, by simp, rfl⟩, by rw [hr]; exact ⟨(Row.nil w 0 101 5 ylO).sl yuX, (Row.nil w 0 42 2 yn4).sl yuY, by simp [ye4], by simp [ye4]⟩⟩
theorem yzD {x y : PMail} (hx : ybK x = 0) (hy : ybK y = 0) : ydG x = ydG y ↔ x = y := by
 refine ⟨fun h => ?_, fun h => by rw [h]⟩
 have hm := yCW hx hy h
 exact yy9 (s := bs (yb5 x)) ⟨hx, yeS _⟩ ⟨hy, by rw [yeS, hm]⟩
theorem yDa (m : PMail) : (yfM m).calls.length ≤ 12 := by
 show ((m.calls.take 12).map yMM).length ≤ 12
 rw [List.length_map, List.length_take]; omega
def yjK (x : Int) : List Value := [.int .i64 x]
theorem yEK (x : Int) : ∀ u ∈ yjK x, u.oneCell' = true := by simp [yjK, Value.oneCell']
theorem yH0 : (Tryz.prog.info? 3).map (fun i => (i.zero, i.size, i.bytes)) = some (some (.int .i64 0), 1, 8) := by kernel_rfl
theorem yuF {w : World} {B : Nat} {f : Sl} {l : List Int} {y : Int} {bs : List Nat} {F : Option Addr → Nat → Nat → World → Prop} (hR : Row w B 3 1 yjK f.a f.n f.c l) (hl : l.length ≤ 1000000) (hB : B ≤ w.heap.size) (hbs : ∀ b ∈ bs, b ∉ ydY f.a)
  (hF : ∀ a' c' w', Row w' B 3 1 yjK a' (f.n + 1) c' (l ++ [y]) → Mod (ydY f.a) w w' → F a' (f.n + 1) c' w') :
  al w (.cells (yjK y).toArray 3) fun b w1 => ycE pP (Builtin.append_ #[27, 27] 27 #[.slice f.a f.n f.c, .slice (some ⟨b, 0, none⟩) 1 1]) w1 fun a n c w2 => yaD bs w1 w2 ∧ F a n c w2 := by
 refine ycR fun b w1 c1 M1 f1 => ?_
 have s1 := M1.size
 obtain ⟨i0, hi0, hz0, hz1, hz2⟩ := info_parts yH0
 refine ybQ (x := y) (hR.keep0 M1) Tryz.underlying27 hi0 hz0 hz1 hz2 rfl (by decide) c1 rfl (yEK _) (by omega) (by unfold maxLen; omega) (by omega) fun a' c' w8 hR8 hM8 => ?_
 have M8 := hM8 _ (ybY f.a)
 refine ⟨yaD.of M8 fun b hb _ => hbs b hb, hF a' c' w8 hR8 ?_⟩
 exact (M1.trans M8).less fun k hk _ => by simpa using hk
section
set_option maxRecDepth 100000
variable {R : VWP} {w w0 : World} {m : Nat} {i0 i1 i2 i3 i4 i5 i6 i7 i8 i9 j0 j1 j2 j3 j4 j5 j6 j7 j8 j9 k0 k1 k2 k3 k4 k5 k6 k7 k8 k9 l0 l1 l2 l3 l4 l5 l6 l7 l8 l9 : Int} {s0 s1 s2 s3 s4 s5 s6 s7 s8 s9 t0 t1 t2 t3 t4 t5 t6 t7 t8 t9 : BA} {n0 n1 n2 n3 n4 n5 n6 n7 n8 n9 o0 o1 o2 o3 o4 o5 o6 o7 o8 o9 p0 p1 p2 p3 p4 p5 p6 p7 p8 p9 : Nat} {q0 q1 q2 q3 q4 q5 q6 q7 q8 q9 r0 r1 r2 r3 r4 r5 r6 r7 r8 r9 : OA} {B0 B1 B2 B3 B4 B5 B6 B7 B8 B9 : Bool} {M0 M1 M2 M3 : Option Nat} {V0 V1 V2 V3 V4 V5 : Value} {A0 A1 A2 : Addr}
theorem yH1 (h :
 brB (decide (i0 < 1)) (
 R (.tuple #[.pointer none, .int .i64 1]) w)
 (
 brB (decide (i0 > 4096)) (
 R (.tuple #[.pointer none, .int .i64 1]) w)
 (
 al w (.map #[] 0) fun b1 w2 =>
 al w2 (.map #[] 0) fun b3 w4 =>
 ∀ b5, w4.heap.size ≤ b5 →
 ∀ w6, Adv [] [b5] w4 w6 → w6.heap[b5]? = some (.cells #[.int .i64 i0, .int .i64 0, (.map (some b1)), (.map (some b3))] 71) →
 R (.tuple #[(.pointer (some ⟨b5, 0, none⟩)), .int .i64 0]) w6))) :
 CR pP 8 #[.int .i64 i0] w R :=
 yaA Tryz.wide_mixed (an := []) Tryz.func8 rfl rfl (by kernel_rfl) rfl (Eq.mpr (by kernel_rfl) h)
theorem yH2 (h :
 ∀ b1, w.heap.size ≤ b1 →
 ∀ w2, Adv [] [b1] w w2 →
 R (.agg #[(.int .i64 (if i1 < i0 then i1 else i0)), (.int .i64 (if i1 > i0 then i1 else i0))]) w2) :
 CR pP 40 #[.int .i64 i0, .int .i64 i1] w R :=
 yaA Tryz.wide_mixed (an := []) Tryz.func40 rfl rfl (by kernel_rfl) rfl (Eq.mpr (by kernel_rfl) h)
theorem yH3 {b0 : Nat} {a2 a1 : Nat} {a5 a4 : Nat} {a8 a7 : Nat} (hb : w.heap[b0]? = some (.cells #[.int .i64 i0, .int .i64 i1, (.map M0), (.map M1)] 71)) (h :
 ∀ b1, w.heap.size ≤ b1 →
 ∀ w2, Adv [] [b1] w w2 →
 Calls pP 35 #[(.agg (Z0 i2 i3 i4 i5 i6 i7 i8 i9 j0 j1 q0 a2 a1 j2 j3 j4 j5 q1 a5 a4 q2 a8 a7))] w2 fun e w3 => ∃ s4 x5, e = .returned (.tuple #[.string s4, .int .i64 x5]) ∧ yaD [b0, b1] w2 w3 ∧
 brB (x5 != 0) (
 ∀ w6, Adv [] [] w3 w6 → w6.heap[b0]? = some (.cells #[.int .i64 i0, .int .i64 i1, (.map M0), (.map M1)] 71) →
 R (.tuple #[.int .i64 0, .int .i64 x5]) w6)
 (
 ∃ x7, (∀ w', Mod [] w3 w' → (Builtin.len_ #[68] 3 #[(.map M0)]).run pP w' = .ok (.int .i64 x7) w') ∧
 brB (decide (x7 ≥ i0)) (
 ∀ w8, Adv [] [] w3 w8 → w8.heap[b0]? = some (.cells #[.int .i64 i0, .int .i64 i1, (.map M0), (.map M1)] 71) →
 R (.tuple #[.int .i64 0, .int .i64 2]) w8)
 (
 ∀ w9, Adv [b0] [] w3 w9 →
 yL7 pP (Instr.mapUpdate 68 (.map M0) (.int .i64 (IntKind.wrap .i64 (i1 + 1))) (.string s4)) w9 fun c6 => yaD [b0, b1] w9 c6 ∧
 ∀ c5, Adv [] [] c6 c5 → c5.heap[b0]? = some (.cells #[.int .i64 i0, (.int .i64 (IntKind.wrap .i64 (i1 + 1))), (.map M0), (.map M1)] 71) →
 R (.tuple #[(.int .i64 (IntKind.wrap .i64 (i1 + 1))), .int .i64 0]) c5))) :
 CR pP 12 #[(.pointer (some ⟨b0, 0, none⟩)), (.agg (Z0 i2 i3 i4 i5 i6 i7 i8 i9 j0 j1 q0 a2 a1 j2 j3 j4 j5 q1 a5 a4 q2 a8 a7))] w R :=
 yaZ Tryz.wide_mixed (an := []) Tryz.func12 rfl rfl (by kernel_rfl) rfl hb (Eq.mpr (by kernel_rfl) h)
theorem yH4 {b0 : Nat} (hb : w.heap[b0]? = some (.cells #[.int .i64 i0, .int .i64 i1, (.map M0), (.map M1)] 71)) (h :
 ∀ b1, w.heap.size ≤ b1 →
 ∀ w2, Adv [] [b1] w w2 →
 ∃ s3 t4, (∀ w', Mod [] w2 w' → (Instr.lookup 68 (.map M0) (.int .i64 i2) true).run pP w' = .ok (.tuple #[.string s3, .bool t4]) w') ∧
 brB (!t4) (
 ∀ w5, Adv [b1] [] w2 w5 → w5.heap[b0]? = some (.cells #[.int .i64 i0, .int .i64 i1, (.map M0), (.map M1)] 71) →
 R (.tuple #[(.agg (Z0 0 0 0 0 0 0 0 0 0 0 none 0 0 0 0 0 0 none 0 0 none 0 0)), .int .i64 210]) w5)
 (
 Calls pP 36 #[.string s3] w2 fun e w6 => ∃ x7 x8 x9 c0 c1 c2 c3 c4 c5 c6 a8 b6 b3 c7 c8 c9 d0 a9 b7 b4 b2 b8 b5 d1, e = .returned (.tuple #[(.agg (Z0 x7 x8 x9 c0 c1 c2 c3 c4 c5 c6 a8 b6 b3 c7 c8 c9 d0 a9 b7 b4 b2 b8 b5)), .int .i64 d1]) ∧ yaD [b0, b1] w2 w6 ∧
 ∀ a1, w6.heap.size ≤ a1 →
 ∀ a2, Adv [] [a1] w6 a2 → a2.heap[b0]? = some (.cells #[.int .i64 i0, .int .i64 i1, (.map M0), (.map M1)] 71) →
 Calls pP 17 (Z11 (some ⟨b0, 0, none⟩) x8 x9) a2 fun e a3 => ∃ b9, e = .returned (.bool b9) ∧ ya4 [b0] [(b1, 37), (a1, 37)] [b1, a1] a2 a3 ∧ ∃ a6 a7, ∃ m37 : Option Nat, ∃ m38 : Option Nat, a3.heap[b0]? = some (.cells #[.int .i64 a6, .int .i64 a7, (.map m37), (.map m38)] 71) ∧
 brB b9 (
 ∀ a4, Adv [b1] [] a3 a4 → a4.heap[b0]? = some (.cells #[.int .i64 a6, .int .i64 a7, (.map m37), (.map m38)] 71) →
 R (.tuple #[(.agg (Z0 0 0 0 0 0 0 0 0 0 0 none 0 0 0 0 0 0 none 0 0 none 0 0)), .int .i64 211]) a4)
 (
 ∀ a5, Adv [b1] [] a3 a5 → a5.heap[b0]? = some (.cells #[.int .i64 a6, .int .i64 a7, (.map m37), (.map m38)] 71) →
 R (.tuple #[(.agg (Z0 x7 x8 x9 c0 c1 c2 c3 c4 c5 c6 a8 b6 b3 c7 c8 c9 d0 a9 b7 b4 b2 b8 b5)), .int .i64 0]) a5))) :
 CR pP 13 #[(.pointer (some ⟨b0, 0, none⟩)), .int .i64 i2] w R :=
 yaZ Tryz.wide_mixed (an := []) Tryz.func13 rfl rfl (by kernel_rfl) rfl hb (Eq.mpr (by kernel_rfl) h)
theorem yH5 {b0 : Nat} (hb : w.heap[b0]? = some (.cells #[.int .i64 i0, .int .i64 i1, (.map M0), (.map M1)] 71)) (h :
 ∀ b1, w.heap.size ≤ b1 →
 ∀ w2, Adv [] [b1] w w2 → w2.heap[b0]? = some (.cells #[.int .i64 i0, .int .i64 i1, (.map M0), (.map M1)] 71) →
 Calls pP 13 #[(.pointer (some ⟨b0, 0, none⟩)), .int .i64 i2] w2 fun e w3 => ∃ x4 x5 x6 x7 x8 x9 b9 c0 c1 c2 a6 b4 a9 c3 c4 c5 c6 a7 b5 b2 a8 b6 b3 a3, e = .returned (.tuple #[(.agg (Z0 x4 x5 x6 x7 x8 x9 b9 c0 c1 c2 a6 b4 a9 c3 c4 c5 c6 a7 b5 b2 a8 b6 b3)), .int .i64 a3]) ∧ ya4 [b0] [(b1, 37)] [b1] w2 w3 ∧ ∃ a4 a5, ∃ m30 : Option Nat, ∃ m31 : Option Nat, w3.heap[b0]? = some (.cells #[.int .i64 a4, .int .i64 a5, (.map m30), (.map m31)] 71) ∧
 ∀ a1, w3.heap.size ≤ a1 →
 brB (a3 == 0) (
 ∀ a2, Adv [] [a1] w3 a2 → a2.heap[b0]? = some (.cells #[.int .i64 a4, .int .i64 a5, (.map m30), (.map m31)] 71) →
 yIK pP (Builtin.delete_ #[68, 3] 0 #[(.map m30), .int .i64 i2]) a2 fun c8 c7 => yaD [b0, b1, a1] a2 c7 ∧
 ∀ b7, Adv [b1] [] c7 b7 → b7.heap[b0]? = some (.cells #[.int .i64 a4, .int .i64 a5, (.map m30), (.map m31)] 71) →
 R (.tuple #[(.agg (Z0 x4 x5 x6 x7 x8 x9 b9 c0 c1 c2 a6 b4 a9 c3 c4 c5 c6 a7 b5 b2 a8 b6 b3)), .int .i64 a3]) b7)
 (
 ∀ b8, Adv [b1] [a1] w3 b8 → b8.heap[b0]? = some (.cells #[.int .i64 a4, .int .i64 a5, (.map m30), (.map m31)] 71) →
 R (.tuple #[(.agg (Z0 x4 x5 x6 x7 x8 x9 b9 c0 c1 c2 a6 b4 a9 c3 c4 c5 c6 a7 b5 b2 a8 b6 b3)), .int .i64 a3]) b8)) :
 CR pP 15 #[(.pointer (some ⟨b0, 0, none⟩)), .int .i64 i2] w R :=
 yaZ Tryz.wide_mixed (an := []) Tryz.func15 rfl rfl (by kernel_rfl) rfl hb (Eq.mpr (by kernel_rfl) h)
theorem yH6 {b0 : Nat} (hb : w.heap[b0]? = some (.cells #[.int .i64 i0, .int .i64 i1, (.map M0), (.map M1)] 71)) (h :
 ∃ s1 t2, (∀ w', Mod [] w w' → (Instr.lookup 68 (.map M0) (.int .i64 i2) true).run pP w' = .ok (.tuple #[.string s1, .bool t2]) w') ∧
 brB (!t2) (
 ∀ w3, Adv [] [] w w3 → w3.heap[b0]? = some (.cells #[.int .i64 i0, .int .i64 i1, (.map M0), (.map M1)] 71) →
 R (.int .i64 210) w3)
 (
 yIK pP (Builtin.delete_ #[68, 3] 0 #[(.map M0), .int .i64 i2]) w fun v5 w4 => yaD [b0] w w4 ∧
 ∀ w6, Adv [] [] w4 w6 → w6.heap[b0]? = some (.cells #[.int .i64 i0, .int .i64 i1, (.map M0), (.map M1)] 71) →
 R (.int .i64 0) w6)) :
 CR pP 19 #[(.pointer (some ⟨b0, 0, none⟩)), .int .i64 i2] w R :=
 yaZ Tryz.wide_mixed (an := []) Tryz.func19 rfl rfl (by kernel_rfl) rfl hb (Eq.mpr (by kernel_rfl) h)
theorem yH7 {b0 : Nat} (hb : w.heap[b0]? = some (.cells #[.int .i64 i0, .int .i64 i1, (.map M0), (.map M1)] 71)) (h :
 ∀ w1, Adv [] [] w w1 →
 Calls pP 40 #[.int .i64 i2, .int .i64 i3] w1 fun e w2 => ∃ x3 x4, e = .returned (.agg #[.int .i64 x3, .int .i64 x4]) ∧ yaD [b0] w1 w2 ∧ (((.map M1) : Value) = (.map M1)) ∧
 yIK pP (Builtin.delete_ #[69, 85] 0 #[(.map M1), (.agg #[.int .i64 x3, .int .i64 x4])]) w2 fun v6 w5 => yaD [b0] w2 w5 ∧
 brB B0 (
 brB (i2 != i3) (
 ∀ w7, Adv [] [] w5 w7 →
 Calls pP 40 #[.int .i64 i2, .int .i64 i3] w7 fun e w8 => ∃ x9 a7, e = .returned (.agg #[.int .i64 x9, .int .i64 a7]) ∧ yaD [b0] w7 w8 ∧ (((.map M1) : Value) = (.map M1)) ∧
 yL7 pP (Instr.mapUpdate 69 (.map M1) (.agg #[.int .i64 x9, .int .i64 a7]) (.bool true)) w8 fun a6 => yaD [b0] w8 a6 ∧
 ∀ a3, Adv [] [] a6 a3 → a3.heap[b0]? = some (.cells #[.int .i64 i0, .int .i64 i1, (.map M0), (.map M1)] 71) →
 R (.tuple #[]) a3)
 (
 ∀ a4, Adv [] [] w5 a4 → a4.heap[b0]? = some (.cells #[.int .i64 i0, .int .i64 i1, (.map M0), (.map M1)] 71) →
 R (.tuple #[]) a4))
 (
 ∀ a5, Adv [] [] w5 a5 → a5.heap[b0]? = some (.cells #[.int .i64 i0, .int .i64 i1, (.map M0), (.map M1)] 71) →
 R (.tuple #[]) a5)) :
 CR pP 16 (Z13 (some ⟨b0, 0, none⟩) i2 i3 B0) w R :=
 yaZ Tryz.wide_mixed (an := []) Tryz.func16 rfl rfl (by kernel_rfl) rfl hb (Eq.mpr (by kernel_rfl) h)
theorem yH8 {b0 : Nat} (hb : w.heap[b0]? = some (.cells #[.int .i64 i0, .int .i64 i1, (.map M0), (.map M1)] 71)) (h :
 ∀ w1, Adv [] [] w w1 →
 Calls pP 40 #[.int .i64 i2, .int .i64 i3] w1 fun e w2 => ∃ x3 x4, e = .returned (.agg #[.int .i64 x3, .int .i64 x4]) ∧ yaD [b0] w1 w2 ∧ (((.map M1) : Value) = (.map M1)) ∧
 ∃ t5, (∀ w', Mod [] w2 w' → (Instr.lookup 69 (.map M1) (.agg #[.int .i64 x3, .int .i64 x4]) false).run pP w' = .ok (.bool t5) w') ∧
 ∀ w6, Adv [] [] w2 w6 → w6.heap[b0]? = some (.cells #[.int .i64 i0, .int .i64 i1, (.map M0), (.map M1)] 71) →
 R (.bool t5) w6) :
 CR pP 17 (Z11 (some ⟨b0, 0, none⟩) i2 i3) w R :=
 yaZ Tryz.wide_mixed (an := []) Tryz.func17 rfl rfl (by kernel_rfl) rfl hb (Eq.mpr (by kernel_rfl) h)
theorem yH9 {b0 : Nat} (hb : w.heap[b0]? = some (.cells #[.int .i64 i0, .int .i64 i1, (.map M0), (.map M1)] 71)) (h :
 Calls pP 32 #[(.map M0)] w fun e w1 => ∃ v2, e = .returned v2 ∧ yaD [b0] w w1 ∧
 Calls pP 31 #[v2] w1 fun e w3 => ∃ a4 n5 c6, e = .returned (.slice a4 n5 c6) ∧ yaD [b0] w1 w3 ∧
 ∀ w7, Adv [] [] w3 w7 → w7.heap[b0]? = some (.cells #[.int .i64 i0, .int .i64 i1, (.map M0), (.map M1)] 71) →
 R (.slice a4 n5 c6) w7) :
 CR pP 10 #[(.pointer (some ⟨b0, 0, none⟩))] w R :=
 yaZ Tryz.wide_mixed (an := []) Tryz.func10 rfl rfl (by kernel_rfl) rfl hb (Eq.mpr (by kernel_rfl) h)
theorem yIa {b0 : Nat} (hb : w.heap[b0]? = some (.cells #[.int .i64 i0, .int .i64 i1, (.map M0), (.map M1)] 71)) (h :
 ∀ w1, Adv [] [] w w1 →
 Calls pP 43 #[(.map M0)] w1 fun e w2 => ∃ m3 : Option Nat, e = .returned (.map m3) ∧ yaD [b0] w1 w2 ∧ (((.map M1) : Value) = (.map M1)) ∧ (((.int .i64 i1) : Value) = (.int .i64 i1)) ∧ (((.int .i64 i0) : Value) = (.int .i64 i0)) ∧
 Calls pP 44 #[(.map M1)] w2 fun e w4 => ∃ m5 : Option Nat, e = .returned (.map m5) ∧ yaD [b0] w2 w4 ∧ (((.int .i64 i1) : Value) = (.int .i64 i1)) ∧ (((.int .i64 i0) : Value) = (.int .i64 i0)) ∧
 ∀ b6, w4.heap.size ≤ b6 →
 ∀ w7, Adv [] [b6] w4 w7 → w7.heap[b0]? = some (.cells #[.int .i64 i0, .int .i64 i1, (.map M0), (.map M1)] 71) →
 w7.heap[b6]? = some (.cells #[.int .i64 i0, .int .i64 i1, (.map m3), (.map m5)] 71) →
 R (.pointer (some ⟨b6, 0, none⟩)) w7) :
 CR pP 26 #[(.pointer (some ⟨b0, 0, none⟩))] w R :=
 yaZ Tryz.wide_mixed (an := []) Tryz.func26 rfl rfl (by kernel_rfl) rfl hb (Eq.mpr (by kernel_rfl) h)
theorem yIb (h :
 ∀ b1, w.heap.size ≤ b1 →
 ∀ w2, Adv [] [b1] w w2 → w2.heap[b1]? = some (.cells #[.slice q0 n0 n1] 27) →
 R (.func (.func 63) #[] #[(.pointer (some ⟨b1, 0, none⟩))]) w2) :
 CR pP 41 #[.slice q0 n0 n1] w R :=
 yaA Tryz.wide_mixed (an := []) Tryz.func41 rfl rfl (by kernel_rfl) rfl (Eq.mpr (by kernel_rfl) h)
end
end Go.Proofs.YtjellhflalbbmaaGreat
namespace Go.Proofs.YtjellhflalbbmaaGreat
open Go Go.RowKit Go.Maps Go.MapKept
set_option linter.unusedVariables false
set_option linter.unusedSimpArgs false
abbrev wki : Int → Value := fun k => .int .i64 k
theorem ypP : ∀ a b : Int, wki a = wki b → a = b := by intro a b h; simpa [wki] using h
abbrev wks : ByteArray → Value := fun s => .string s
abbrev wkp : Int × Int → Value := fun p => .agg #[.int .i64 p.1, .int .i64 p.2]
theorem yuG : ∀ a b : Int × Int, wkp a = wkp b → a = b := by rintro ⟨a, b⟩ ⟨c, d⟩ h; simp [wkp] at h; simp [h]
abbrev wkb : Bool → Value := fun t => .bool t
def r64 (n : Int) : Prop := -9223372036854775808 ≤ n ∧ n ≤ 9223372036854775807
theorem wfr {n : Int} (h : r64 n) : (Lit.int .i64 n).wf = true := by
 simp [Lit.wf, IntKind.min, IntKind.max, IntKind.signed, IntKind.bits]; exact h
theorem yEL : Keyed pP 3 := int_keyed Tryz.underlying3
theorem ypQ {k : Int} (h : r64 k) : keyOf pP 3 (wki k) = some (.int .i64 k) := keyOf_int_mk Tryz.underlying3 (wfr h)
theorem yIc : Keyed pP 85 :=
 Keyed.of_law (deep_law_laid (by kernel_rfl) (m := 2) (by omega) (of_decide_eq_true (by kernel_rfl)) (by kernel_rfl) (by rw [Tryz.underlying85]))
set_option maxRecDepth 100000 in
theorem yDb {p : Int × Int} (h1 : r64 p.1) (h2 : r64 p.2) : ∃ l, keyOf pP 85 (wkp p) = some l := by
 obtain ⟨a, b⟩ := p
 have hk : Tryz.prog.keyType 85 = true := by kernel_rfl
 have hc : Tryz.prog.cellsOf 85 = 2 := by kernel_rfl
 have hc1 : Tryz.prog.cellsOf 3 = 1 := by kernel_rfl
 have hf : (wkp (a, b)).formed pP 85 = true := by simp [Value.formed, Tryz.underlying85, hc, wkp]
 obtain ⟨s, hs⟩ : ∃ s, Tryz.prog.types.size = s + 1 := ⟨Tryz.prog.types.size - 1, (Nat.succ_pred_eq_of_pos (of_decide_eq_true (by kernel_rfl))).symm⟩
 have hl : ∃ l, Tryz.prog.keyLits (Tryz.prog.types.size + 1) 85 (wkp (a, b)).cells.toList = some l := by
  rw [hs]
  simp [Program.keyLits, Tryz.underlying85, Tryz.underlying3, hc, hc1, wkp, Value.cells, List.range, List.range.loop, wfr h1, wfr h2]
 obtain ⟨l, hl⟩ := hl
 exact ⟨.string (keyBytes l), by unfold keyOf; simp only [Tryz.underlying85, hk, hf, Bool.and_self, if_true, hl, Option.map_some]⟩
theorem ybL {w : World} {b : Nat} {o : Obj} : Mod [b] w (Go.ChangeMaps.setBlock w b o) :=
 ⟨rfl, rfl, rfl, by simp [Go.ChangeMaps.setBlock], fun k hk hS => ylK (by simpa using hS)⟩
theorem yLX (w : World) : (zeroValue 9).run pP w = .ok (.string ⟨#[]⟩) w := by kernel_rfl
theorem yLY (w : World) : (zeroValue 4).run pP w = .ok (.bool false) w := by kernel_rfl
section
variable {κ β γ : Type} [DecidableEq κ]
theorem ypR (f : β → γ) (L : List (κ × β)) (k : κ) : lkp (L.map fun p => (p.1, f p.2)) k = (lkp L k).map f := by
 induction L with
 | nil => rfl
 | cons q r ih => rw [List.map_cons, lkp, lkp, ih]; split <;> rfl
theorem yId (f : β → γ) (L : List (κ × β)) (k : κ) : del (L.map fun p => (p.1, f p.2)) k = (del L k).map fun p => (p.1, f p.2) := by
 induction L with
 | nil => rfl
 | cons q r ih => rw [List.map_cons, del, del, ih]; split <;> simp
theorem yIe {L : List (κ × β)} {k : κ} {q : κ × β} (h : q ∈ del L k) : q ∈ L := by
 induction L with
 | nil => exact h
 | cons p r ih =>
  unfold del at h
  split at h
  ·exact List.mem_cons_of_mem _ h
  ·rcases List.mem_cons.1 h with h | h
   ·rw [h]; exact List.mem_cons_self
   ·exact List.mem_cons_of_mem _ (ih h)
theorem yIf (L : List (κ × β)) (k : κ) : (del L k).Sublist L := by
 induction L with
 | nil => exact List.Sublist.refl _
 | cons p r ih =>
  unfold del; split
  ·exact List.sublist_cons_self ..
  ·exact ih.cons_cons _
end
def prW (a b : Int) : Int × Int := (if b < a then b else a, if a < b then b else a)
def yqG (A : List (Int × Int)) (a b : Int) : Bool := decide (prW a b ∈ A)
def ylD (A : List (Int × Int)) (a b : Int) (is : Bool) : List (Int × Int) := if is = true ∧ a ≠ b then A.erase (prW a b) ++ [prW a b] else A.erase (prW a b)
abbrev PL := List (Int × PMail)
def yfU (room : Int) (L : PL) (m : PMail) : Int := if ybK m ≠ 0 then ybK m else if (L.length : Int) ≥ room then 2 else 0
def twE (L : PL) (A : List (Int × Int)) (id : Int) : Int := match lkp L id with
 | none => 210
 | some m => if yqG A m.fr m.to = true then 211 else 0
def twM (L : PL) (A : List (Int × Int)) (id : Int) : PMail := match lkp L id with
 | none => ycW
 | some m => if yqG A m.fr m.to = true then ycW else m
structure WiAt (w : World) (b : Nat) (room : Int) (next bl ba : Nat) (L : PL) (A : List (Int × Int)) : Prop where
 cells : w.heap[b]? = some (.cells #[.int .i64 room, .int .i64 (next : Nat), .map (some bl), .map (some ba)] 71)
 lm : ycV pP 3 wki wks w bl (L.map fun p => (p.1, ydG p.2))
 am : ycV pP 85 wkp wkb w ba (A.map fun p => (p, true))
 ne : bl ≠ ba
 good : ∀ p ∈ L, ybK p.2 = 0 ∧ (ydG p.2).size ≤ 900000 ∧ 1 ≤ p.1 ∧ p.1 ≤ next
 rise : L.Pairwise fun p q => p.1 < q.1
 nx : next ≤ 1000000
theorem WiAt.nb {w : World} {b : Nat} {room : Int} {next bl ba : Nat} {L : PL} {A : List (Int × Int)} (h : WiAt w b room next bl ba L A) : b ≠ bl ∧ b ≠ ba := by
 constructor
 ·rintro rfl; obtain ⟨es, cl, hb, _⟩ := h.lm; rw [h.cells] at hb; cases hb
 ·rintro rfl; obtain ⟨es, cl, hb, _⟩ := h.am; rw [h.cells] at hb; cases hb
theorem WiAt.keep {w w' : World} {b : Nat} {room : Int} {next bl ba : Nat} {L : PL} {A : List (Int × Int)} {S : List Nat} (h : WiAt w b room next bl ba L A) (M : Mod S w w') (h1 : b ∉ S) (h2 : bl ∉ S) (h3 : ba ∉ S) : WiAt w' b room next bl ba L A :=
 ⟨M.keep h.cells h1, h.lm.of_block (M.block _ h.lm.lt h2), h.am.of_block (M.block _ h.am.lt h3), h.ne, h.good, h.rise, h.nx⟩
theorem WiAt.keep0 {w w' : World} {b : Nat} {room : Int} {next bl ba : Nat} {L : PL} {A : List (Int × Int)} (h : WiAt w b room next bl ba L A) (M : Mod [] w w') : WiAt w' b room next bl ba L A := h.keep M (by simp) (by simp) (by simp)
theorem WiAt.nodup {w : World} {b : Nat} {room : Int} {next bl ba : Nat} {L : PL} {A : List (Int × Int)} (h : WiAt w b room next bl ba L A) : A.Nodup := by
 have := h.am.nodup
 rw [List.map_map] at this
 simpa [Function.comp_def] using this
theorem yw3 : ∀ (l : PL) (lo hi : Int), (∀ p ∈ l, lo < p.1 ∧ p.1 ≤ hi) → l.Pairwise (fun p q => p.1 < q.1) → lo ≤ hi → (l.length : Int) ≤ hi - lo
 | [], lo, hi, _, _, h => by simp; omega
 | p :: r, lo, hi, hb, hp, h => by
  have h1 := hb p (by simp)
  rw [List.pairwise_cons] at hp
  have := yw3 r p.1 hi (fun q hq => ⟨hp.1 q hq, (hb q (by simp [hq])).2⟩) hp.2 (by omega)
  rw [List.length_cons]; omega
theorem WiAt.len {w : World} {b : Nat} {room : Int} {next bl ba : Nat} {L : PL} {A : List (Int × Int)} (h : WiAt w b room next bl ba L A) : L.length ≤ next := by
 have := yw3 L 0 next (fun p hp => by have := (h.good p hp).2.2; omega) h.rise (by omega)
 omega
theorem yuH (room : Int) (w : World) :
  Calls pP 8 #[.int .i64 room] w fun e w' => ∃ v, e = .returned v ∧ Mod [] w w' ∧ if 1 ≤ room ∧ room ≤ 4096 then ∃ b bl ba, v = .tuple #[.pointer (some ⟨b, 0, none⟩), .int .i64 0] ∧ w.heap.size ≤ b ∧ w.heap.size ≤ bl ∧ w.heap.size ≤ ba ∧ WiAt w' b room 0 bl ba [] [] else v = .tuple #[.pointer none, .int .i64 1] := by
 refine yH1 ?_
 refine yaE (fun g => ⟨Mod.refl _, by rw [if_neg (by omega)]⟩) fun g => ?_
 refine yaE (fun g2 => ⟨Mod.refl _, by rw [if_neg (by omega)]⟩) fun g2 => ?_
 refine ycR fun b1 w2 c1 M1 f1 => ?_
 refine ycR fun b3 w4 c3 M3 f3 => ?_
 intro b5 f5 w6 A6 h6
 have s1 := M1.size
 have s3 := M3.size
 have l1 := yaK c1
 refine ⟨(M1.go0 M3 (by simp)).go0 A6.mod (by simp), ?_⟩
 rw [if_pos ⟨by omega, by omega⟩]
 exact ⟨b5, b1, b3, rfl, by omega, by omega, by omega, h6, ycV.of_new (A6.mod.keep0 (M3.keep0 c1)), ycV.of_new (A6.mod.keep0 c3), by omega, by simp, by simp, by omega⟩
theorem yuI (a b : Int) (w : World) : Calls pP 40 #[.int .i64 a, .int .i64 b] w fun e w' => e = .returned (wkp (prW a b)) ∧ Mod [] w w' := by
 refine yaQ (yH2 ?_)
 intro b1 f1 w2 A2
 exact ⟨rfl, A2.mod⟩
theorem yEM {a b : Int} (ha : r64 a) (hb : r64 b) : r64 (prW a b).1 ∧ r64 (prW a b).2 := by
 unfold prW; constructor <;> simp only <;> split <;> assumption
theorem yw4 (A : List (Int × Int)) (p : Int × Int) : lkp (A.map fun p => (p, true)) p = if p ∈ A then some true else none := by
 induction A with
 | nil => rfl
 | cons q r ih =>
  rw [List.map_cons, lkp, ih]
  by_cases h : q = p
  ·simp [h]
  ·have : ¬ p = q := fun e => h e.symm
   simp [h, this]
theorem yEN (A : List (Int × Int)) (p : Int × Int) : del (A.map fun p => (p, true)) p = (A.erase p).map fun p => (p, true) := by
 induction A with
 | nil => rfl
 | cons q r ih =>
  rw [List.map_cons, del, ih, List.erase_cons]
  by_cases h : q = p
  ·simp [h]
  ·simp [h]
theorem ylE {w : World} {b : Nat} {room : Int} {next bl ba : Nat} {L : PL} {A : List (Int × Int)} (h : WiAt w b room next bl ba L A) {x y : Int} (hx : r64 x) (hy : r64 y) :
  Calls pP 17 #[.pointer (some ⟨b, 0, none⟩), .int .i64 x, .int .i64 y] w fun e w' => e = .returned (.bool (yqG A x y)) ∧ Mod [] w w' := by
 refine yaQ (yH8 h.cells ?_)
 intro w1 A1
 refine (yuI x y w1).mono ?_
 rintro _ w2 ⟨rfl, M2⟩
 refine ⟨_, _, rfl, yaD.of0 M2, rfl, ?_⟩
 have N2 : Mod [] w w2 := A1.mod.go0 M2 (by simp)
 obtain ⟨l, hl⟩ := yDb (yEM hx hy).1 (yEM hx hy).2
 refine ⟨yqG A x y, fun w' M => ?_, fun w3 A3 _ => ⟨rfl, N2.go0 A3.mod (by simp)⟩⟩
 have := ((h.am.of_block ((N2.go0 M (by simp)).block _ h.am.lt (by simp)))).look (T := 69) false yIc yuG Tryz.underlying69 (yLY w') hl
 refine this.trans ?_
 rw [yw4]
 unfold yqG
 by_cases hp : prW x y ∈ A <;> simp [hp]
theorem ylF {w : World} {b : Nat} {room : Int} {next bl ba : Nat} {L : PL} {A : List (Int × Int)} (h : WiAt w b room next bl ba L A) {x y : Int} (hx : r64 x) (hy : r64 y) (is : Bool) :
  Calls pP 16 #[.pointer (some ⟨b, 0, none⟩), .int .i64 x, .int .i64 y, .bool is] w fun e w' => e = .returned (.tuple #[]) ∧ Mod [ba] w w' ∧ WiAt w' b room next bl ba L (ylD A x y is) := by
 refine yaQ (yH7 h.cells ?_)
 intro w1 A1
 refine (yuI x y w1).mono ?_
 rintro _ w2 ⟨rfl, M2⟩
 refine ⟨_, _, rfl, yaD.of0 M2, rfl, ?_⟩
 have N2 : Mod [] w w2 := A1.mod.go0 M2 (by simp)
 have h2 := h.keep0 N2
 obtain ⟨nb1, nb2⟩ := h.nb
 obtain ⟨l, hl⟩ := yDb (yEM hx hy).1 (yEM hx hy).2
 obtain ⟨o, ho1, ho2⟩ := h2.am.delete yIc yuG Tryz.underlying69 hl 0
 rw [yEN] at ho2
 refine ⟨_, _, ho1, yaD.of ybL (by simp; omega), ?_⟩
 have M3 : Mod [ba] w2 (Go.ChangeMaps.setBlock w2 ba o) := ybL
 have h3 : WiAt (Go.ChangeMaps.setBlock w2 ba o) b room next bl ba L (A.erase (prW x y)) := ⟨M3.keep h2.cells (by simp; omega), h2.lm.of_block (M3.block _ h2.lm.lt (by simp; exact h.ne)), ho2, h.ne, h.good, h.rise, h.nx⟩
 have N3 : Mod [ba] w (Go.ChangeMaps.setBlock w2 ba o) := (N2.trans M3).less (by simp)
 have fin : ∀ {w'}, Adv [] [] (Go.ChangeMaps.setBlock w2 ba o) w' → ¬ (is = true ∧ x ≠ y) → Mod [ba] w w' ∧ WiAt w' b room next bl ba L (ylD A x y is) := fun A' hn => by
  rw [ylD, if_neg hn]
  exact ⟨(N3.trans A'.mod).less (by simp), h3.keep0 A'.mod⟩
 refine yaC (fun g1 => ?_) fun g1 => fun w' A' _ => ⟨rfl, fin A' (by simp [g1])⟩
 refine yaC (fun g2 => ?_) fun g2 => fun w' A' _ => ⟨rfl, fin A' (by simp at g2; simp [g2])⟩
 intro w7 A7
 refine (yuI x y w7).mono ?_
 rintro _ w8 ⟨rfl, M8⟩
 refine ⟨_, _, rfl, yaD.of0 M8, rfl, ?_⟩
 have K8 : Mod [] (Go.ChangeMaps.setBlock w2 ba o) w8 := A7.mod.go0 M8 (by simp)
 have h8 := h3.keep0 K8
 obtain ⟨o', ho3, ho4⟩ := h8.am.update yIc yuG Tryz.underlying69 true hl
 have hnm : prW x y ∉ A.erase (prW x y) := fun hm => (List.Nodup.not_mem_erase h.nodup) hm
 rw [yfD (by rw [yw4, if_neg hnm])] at ho4
 refine ⟨_, ho3, yaD.of ybL (by simp; omega), ?_⟩
 intro w12 A12 _
 have M9 : Mod [ba] w8 (Go.ChangeMaps.setBlock w8 ba o') := ybL
 have hc : ylD A x y is = A.erase (prW x y) ++ [prW x y] := by rw [ylD, if_pos ⟨g1, by simpa using g2⟩]
 refine ⟨rfl, (((N3.trans K8).trans M9).trans A12.mod).less (by simp), ?_⟩
 rw [hc]
 refine WiAt.keep0 ⟨M9.keep h8.cells (by simp; omega), h8.lm.of_block (M9.block _ h8.lm.lt (by simp; exact h.ne)), ?_, h.ne, h.good, h.rise, h.nx⟩ A12.mod
 rw [List.map_append]; exact ho4
end Go.Proofs.YtjellhflalbbmaaGreat
namespace Go.Proofs.YtjellhflalbbmaaGreat
open Go Go.RowKit Go.Maps Go.MapKept
set_option linter.unusedVariables false
set_option linter.unusedSimpArgs false
theorem WiAt.big {w : World} {b : Nat} {room : Int} {next bl ba : Nat} {L : PL} {A : List (Int × Int)} (h : WiAt w b room next bl ba L A) {k : Int} (hk : (next : Int) < k) : lkp L k = none := ynP.2 fun p hp e => by
 have := (h.good p hp).2.2; omega
theorem WiAt.keys {w : World} {b : Nat} {room : Int} {next bl ba : Nat} {L : PL} {A : List (Int × Int)} (h : WiAt w b room next bl ba L A) : (L.map (·.1)).Nodup := by
 have := h.lm.nodup
 rw [List.map_map] at this
 simpa [Function.comp_def] using this
set_option maxHeartbeats 1000000 in
theorem yfN {w : World} {b : Nat} {room : Int} {next bl ba : Nat} {L : PL} {A : List (Int × Int)} (h : WiAt w b room next bl ba L A) {m : PMail} {s f p : Sl} (hm : MailAt w m s f p) (hlc : m.calls.length ≤ 100000) (hsz : ybK m = 0 → (ydG m).size ≤ 900000) (hn : next < 1000000) :
  Calls pP 12 #[.pointer (some ⟨b, 0, none⟩), m.v s f p] w fun e w' => e = .returned (.tuple #[.int .i64 (if yfU room L m = 0 then ((next + 1 : Nat) : Int) else 0), .int .i64 (yfU room L m)]) ∧ Mod [b, bl] w w' ∧
   WiAt w' b room (if yfU room L m = 0 then next + 1 else next) bl ba (if yfU room L m = 0 then L ++ [(((next + 1 : Nat) : Int), m)] else L) A := by
 refine yaQ (yH3 h.cells ?_)
 intro b1 f1 w2 A2
 obtain ⟨nb1, nb2⟩ := h.nb
 refine (yC5 (hm.keep0 A2.mod) hlc).mono ?_
 rintro _ w3 ⟨rfl, M3⟩
 have N3 : Mod [] w w3 := A2.mod.go0 M3 (by simp)
 have h3 := h.keep0 N3
 refine ⟨_, _, rfl, yaD.of0 M3, yaC (fun g => fun w6 A6 _ => ?_) fun g => ?_⟩
 ·have g : ybK m ≠ 0 := by simpa using g
  have e : yfU room L m = ybK m := by rw [yfU, if_pos g]
  rw [e, if_neg g, if_neg g, if_neg g]
  exact ⟨rfl, (N3.trans A6.mod).less (by simp), h3.keep0 A6.mod⟩
 have g : ybK m = 0 := by simpa using g
 have hE : yfU room L m = if (L.length : Int) ≥ room then 2 else 0 := by rw [yfU, if_neg (by simpa using g)]
 refine ⟨L.length, fun w' M => ?_, ?_⟩
 ·have := ((h3.lm.of_block (M.block _ h3.lm.lt (by simp)))).len (T := 68) Tryz.underlying68 3
  rw [this, List.length_map]
 refine yaE (fun g2 => fun w6 A6 _ => ?_) fun g2 => ?_
 ·rw [hE, if_pos g2, if_neg (by decide), if_neg (by decide), if_neg (by decide)]
  exact ⟨rfl, (N3.trans A6.mod).less (by simp), h3.keep0 A6.mod⟩
 rw [hE, if_neg g2, if_pos rfl, if_pos rfl, if_pos rfl]
 intro w9 A9
 have e1 : IntKind.wrap .i64 ((next : Int) + 1) = ((next + 1 : Nat) : Int) := by rw [yaH (by omega) (by omega)]; omega
 rw [e1, if_pos g]
 have l9 : ycV pP 3 wki wks w9 bl (L.map fun p => (p.1, ydG p.2)) := h3.lm.of_block (A9.mod.block _ h3.lm.lt (by simp; omega))
 have a9 : ycV pP 85 wkp wkb w9 ba (A.map fun p => (p, true)) := h3.am.of_block (A9.mod.block _ h3.am.lt (by simp; omega))
 obtain ⟨o, ho1, ho2⟩ := l9.update yEL ypP Tryz.underlying68 (k := ((next + 1 : Nat) : Int)) (ydG m) (ypQ (by unfold r64; omega))
 have hbig := h.big (k := ((next + 1 : Nat) : Int)) (by omega)
 rw [yfD (by rw [ypR, hbig]; rfl)] at ho2
 have M10 : Mod [bl] w9 (Go.ChangeMaps.setBlock w9 bl o) := ybL
 have hb1 : b1 ≠ bl := by have := h.lm.lt; omega
 refine ⟨_, ho1, yaD.of M10 (by simp; omega), fun w11 A11 h11 => ⟨rfl, (((N3.trans A9.mod).trans M10).trans A11.mod).less (by simp), ?_⟩⟩
 refine ⟨h11, ?_, (a9.of_block (M10.block _ a9.lt (by simp; exact fun e => h.ne e.symm))).of_block (A11.mod.block _ (by rw [ynQ]; exact a9.lt) (by simp)), h.ne, ?_, ?_, by omega⟩
 ·rw [List.map_append]
  exact ho2.of_block (A11.mod.block _ ho2.lt (by simp))
 ·intro q hq
  rcases List.mem_append.1 hq with hq | hq
  ·have := h.good q hq; exact ⟨this.1, this.2.1, this.2.2.1, by omega⟩
  ·simp at hq; subst hq; exact ⟨g, hsz g, by show (1 : Int) ≤ ((next + 1 : Nat) : Int); omega, by show ((next + 1 : Nat) : Int) ≤ _; omega⟩
 ·rw [List.pairwise_append]
  refine ⟨h.rise, by simp, fun x hx y hy => ?_⟩
  simp at hy; subst hy
  have := (h.good x hx).2.2
  show x.1 < ((next + 1 : Nat) : Int); omega
theorem yLZ {m : PMail} (h : ybK m = 0) : r64 m.fr ∧ r64 m.to := by
 obtain ⟨h0, _⟩ := ycI h
 obtain ⟨_, h1, _, _⟩ := ycQ h0
 have a := yeO (yfK h1 (k := 1) (n := m.fr) rfl)
 have b := yeO (yfK h1 (k := 2) (n := m.to) rfl)
 unfold r64; omega
theorem ygA (w : World) (B : Nat) (m : PMail) (hc : m.calls = []) (hr : m.r = ye4) : MailOwn w B m ybS ybS ybS :=
 ⟨⟨[], Row.nil .., by simp, by simp [hc]⟩, by rw [hr]; exact ⟨Row.nil .., Row.nil .., by simp [ye4], by simp [ye4]⟩⟩
def TwV (w : World) (B : Nat) (L : PL) (A : List (Int × Int)) (id : Int) (v : Value) : Prop := ∃ s f p : Sl, v = .tuple #[(twM L A id).v s f p, .int .i64 (twE L A id)] ∧ MailOwn w B (twM L A id) s f p ∧ (twM L A id).calls.length ≤ 100000
set_option maxHeartbeats 1000000 in
theorem yh4 {w : World} {b : Nat} {room : Int} {next bl ba : Nat} {L : PL} {A : List (Int × Int)} (h : WiAt w b room next bl ba L A) {id : Int} (hid : r64 id) :
  Calls pP 13 #[.pointer (some ⟨b, 0, none⟩), .int .i64 id] w fun e w' => ∃ v, e = .returned v ∧ TwV w' w.heap.size L A id v ∧ Mod [] w w' := by
 refine yH4 h.cells ?_
 intro b1 f1 w2 A2
 have h2 := h.keep0 A2.mod
 have s2 := A2.mod.size
 have lb := yaK h.cells
 have l1 := A2.lt b1 (by simp)
 have k1 : ∀ k ∈ [b1], w.heap.size ≤ k := by simpa using f1
 refine ⟨(lkp (L.map fun p => (p.1, ydG p.2)) id).getD ⟨#[]⟩, (lkp L id).isSome, fun w' M => ?_, ?_⟩
 ·have := ((h2.lm.of_block (M.block _ h2.lm.lt (by simp)))).look (T := 68) true yEL ypP Tryz.underlying68 (yLX w') (ypQ hid)
  refine this.trans ?_
  rw [ypR]
  cases lkp L id <;> rfl
 have z : ∀ {w0 w'}, Mod [] w w0 → Adv [b1] [] w0 w' → twM L A id = ycW → ∀ e, twE L A id = e → TwV w' w.heap.size L A id (.tuple #[ycW.v ybS ybS ybS, .int .i64 e]) ∧ Mod [] w w' := fun {w0 w'} N A' hm e he =>
  ⟨⟨ybS, ybS, ybS, by rw [hm, he], by rw [hm]; exact ygA _ _ _ rfl rfl, by rw [hm]; simp [ycW]⟩, N.go0 A'.mod k1⟩
 cases hl : lkp L id with
 | none =>
  refine brT rfl ?_
  intro w5 A5 _
  exact z A2.mod A5 (by rw [twM, hl]) 210 (by rw [twE, hl])
 | some m =>
  refine brF rfl ?_
  have hg := h.good _ (yxF hl)
  have es : (lkp (L.map fun p => (p.1, ydG p.2)) id).getD ⟨#[]⟩ = ydG m := by rw [ypR, hl]; rfl
  rw [es]
  refine (yHV hg.2.1 w2).mono ?_
  rintro _ w6 ⟨_, rfl, hv, M6⟩
  have s6 := M6.size
  have N6 : Mod [] w w6 := A2.mod.go0 M6 (by simp)
  rcases hv with ⟨m2, s6', f6, p6, g6, he, rfl, hO, hlc⟩ | ⟨hno, _⟩
  rotate_left
  ·exact absurd rfl (hno m hg.1)
  have em := (yzD hg.1 g6).1 he
  subst em
  refine ⟨_, _, _, _, _, _, _, _, _, _, _, _, _, _, _, _, _, _, _, _, _, _, _, _, rfl, yaD.of0 M6, ?_⟩
  intro b31 f31 w32 A32 _
  have N32 : Mod [] w w32 := N6.go0 A32.mod (by simp)
  obtain ⟨r1, r2⟩ := yLZ hg.1
  refine (ylE (h.keep0 N32) r1 r2).mono ?_
  rintro _ w33 ⟨rfl, M33⟩
  have N33 := N32.go0 M33 (by simp)
  refine ⟨_, rfl, yaD.of0 M33, _, _, _, _, N33.keep0 h.cells, ?_⟩
  refine yaC (fun g => fun w39 A39 _ => z N33 A39 (by rw [twM, hl]; simp [g]) 211 (by rw [twE, hl]; simp [g])) fun g => fun w40 A40 _ => ?_
  have e1 : twM L A id = m := by rw [twM, hl]; simp [g]
  have e2 : twE L A id = 0 := by rw [twE, hl]; simp [g]
  refine ⟨⟨s6', f6, p6, by rw [e1, e2]; rfl, ?_, by rw [e1]; exact hlc⟩, N33.go0 A40.mod k1⟩
  rw [e1]
  exact ((((hO.keep0 A32.mod).keep0 M33).keepB A40.mod (by simp; omega)).rebase s2)
theorem WiAt.del {w : World} {b : Nat} {room : Int} {next bl ba : Nat} {L : PL} {A : List (Int × Int)} (h : WiAt w b room next bl ba L A) {id : Int} (hid : r64 id) (ty : TypeId) :
  ∃ o, (Builtin.delete_ #[68, 3] ty #[.map (some bl), .int .i64 id]).run pP w = .ok (.tuple #[]) (Go.ChangeMaps.setBlock w bl o) ∧ WiAt (Go.ChangeMaps.setBlock w bl o) b room next bl ba (Go.Proofs.YtjellhflalbbmaaGreat.del L id) A := by
 obtain ⟨nb1, nb2⟩ := h.nb
 obtain ⟨o, ho1, ho2⟩ := h.lm.delete yEL ypP Tryz.underlying68 (ypQ hid) ty
 rw [yId] at ho2
 have M : Mod [bl] w (Go.ChangeMaps.setBlock w bl o) := ybL
 exact ⟨o, ho1, M.keep h.cells (by simp; omega), ho2, h.am.of_block (M.block _ h.am.lt (by simp; exact fun e => h.ne e.symm)), h.ne, fun p hp => h.good p (yIe hp), h.rise.sublist (yIf L id), h.nx⟩
theorem ypS {w : World} {b : Nat} {room : Int} {next bl ba : Nat} {L : PL} {A : List (Int × Int)} (h : WiAt w b room next bl ba L A) {id : Int} (hid : r64 id) :
  Calls pP 19 #[.pointer (some ⟨b, 0, none⟩), .int .i64 id] w fun e w' => e = .returned (.int .i64 (if (lkp L id).isSome then 0 else 210)) ∧ Mod [bl] w w' ∧ WiAt w' b room next bl ba (del L id) A := by
 refine yaQ (yH6 h.cells ?_)
 obtain ⟨nb1, nb2⟩ := h.nb
 refine ⟨(lkp (L.map fun p => (p.1, ydG p.2)) id).getD ⟨#[]⟩, (lkp L id).isSome, fun w' M => ?_, ?_⟩
 ·have := ((h.lm.of_block (M.block _ h.lm.lt (by simp)))).look (T := 68) true yEL ypP Tryz.underlying68 (yLX w') (ypQ hid)
  refine this.trans ?_
  rw [ypR]
  cases lkp L id <;> rfl
 refine yaC (fun g => fun w3 A3 _ => ?_) fun g => ?_
 ·have g : (lkp L id).isSome = false := by simpa using g
  have hn : lkp L id = none := by cases hh : lkp L id <;> simp_all
  rw [if_neg (by simp [g]), yg1 hn]
  exact ⟨rfl, A3.mod.less (by simp), h.keep0 A3.mod⟩
 ·have g : (lkp L id).isSome = true := by simpa using g
  rw [if_pos g]
  obtain ⟨o, ho1, ho2⟩ := h.del hid 0
  refine ⟨_, _, ho1, yaD.of ybL (by simp; omega), fun w6 A6 _ => ⟨rfl, ((ybL (w := w)).trans A6.mod).less (by simp), ho2.keep0 A6.mod⟩⟩
def tkL (L : PL) (A : List (Int × Int)) (id : Int) : PL := if twE L A id = 0 then del L id else L
set_option maxHeartbeats 1000000 in
theorem yj1 {w : World} {b : Nat} {room : Int} {next bl ba : Nat} {L : PL} {A : List (Int × Int)} (h : WiAt w b room next bl ba L A) {id : Int} (hid : r64 id) :
  Calls pP 15 #[.pointer (some ⟨b, 0, none⟩), .int .i64 id] w fun e w' => ∃ v, e = .returned v ∧ TwV w' w.heap.size L A id v ∧ Mod [bl] w w' ∧ WiAt w' b room next bl ba (tkL L A id) A := by
 refine yH5 h.cells ?_
 intro b1 f1 w2 A2 _
 have s2 := A2.mod.size
 have l1 := A2.lt b1 (by simp)
 have k1 : ∀ k ∈ [b1], w.heap.size ≤ k := by simpa using f1
 obtain ⟨nb1, nb2⟩ := h.nb
 have ll := h.lm.lt
 have la := h.am.lt
 have lb := yaK h.cells
 refine (yh4 (h.keep0 A2.mod) hid).mono ?_
 rintro _ w3 ⟨_, rfl, ⟨s3, f3, p3, rfl, hO, hlc⟩, M3⟩
 have N3 : Mod [] w w3 := A2.mod.go0 M3 (by simp)
 have s3' := M3.size
 refine ⟨_, _, _, _, _, _, _, _, _, _, _, _, _, _, _, _, _, _, _, _, _, _, _, _, rfl, yaD.of0 M3, _, _, _, _, N3.keep0 h.cells, ?_⟩
 intro b32 f32
 refine yaC (fun g => ?_) fun g => ?_
 ·have g : twE L A id = 0 := by simpa using g
  intro w33 A33 _
  have N33 : Mod [] w w33 := N3.go0 A33.mod (by simp)
  obtain ⟨o, ho1, ho2⟩ := (h.keep0 N33).del hid 0
  have M34 : Mod [bl] w33 (Go.ChangeMaps.setBlock w33 bl o) := ybL
  refine ⟨_, _, ho1, yaD.of M34 (by simp; omega), fun w36 A36 _ => ⟨⟨s3, f3, p3, rfl, ?_, hlc⟩, ?_, ?_⟩⟩
  ·exact ((((hO.keep0 A33.mod).keepB M34 (by simp; omega)).keepB A36.mod (by simp; omega)).rebase s2)
  ·exact ((N33.trans M34).trans A36.mod).less fun k hk hlk => by simp at hk ⊢; omega
  ·rw [tkL, if_pos g]; exact ho2.keep A36.mod (by simp; omega) (by simp; omega) (by simp; omega)
 ·have g : ¬ twE L A id = 0 := by simpa using g
  intro w37 A37 _
  refine ⟨⟨s3, f3, p3, rfl, ((hO.keepB A37.mod (by simp; omega)).rebase s2), hlc⟩, (N3.trans A37.mod).less fun k hk hlk => by simp at hk ⊢; omega, ?_⟩
  rw [tkL, if_neg g]; exact (h.keep0 N3).keep A37.mod (by simp; omega) (by simp; omega) (by simp; omega)
end Go.Proofs.YtjellhflalbbmaaGreat
namespace Go.Proofs
open Go.Shelf
shelf_lay_g SlLaysZI.n6 Ggz 6 at Tryz 31 as Tryz.sortedL
shelf_lay_g SlLaysM.n5 Slgm 5 at Tryz 46 as Tryz.sortL
end Go.Proofs
namespace Go.Proofs.YtjellhflalbbmaaGreat
open Go Go.RowKit Go.Maps Go.Sort Go.Shelf Go.MapKept Go.WideElems Go.WideShapes
set_option linter.unusedVariables false
set_option linter.unusedSimpArgs false
theorem ypT {P : Program} {t : TypeId} (ht : P.underlying t = some (.int .i64)) {k : Int} {l : Lit} (h : keyOf P t (.int .i64 k) = some l) : l = .int .i64 k ∧ (Lit.int .i64 k).wf = true := by
 simp [keyOf, ht, mapKey] at h
 obtain ⟨h1, h2⟩ := h
 exact ⟨h2.symm, h1⟩
theorem ycV.owns {P : Program} {t : TypeId} {β : Type} {ev : β → Value} {w : World} {b : Nat} {L : List (Int × β)} (h : ycV P t (fun k : Int => .int .i64 k) ev w b L) (ht : P.underlying t = some (.int .i64)) (hl : L.length ≤ maxLen) :
  ∃ D : DataW Unit, w.ownsMap P t (fun _ => some (.nil, [])) b L.length D ∧ (intKeys D).Perm (L.map (·.1)) ∧ Maps.size D = L.length := by
 obtain ⟨es, clock, hb, he, hk, hs⟩ := h
 have hlen : es.toList.length = L.length := by simpa using congrArg List.length he
 have hrd : ∀ x ∈ es.toList, ∃ k : Int, x.key = .int .i64 k ∧ (Lit.int .i64 k).wf = true ∧ Go.WideElems.rd (H := Unit) P t (fun _ => some (.nil, [])) x = some (.int .i64 k, .nil) := by
  intro x hx
  have hm : (x.key, x.val) ∈ es.toList.map fun e => (e.key, e.val) := List.mem_map.2 ⟨x, hx, rfl⟩
  rw [he] at hm
  obtain ⟨p, hp, hpe⟩ := List.mem_map.1 hm
  simp only [Prod.mk.injEq] at hpe
  obtain ⟨l, hl⟩ := hk p hp
  obtain ⟨rfl, hw⟩ := ypT ht hl
  refine ⟨p.1, hpe.1.symm, hw, ?_⟩
  unfold Go.WideElems.rd
  rw [← hpe.1, hl]; rfl
 have hmap : (es.toList.map (Go.WideElems.rg (H := Unit) P t (fun _ => some (.nil, [])))).map (fun p => Go.intOf p.1) = L.map (·.1) := by
  have e2 : es.toList.map (fun e => e.key) = L.map (fun p => Value.int .i64 p.1) := by
   have := congrArg (List.map fun q : Value × Value => q.1) he
   simpa [Function.comp_def] using this
  have e3 : es.toList.map (fun e => (match e.key with | .int _ k => k | _ => 0 : Int)) = L.map (·.1) := by
   have := congrArg (List.map fun v : Value => (match v with | .int _ k => k | _ => 0 : Int)) e2
   simpa [Function.comp_def] using this
  rw [← e3, List.map_map]
  apply List.map_congr_left
  intro x hx
  obtain ⟨k, h1, h2, h3⟩ := hrd x hx
  simp only [Function.comp_apply, h1]
  unfold Go.WideElems.rg
  rw [h3]; rfl
 have hlen' : es.size = L.length := by simpa using hlen
 refine ⟨DataW.map ((es.toList.map (Go.WideElems.rg P t (fun _ => some (.nil, [])))).foldr DataW.insert []), ⟨es, clock, hb, ⟨by omega, hs, fun x hx => ?_⟩, by omega, rfl⟩, ?_, ?_⟩
 ·obtain ⟨k, h1, h2, h3⟩ := hrd x hx; exact ⟨_, h3⟩
 ·rw [← hmap]
  exact (sorted_perm _).map _
 ·rw [Maps.size_eq, length_sorted]; simpa using hlen
def ylG (l : List Int) : List Int := l.mergeSort fun x y => decide (x ≤ y)
theorem yzE {a b : List Int} (h : a.Perm b) : ylG a = ylG b := by
 have tr : ∀ a b c : Int, decide (a ≤ b) = true → decide (b ≤ c) = true → decide (a ≤ c) = true := by simp; omega
 have to : ∀ a b : Int, (decide (a ≤ b) || decide (b ≤ a)) = true := by simp; omega
 have p1 := List.pairwise_mergeSort tr to a
 have p2 := List.pairwise_mergeSort tr to b
 have hp : (ylG a).Perm (ylG b) := ((List.mergeSort_perm a _).trans h).trans (List.mergeSort_perm b _).symm
 exact hp.eq_of_pairwise (fun x y _ _ h1 h2 => by simp at h1 h2; omega) p1 p2
theorem yEO (n : Nat) : AnyZI.SortsIn pP Tryz.sortedL_ren Fence.wide n :=
  ⟨fun blk off cap ss W hH hblk hsz => callsIn_wide.2 (AnyM.slices_Sort_int Tryz.sortL blk off cap ss W hH hblk hsz),
   fun p cap W => callsIn_wide.2 (AnyM.slices_Sort_int_none Tryz.sortL p cap W)⟩
end Go.Proofs.YtjellhflalbbmaaGreat
namespace Go.Proofs.YtjellhflalbbmaaGreat
open Go Go.RowKit
set_option linter.all false
theorem yDc {P : Program} {o : Oper} {a : Act} {w : World} {l : Nat} {K : VWP} {Q : Exit → Act → World → Prop} {next : Act → World → Prop} (h : yjL P (execOp a.eval o) w K) (hd : ∀ c, o.op ≠ .defer c) (hK : ∀ v w', K v w' → next (a.put o.dst v) w') : o.wpIn (Fence.wide.inRound l) 0 P a w next Q := by
 refine ⟨fun _ _ => trivial, ?_⟩
 rw [Oper.semAt_eq _ _ _ hd]
 unfold yjL at h
 split at h
 ·rename_i v w' he; rw [he]; exact hK _ _ h
 ·rename_i w' he; rw [he]; exact hK _ _ h
 ·rename_i f args w' he
  rw [he, Oper.uponIn_enter]
  refine ⟨fun hh => by simp [Fence.wide] at hh, ?_⟩
  refine (CallsIn.inRound l (callsIn_wide.2 h)).mono fun e w'' hv => ?_
  obtain ⟨v, rfl, hk⟩ := hv
  exact hK v w'' hk
 ·exact h.elim
theorem ycC {w : World} {b : Nat} {o : Obj} (h : w.heap[b]? = some o) : b < w.heap.size := (Array.getElem?_eq_some_iff.1 h).1
def yhA : List Oper → Bool
 | [] => true
 | o :: r => match o.op with
  | .defer _ => false
  | _ => match o.guard with
   | none => yhA r
   | some _ => false
theorem yr3 {o : Oper} {r : List Oper} (h : yhA (o :: r) = true) : (∀ c, o.op ≠ .defer c) ∧ o.guard = none ∧ yhA r = true := by
 unfold yhA at h
 split at h
 ·cases h
 ·rename_i hn
  split at h
  ·rename_i hg; exact ⟨hn, hg, h⟩
  ·cases h
theorem ygB {P : Program} {n l : Nat} {ops : Array Oper} {Q : Exit → Act → World → Prop} {K : FA → St → Prop} (hK : ∀ f s wa a, K f s → Inv f s wa → Rel n f a → Q .normal a wa) :
  ∀ {L : List Oper} {f : FA} {s : St} {wa : World} {a : Act}, yhA L = true → (∀ o ∈ L, ∀ k, o.dst = some k → k < n) → ybM P ops L K f s → Inv f s wa → Rel n f a → wpListIn (Fence.wide.inRound l) 0 P ops Q L a wa
 | [], f, s, wa, a, _, _, h, hI, hR => hK f s wa a h hI hR
 | o :: r, f, s, wa, a, hnd, hn, h, hI, hR => by
  obtain ⟨hd, hg, hnd'⟩ := yr3 hnd
  have hnr : ∀ o ∈ r, ∀ k, o.dst = some k → k < n := fun o ho => hn o (by simp [ho])
  unfold ybM at h
  rw [hg] at h
  refine wpListIn_plain hg fun K' hK' => ?_
  refine yDc (K := fun v wa' => ∃ t s', ybM P ops r K (yeY f o.dst v t) s' ∧ OpI f s' v t wa' ∧ ybN s s') (by rw [hR.eval]; exact (yd9 h hI).2) hd fun v w' ⟨t, s', h1, h2, _⟩ => ?_
  exact hK' _ _ (ygB hK hnd' hnr h1 (h2.put o.dst) (hR.put o.dst (hn o (by simp)) v t))
theorem yi3 (w : World) (l : Nat) (o : Obj) : Mod [l] w (w.putObj l o) := ⟨rfl, rfl, rfl, by simp [World.putObj], fun k hk hn => World.putObj_heap_other (by simpa using hn)⟩
def yNb {α : Type} (P : Program) (gf : FuncId) (lb : Array Value) (encs : α → Array Value) (w0 : World) (S : List Nat) (X : Nat → α → World → Prop) (N B : Nat) : Prop :=
 ∀ (l : Nat) (J : List α → World → Prop), (∀ pre W W', J pre W → Mod [] W W' → J pre W') → (∀ pre W, J pre W → Mod S w0 W ∧ B ≤ W.heap.size) →
  (∀ pre x W1, J pre W1 → X pre.length x W1 → pre.length < N → YieldAt Fence.wide 0 P l (encs x) W1 fun e W' => e = .returned (.bool true) ∧ J (pre ++ [x]) W') →
  ∀ W, J [] W → CallsIn Fence.wide 1 P gf (#[.func (.yield l) #[] #[]] ++ lb) W fun e W' => (∃ v, e = .returned v) ∧ ∃ xs, xs.length = N ∧ J xs W'
theorem ylT {α : Type} {P : Program} {g : Operand} {ps : Array Tmp} {assign body : Code} {Q : Exit → Act → World → Prop} {a : Act} {w : World}
  {gf : Nat} {lb : Array Value} (hg : a.eval g = .func (.func gf) #[] lb) (eg : ∀ args w, (callFunc gf args).run P w = .ok (.enter gf args) w)
  {encs : α → Array Value} {S : List Nat} {X : Nat → α → World → Prop} {N : Nat} (hseq : yNb P gf lb encs w S X N (w.heap.size + 2)) (hps : ∀ x, (encs x).size = ps.size) (hS : ∀ i ∈ S, i < w.heap.size)
  (I : List α → World → Prop) (hIm : ∀ s W W', I s W → Mod [] W W' → I s W') (hIp : ∀ s W l (o : Loop), l = w.heap.size + 1 → I s W → I s (W.putObj l (.loop o))) (hIS : ∀ s W, I s W → Mod S w W) (h0 : I [] w)
  (hround : ∀ (pre : List α) (x : α) (W : World) (lp : Loop), I pre W → pre.length < N → X pre.length x W → W.heap[w.heap.size + 1]? = some (.loop lp) → w.heap.size < W.heap.size →
   assign.wpIn (Fence.wide.inRound (w.heap.size + 1)) 0 P (Exit.then (fun a1 W1 => W1.heap[w.heap.size + 1]? = some (.loop lp) ∧ ∀ lp' : Loop, body.wpIn (Fence.wide.inRound (w.heap.size + 1)) 0 P
    (fun e _ W' => e = .normal ∧ W'.heap[w.heap.size + 1]? = some (.loop lp') ∧ W'.heap[w.heap.size]? = W.heap[w.heap.size]? ∧ I (pre ++ [x]) W') a1 (W1.putObj (w.heap.size + 1) (.loop lp'))) fun _ _ _ => False)
    { tmps := (ps.zip (encs x)).foldl (fun t (p, v) => t.setIfInBounds p v) a.tmps, defers := [] } W)
  (hdone : ∀ (W : World) xs, xs.length = N → I xs W → W.heap[w.heap.size]? = some (.deferred (some [])) → Q .normal { a with defers := { target := .collected w.heap.size, args := #[] } :: a.defers } W) :
  (Code.rangeFunc g ps assign body).wpIn Fence.wide 2 P Q a w := by
 refine wpIn_rangeFunc ?_
 intro fn hfn
 have hro : Fence.wide.round = none := rfl
 rw [hro]
 obtain ⟨rec, hrec⟩ : ∃ rec : LoopState → Option Code → Loop, rec = fun st pe => { state := st, pending := pe, fn, tmps := a.tmps, params := ps, assign, body, defers := w.heap.size } := ⟨_, rfl⟩
 obtain ⟨W1, hW1⟩ : ∃ W1, (w.alloc (.deferred (some []))).alloc (.loop (rec .ready none)) = W1 := ⟨_, rfl⟩
 have hL1 : W1.heap[w.heap.size + 1]? = some (.loop (rec .ready none)) := by
  rw [← hW1]; have := World.alloc_heap_new (w.alloc (.deferred (some []))) (.loop (rec .ready none)); rwa [World.size_alloc] at this
 have hK1 : W1.heap[w.heap.size]? = some (.deferred (some [])) := by
  rw [← hW1]; exact (Below.heap_alloc _ _ _ (by simp)).trans (World.alloc_heap_new w _)
 have M : ∀ (x : World) (o : Obj), Mod [] x (x.alloc o) := fun x o => Mod.of_below ((Below.refl _ _).alloc (Nat.le_refl _) _)
 have hI1 : I [] W1 := by rw [← hW1]; exact hIm _ _ _ (hIm _ _ _ h0 (M _ _)) (M _ _)
 refine ⟨w.heap.size + 1, [{ target := .collected w.heap.size, args := #[] }], W1, { target := .fn (.func gf) lb, args := #[.func (.yield (w.heap.size + 1)) #[] #[]] }, W1, gf,
  #[.func (.yield (w.heap.size + 1)) #[] #[]] ++ lb, W1, ?_, ?_, fun _ _ => trivial, ?_, fun h => (by simp [Fence.wide] at h), ?_⟩
 ·rw [← hW1, hrec]; exact run_enterLoop_outer _ _ _ _ _
 ·simp only [resolve, hg]
  simp [go_sem]
 ·simp [invoke, go_sem, eg]
 ·refine (hseq (w.heap.size + 1)
   (fun pre W => I pre W ∧ W.heap[w.heap.size + 1]? = some (.loop (rec .ready none)) ∧ W.heap[w.heap.size]? = some (.deferred (some [])))
   ?_ ?_ ?_ W1 ⟨hI1, hL1, hK1⟩).mono ?_
  ·rintro pre W W' ⟨hi, hl, hk⟩ hM
   exact ⟨hIm _ _ _ hi hM, (hM.block _ (ycC hl) (by simp)).trans hl, (hM.block _ (ycC hk) (by simp)).trans hk⟩
  ·rintro pre W ⟨hi, hl, hk⟩
   exact ⟨hIS _ _ hi, ycC hl⟩
  ·rintro pre x W ⟨hi, hl, hk⟩ hx hlen
   have hlt := ycC hl
   have hy := run_yield (P := P) (args := encs x) hl (by rw [hrec]; exact hps x)
   rw [hrec] at hy
   refine ⟨fn, _, assign, body, hy, roundIn_of_wpIn trivial ?_⟩
   refine wpIn_mono (hround pre x W (rec .ready none) hi hlen hx hl (by omega)) ?_
   intro e a1 W2 hq
   cases e with
   | normal =>
    obtain ⟨hl2, hb⟩ := hq
    refine ⟨_, run_beginRound hl2 (by rw [hrec]), ?_⟩
    refine wpIn_mono (hb { rec .ready none with state := .busy }) ?_
    rintro e a3 W3 ⟨rfl, hr1, hD3, hi3⟩
    have hr := run_endRound (P := P) none hr1
    have hlt3 := ycC hr1
    refine ⟨_, _, hr, rfl, ⟨hIp _ _ _ _ rfl hi3, ?_, ?_⟩⟩
    ·rw [World.putObj_heap_same hlt3, hrec]; rfl
    ·exact (World.putObj_heap_other (by omega)).trans (hD3.trans hk)
   | _ => exact hq.elim
  ·rintro e W2 ⟨⟨v, rfl⟩, xs, hxs, hi, hl, hk⟩
   exact ⟨none, _, by have := run_endLoop (P := P) hl (by rw [hrec]; simp); rw [hrec] at this; exact this, hdone _ xs hxs (hIp _ _ _ _ rfl hi) ((World.putObj_heap_other (by omega)).trans hk)⟩
theorem yMN {ts : Array Value} {q : Tmp} {v : Value} : ((#[q] : Array Tmp).zip #[v]).foldl (fun t (x : Tmp × Value) => match x with | (p, v) => t.setIfInBounds p v) ts = ts.setIfInBounds q v := by simp
def yEP (P : Program) : Code → (FA → St → Prop) → FA → St → Prop
 | .skip, K, f, s => K f s
 | .region _ ops draw, K, f, s => match draw with
  | false => ybM P ops ops.toList K f s
  | true => False
 | .seq a b, K, f, s => yEP P a (yEP P b K) f s
 | .cond c a b, K, f, s => match evA f c with
  | .bool t => brB t (yEP P a K f s) (yEP P b K f s)
  | _ => False
 | .block _ c, K, f, s => yEP P c K f s
 | _, _, _, _ => False
def okB (n : Nat) : Code → Bool
 | .skip => true
 | .region _ ops _ => yhA ops.toList && yE7 n ops.toList
 | .seq a b => okB n a && okB n b
 | .cond _ a b => okB n a && okB n b
 | .block _ c => okB n c
 | _ => false
theorem yd2 {P : Program} {n l : Nat} : ∀ {c : Code} {Q : Exit → Act → World → Prop} {K : FA → St → Prop} {f : FA} {s : St} {wa : World} {a : Act}, (∀ f s wa a, K f s → Inv f s wa → Rel n f a → Q .normal a wa) → okB n c = true → yEP P c K f s → Inv f s wa → Rel n f a → c.wpIn (Fence.wide.inRound l) 0 P Q a wa
 | .skip, Q, K, f, s, wa, a, hK, _, h, hI, hR => wpIn_skip (hK f s wa a h hI hR)
 | .region id ops draw, Q, K, f, s, wa, a, hK, hc, h, hI, hR => by
  simp only [okB, Bool.and_eq_true] at hc
  cases draw with
  | false => exact wpIn_region_list (ygB hK hc.1 (yhR hc.2) h hI hR)
  | true => exact h.elim
 | .seq x y, Q, K, f, s, wa, a, hK, hc, h, hI, hR => by
  simp only [okB, Bool.and_eq_true] at hc
  exact wpIn_seq (yd2 (c := x) (K := yEP P y K) (fun f s wa a h1 hI1 hR1 => yd2 (c := y) hK hc.2 h1 hI1 hR1) hc.1 h hI hR)
 | .cond c x y, Q, K, f, s, wa, a, hK, hc, h, hI, hR => by
  simp only [okB, Bool.and_eq_true] at hc
  unfold yEP at h
  split at h
  ·rename_i t ht
   have hev : a.eval c = .bool t := by rw [hR.eval]; exact ht
   refine wpIn_cond_split hev (fun e => ?_) fun e => ?_
   ·subst e; exact yd2 (c := x) hK hc.1 h hI hR
   ·subst e; exact yd2 (c := y) hK hc.2 h hI hR
  ·exact h.elim
 | .block id c, Q, K, f, s, wa, a, hK, hc, h, hI, hR => wpIn_block (yd2 (c := c) (fun f s wa a h1 hI1 hR1 => hK f s wa a h1 hI1 hR1) hc h hI hR)
def yDd (P : Program) (c : Code) (l : Nat) (lp : Loop) (R : World → List TB → World → Prop) (ids : List Nat) (f : FA) (s : St) : Prop := match c with
 | .rangeFunc _ _ (.region _ A false) body => ybM P A A.toList (fun f s => yhO s fun s => s.w.heap[l]? = some (.loop lp) ∧ ∀ w2, Mod [l] s.w w2 → yEP P body (fun _ s => yhO (ycK ids s) fun s => R w2 s.mem s.w) f ⟨s.mem, w2, [], [], true⟩) f s
 | _ => False
def ypU (n : Nat) (c : Code) : Bool := match c with
 | .rangeFunc _ _ (.region _ A false) body => yhA A.toList && yE7 n A.toList && okB n body
 | _ => false
theorem yuJ {P : Program} {n l : Nat} {g : Operand} {ps : Array Tmp} {assign body : Code} (hc : ypU n (.rangeFunc g ps assign body) = true) {R : World → List TB → World → Prop} {ids : List Nat} {f : FA} {s : St} {a : Act} {w : World} {lp : Loop}
  (h : yDd P (.rangeFunc g ps assign body) l lp R ids f s) (hI : Inv f s w) (hR : Rel n f a) :
  assign.wpIn (Fence.wide.inRound l) 0 P (Exit.then (fun a1 w1 => w1.heap[l]? = some (.loop lp) ∧ ∀ lp' : Loop, body.wpIn (Fence.wide.inRound l) 0 P (fun e _ w' => e = .normal ∧ ∃ mem, R (w1.putObj l (.loop lp')) mem w') a1 (w1.putObj l (.loop lp'))) fun _ _ _ => False) a w := by
 unfold yDd at h
 split at h
 ·rename_i id1 A body hh
  cases hh
  simp only [ypU, Bool.and_eq_true] at hc
  obtain ⟨⟨c1, c3⟩, c4⟩ := hc
  refine wpIn_region_list (ygB (n := n) (fun f1 s1 w1 a1 h1 hI1 hR1 => ?_) c1 (yhR c3) h hI hR)
  obtain ⟨s2, ⟨hl, h2⟩, hI2, hw2, hm2, _⟩ := ydJ h1 hI1
  rw [hw2] at hl h2
  refine ⟨hl, fun lp' => ?_⟩
  have hne : ∀ (k : Nat) tb, s2.mem[k]? = some tb → tb.b ≠ l := fun k tb hk e => by
   have := hI2.at_ k tb hk
   rw [e, hl] at this; cases this
  have hI3 : Inv f1 ⟨s2.mem, w1.putObj l (.loop lp'), [], [], true⟩ (w1.putObj l (.loop lp')) :=
   ⟨fun k tb hk => by rw [World.putObj_heap_other (hne k tb hk)]; exact hI2.at_ k tb hk, hI2.nd, hI2.tags, (Mod.refl _).less (by simp [yxJ]), by simp, ⟨by simp, by simp⟩, fun _ => rfl⟩
  refine yd2 (n := n) (fun f4 s4 w4 a4 h4 hI4 hR4 => ?_) c4 (h2 _ (yi3 w1 l _)) hI3 hR1
  obtain ⟨s5, h5, hI5, hw5, hm5, _⟩ := ydJ h4 (ybP hI4)
  rw [hw5] at h5; exact ⟨rfl, _, h5⟩
 ·exact h.elim
theorem yzF {f : FA} {d1 d2 q b1 b2 : Nat} {T1 T2 : TypeId} {cs1 cs2 : List Value} {x : Value} {w : World} {js : Nat → Value} (h1 : w.heap[b1]? = some (.cells cs1.toArray T1)) (h2 : w.heap[b2]? = some (.cells cs2.toArray T2)) (hne : b1 ≠ b2)
  (hf : f = ⟨[(d1, .pointer (some ⟨b1, 0, none⟩), some (0, 0)), (d2, .pointer (some ⟨b2, 0, none⟩), some (1, 0)), (q, x, none)], js⟩) : Inv f ⟨[⟨b1, T1, cs1, false⟩, ⟨b2, T2, cs2, false⟩], w, [], [], true⟩ w := by
 subst hf
 have get : ∀ (k : Nat) (tb : TB), [(⟨b1, T1, cs1, false⟩ : TB), ⟨b2, T2, cs2, false⟩][k]? = some tb → (k = 0 ∧ tb = ⟨b1, T1, cs1, false⟩) ∨ (k = 1 ∧ tb = ⟨b2, T2, cs2, false⟩) := fun k tb h => by
  match k, h with
  | 0, h => simp at h; exact .inl ⟨rfl, h.symm⟩
  | 1, h => simp at h; exact .inr ⟨rfl, h.symm⟩
  | k + 2, h => simp at h
 refine ⟨fun k tb hk => by rcases get k tb hk with ⟨_, rfl⟩ | ⟨_, rfl⟩ <;> assumption, fun i j x y hx hy hb => ?_, fun i k off ht => ?_, (Mod.refl w).less (by simp [yxJ]), by simp, ⟨by simp, by simp⟩, fun _ => rfl⟩
 ·rcases get i x hx with ⟨rfl, rfl⟩ | ⟨rfl, rfl⟩ <;> rcases get j y hy with ⟨rfl, rfl⟩ | ⟨rfl, rfl⟩
  ·rfl
  ·exact absurd hb hne
  ·exact absurd hb.symm hne
  ·rfl
 ·simp only [FA.tag, lkT] at ht
  split at ht
  ·rename_i hi
   have hi : d1 = i := Nat.eq_of_beq_eq_true hi
   subst hi; cases ht
   exact ⟨_, rfl, by simp [FA.get, lkV]⟩
  ·rename_i hi
   split at ht
   ·rename_i hi2
    have hi2 : d2 = i := Nat.eq_of_beq_eq_true hi2
    subst hi2; cases ht
    exact ⟨_, rfl, by simp [FA.get, lkV, hi]⟩
   ·split at ht <;> cases ht
theorem yzG {n d1 d2 q : Nat} {p1 p2 x : Value} {t1 t2 : Tag} {a : Act} (h1 : a.tmps.getD d1 undef = p1) (h2 : a.tmps.getD d2 undef = p2) (h3 : a.tmps.getD q undef = x) (hd : a.defers = []) (hn : a.tmps.size = n) : Rel n ⟨[(d1, p1, t1), (d2, p2, t2), (q, x, none)], fun i => a.tmps.getD i undef⟩ a :=
 ⟨fun i => by
  simp only [FA.get, lkV]
  split
  ·rename_i hi
   rw [← Nat.eq_of_beq_eq_true hi, h1]
  ·split
   ·rename_i hi
    rw [← Nat.eq_of_beq_eq_true hi, h2]
   ·split
    ·rename_i hi
     rw [← Nat.eq_of_beq_eq_true hi, h3]
    ·rfl, hd, hn⟩
section
set_option maxRecDepth 100000
variable {R : VWP} {w w0 : World} {m : Nat} {i0 i1 i2 i3 i4 i5 i6 i7 i8 i9 j0 j1 j2 j3 j4 j5 j6 j7 j8 j9 k0 k1 k2 k3 k4 k5 k6 k7 k8 k9 l0 l1 l2 l3 l4 l5 l6 l7 l8 l9 : Int} {s0 s1 s2 s3 s4 s5 s6 s7 s8 s9 t0 t1 t2 t3 t4 t5 t6 t7 t8 t9 : BA} {n0 n1 n2 n3 n4 n5 n6 n7 n8 n9 o0 o1 o2 o3 o4 o5 o6 o7 o8 o9 p0 p1 p2 p3 p4 p5 p6 p7 p8 p9 : Nat} {q0 q1 q2 q3 q4 q5 q6 q7 q8 q9 r0 r1 r2 r3 r4 r5 r6 r7 r8 r9 : OA} {B0 B1 B2 B3 B4 B5 B6 B7 B8 B9 : Bool} {M0 M1 M2 M3 : Option Nat} {V0 V1 V2 V3 V4 V5 : Value} {A0 A1 A2 : Addr}
def yfV (l : Nat) (lp : Loop) (b0 : Nat) (o0_0 : OA) (b1 : Nat) (o1_0_a : OA) (o1_0_n o1_0_c : Nat) (x0 : Int) (R : World → List TB → World → Prop) (w : World) : Prop :=
 w.heap[l]? = some (.loop lp) ∧
 ∀ w1, Mod [l] w w1 →
 Calls pP 13 #[.pointer o0_0, .int .i64 x0] w1 fun e w2 => ∃ x3 x4 x5 x6 x7 x8 x9 b4 b5 b6 a3 a9 a6 b7 b8 b9 c0 a4 b2 a7 a5 b3 a8 c7, e = .returned (.tuple #[(.agg (Z0 x3 x4 x5 x6 x7 x8 x9 b4 b5 b6 a3 a9 a6 b7 b8 b9 c0 a4 b2 a7 a5 b3 a8)), .int .i64 c7]) ∧ yaD [b0, b1] w1 w2 ∧
 ∀ a0, w2.heap.size ≤ a0 →
 brB (c7 == 0) (
 ∀ c4, Adv [] [a0] w2 c4 →
 al c4 (.cells #[.int .i64 x0] 3) fun c8 c5 =>
 ycE pP (Builtin.append_ #[27, 27] 27 #[.slice o1_0_a o1_0_n o1_0_c, (.slice (some ⟨c8, 0, none⟩) 1 1)]) c5 fun c1 c3 c2 c6 => yaD [b0, b1, a0] c5 c6 ∧
 ∀ a1, Adv [b1] [] c6 a1 → a1.heap[b0]? = some (.cells #[.pointer o0_0] 22) →
 a1.heap[b1]? = some (.cells #[.slice c1 c3 c2] 27) →
 R w1 [⟨b0, 22, [.pointer o0_0], true⟩, ⟨b1, 27, [.slice c1 c3 c2], true⟩, ⟨a0, 37, [.int .i64 x3, .int .i64 x4, .int .i64 x5, .int .i64 x6, .int .i64 x7, .int .i64 x8, .int .i64 x9, .int .i64 b4, .int .i64 b5, .int .i64 b6, .slice a3 a9 a6, .int .i64 b7, .int .i64 b8, .int .i64 b9, .int .i64 c0, .slice a4 b2 a7, .slice a5 b3 a8], false⟩] a1)
 (
 ∀ a2, Adv [] [a0] w2 a2 → a2.heap[b0]? = some (.cells #[.pointer o0_0] 22) →
 a2.heap[b1]? = some (.cells #[.slice o1_0_a o1_0_n o1_0_c] 27) →
 R w1 [⟨b0, 22, [.pointer o0_0], true⟩, ⟨b1, 27, [.slice o1_0_a o1_0_n o1_0_c], true⟩, ⟨a0, 37, [.int .i64 x3, .int .i64 x4, .int .i64 x5, .int .i64 x6, .int .i64 x7, .int .i64 x8, .int .i64 x9, .int .i64 b4, .int .i64 b5, .int .i64 b6, .slice a3 a9 a6, .int .i64 b7, .int .i64 b8, .int .i64 b9, .int .i64 c0, .slice a4 b2 a7, .slice a5 b3 a8], false⟩] a2)
theorem yeV (l : Nat) (lp : Loop) (b0 : Nat) (o0_0 : OA) (b1 : Nat) (o1_0_a : OA) (o1_0_n o1_0_c : Nat) (x0 : Int) (js : Nat → Value) (R : World → List TB → World → Prop) (w : World) :
 yDd pP (ysA (code Tryz.f18) [0, 1, 0, 1, 1]) l lp R [0, 1] ⟨[(1, .pointer (some ⟨b0, 0, none⟩), some (0, 0)), (3, .pointer (some ⟨b1, 0, none⟩), some (1, 0)), (10, .int .i64 x0, none)], js⟩ ⟨[⟨b0, 22, [.pointer o0_0], false⟩, ⟨b1, 27, [.slice o1_0_a o1_0_n o1_0_c], false⟩], w, [], [], true⟩ = yfV l lp b0 o0_0 b1 o1_0_a o1_0_n o1_0_c x0 R w := by kernel_rfl
end
end Go.Proofs.YtjellhflalbbmaaGreat
