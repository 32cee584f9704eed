/- Part 5 of the proof of PMPuts. -/
import Derived.Test.YtkbcmppbjfpjmaaGreatPMPutsK4
namespace Go.Proofs.YtkbcmppbjfpjmaaGreat
open Go Go.RowKit
set_option linter.all false
set_option maxRecDepth 100000
section
variable {R : VWP} {w w0 : World} {m : Nat} {i0 i1 i2 i3 i4 i5 i6 i7 i8 i9 j0 j1 j2 j3 j4 j5 j6 j7 j8 j9 k0 k1 k2 k3 k4 k5 k6 k7 k8 k9 l0 l1 l2 l3 l4 l5 l6 l7 l8 l9 : Int} {s0 s1 s2 s3 s4 s5 s6 s7 s8 s9 t0 t1 t2 t3 t4 t5 t6 t7 t8 t9 : BA} {n0 n1 n2 n3 n4 n5 n6 n7 n8 n9 o0 o1 o2 o3 o4 o5 o6 o7 o8 o9 p0 p1 p2 p3 p4 p5 p6 p7 p8 p9 : Nat} {q0 q1 q2 q3 q4 q5 q6 q7 q8 q9 r0 r1 r2 r3 r4 r5 r6 r7 r8 r9 : OA} {B0 B1 B2 B3 B4 B5 B6 B7 B8 B9 : Bool} {M0 M1 M2 M3 : Option Nat} {V0 V1 V2 V3 V4 V5 : Value} {A0 A1 A2 : Addr}
def yoO : LA := ⟨[0, 0, 1, 0, 1, 1, 1, 1], [1, 5, 6], [(1, 0, 0)], 1, []⟩
def yoP : LA := ⟨[0, 0, 1, 0, 1, 1, 1, 1, 1, 1], [1, 5, 7], [(1, 0, 0)], 1, []⟩
def yoQ : List LA := [yoO, yoP]
abbrev yu7 := dnF pP yoQ (code Tryz.f33)
abbrev yKO := yaO pP yoQ (code Tryz.f33)
abbrev yu8 (p : List Nat) (K : List Kh) (R : VWP) := yaO pP yoQ (code Tryz.f33) p K (ya4 pP Tryz.f33 [] R)
def yh2 (bm0 : Nat) (a6 a7 a8 a9 : Int) (a0 : OA) (a4 a2 : Nat) (a1 : OA) (a5 a3 : Nat) : BA × Int → List Value × List TB := fun (b0, b1) => ([(.pointer (some ⟨bm0, 0, none⟩)), .string b0, .int .i64 b1], [⟨bm0, 27, [.int .i64 a6, .int .i64 a7, .int .i64 a8, .int .i64 a9, .slice a0 a4 a2, .slice a1 a5 a3], false⟩])
def yh3 (bm0 : Nat) (a6 a7 a8 a9 : Int) (a0 : OA) (a4 a2 : Nat) (a1 : OA) (a5 a3 : Nat) : BA × Int → List Value × List TB := fun (b0, b1) => ([(.pointer (some ⟨bm0, 0, none⟩)), .string b0, .int .i64 b1], [⟨bm0, 27, [.int .i64 a6, .int .i64 a7, .int .i64 a8, .int .i64 a9, .slice a0 a4 a2, .slice a1 a5 a3], false⟩])
abbrev yBy (bm0 : Nat) (a6 a7 a8 a9 : Int) (a0 : OA) (a4 a2 : Nat) (a1 : OA) (a5 a3 : Nat) (I : Nat → BA → Int → World → Prop) (m : Nat) : Kh := KG (yh2 bm0 a6 a7 a8 a9 a0 a4 a2 a1 a5 a3) (U2 I) m
theorem ywU {I : Nat → BA → Int → World → Prop} (m' : Nat) (h1 : m' < m) (h2 : I m' s0 i4 w) : KS (yBy n0 i0 i1 i2 i3 q0 n1 n2 q1 n3 n4 I m) (yh2 n0 i0 i1 i2 i3 q0 n1 n2 q1 n3 n4 (s0, i4)) w := ⟨m', h1, _, rfl, rfl, h2⟩
theorem ywV (I : Nat → BA → Int → World → Prop) (m0 : Nat) (h0 : I m0 s0 i4 w0)
 (hr : ∀ m b4 b3 w, I m b4 b3 w →
 brB (decide (b3 < (n1 : Int))) (
 ixA q0 n1 b3 5 fun c6 =>
 ∀ b1, Adv [] [] w b1 →
 yaI .i64 b1 c6 fun d4 =>
 ixA q0 n1 b3 5 fun b0 =>
 yaT b1 (Addr.add b0 1) fun c2 => yaQ b1 (Addr.add (Addr.add b0 1) 1) fun b7 => yaT b1 (Addr.add (Addr.add b0 1) 2) fun c3 => yaQ b1 (Addr.add (Addr.add b0 1) 3) fun b8 =>
 Calls pP 66 #[.int .i64 d4] b1 fun e b2 => ∃ b9, e = .returned (.string b9) ∧ yaE [n0] b1 b2 ∧ (yaT b2 (Addr.add b0 1) fun d2 => yaQ b2 (Addr.add (Addr.add b0 1) 1) fun c7 => yaT b2 (Addr.add (Addr.add b0 1) 2) fun d3 => yaQ b2 (Addr.add (Addr.add b0 1) 3) fun c8 => ((.agg (Z7 d2 c7 d3 c8)) : Value) = (.agg (Z7 c2 b7 c3 b8))) ∧ (((.slice q0 n1 n2) : Value) = (.slice q0 n1 n2)) ∧
 Calls pP 67 #[(.agg (Z7 c2 b7 c3 b8))] b2 fun e c4 => ∃ c0, e = .returned (.string c0) ∧ yaE [n0] b2 c4 ∧
 yeS b9 c0 fun c9 =>
 yeS b4 c9 fun d0 =>
 KS (yBy n0 i0 i1 i2 i3 q0 n1 n2 q1 n3 n4 I m) (yh2 n0 i0 i1 i2 i3 q0 n1 n2 q1 n3 n4 (d0, (iw .i64 (b3 + 1)))) c4)
 (
 Calls pP 66 #[(.int .i64 (n3 : Int))] w fun e c5 => ∃ c1, e = .returned (.string c1) ∧ yaE [n0] w c5 ∧
 yeS b4 c1 fun d1 =>
 yaK yoP (yu7 392 [0, 0, 1, 0, 1, 1, 1, 1, 1, 1]) (yu8 [1, 1, 1, 1, 1, 1, 0, 1, 0] [] R) (yh3 n0 i0 i1 i2 i3 q0 n1 n2 q1 n3 n4 (d1, 0)) c5)) :
 yaK yoO (yu7 394 [0, 0, 1, 0, 1, 1, 1, 1]) (yu8 [1, 1, 1, 1, 0, 1, 0] [] R) (yh2 n0 i0 i1 i2 i3 q0 n1 n2 q1 n3 n4 (s0, i4)) w0 :=
 lrule (yh2 n0 i0 i1 i2 i3 q0 n1 n2 q1 n3 n4) (U2 I) h0 (by rintro m ⟨b4, b3⟩ w h; exact ⟨by kernel_rfl, by kernel_rfl, fun js => Eq.mpr (by kernel_rfl) (hr m b4 b3 w h)⟩)
abbrev yBz (bm0 : Nat) (a6 a7 a8 a9 : Int) (a0 : OA) (a4 a2 : Nat) (a1 : OA) (a5 a3 : Nat) (I : Nat → BA → Int → World → Prop) (m : Nat) : Kh := KG (yh3 bm0 a6 a7 a8 a9 a0 a4 a2 a1 a5 a3) (U2 I) m
theorem ywW {I : Nat → BA → Int → World → Prop} (m' : Nat) (h1 : m' < m) (h2 : I m' s0 i4 w) : KS (yBz n0 i0 i1 i2 i3 q0 n1 n2 q1 n3 n4 I m) (yh3 n0 i0 i1 i2 i3 q0 n1 n2 q1 n3 n4 (s0, i4)) w := ⟨m', h1, _, rfl, rfl, h2⟩
theorem ywX (I : Nat → BA → Int → World → Prop) (m0 : Nat) (h0 : I m0 s0 i4 w0)
 (hr : ∀ m b1 b0 w, I m b1 b0 w →
 brB (decide (b0 < (n3 : Int))) (
 ixA q1 n3 b0 2 fun c1 =>
 ∀ b2, Adv [] [] w b2 →
 yaQ b2 c1 fun c2 =>
 ixA q1 n3 b0 2 fun b6 =>
 yaI .i64 b2 (Addr.add b6 1) fun c0 =>
 Calls pP 34 #[.string c2] b2 fun e b3 => ∃ b7, e = .returned (.string b7) ∧ yaE [n0] b2 b3 ∧ (yaI .i64 b3 (Addr.add b6 1) fun c5 => ((.int .i64 c5) : Value) = (.int .i64 c0)) ∧ (((.slice q1 n3 n4) : Value) = (.slice q1 n3 n4)) ∧
 Calls pP 66 #[.int .i64 c0] b3 fun e b9 => ∃ b8, e = .returned (.string b8) ∧ yaE [n0] b3 b9 ∧
 yeS b7 b8 fun c3 =>
 yeS b1 c3 fun c4 =>
 KS (yBz n0 i0 i1 i2 i3 q0 n1 n2 q1 n3 n4 I m) (yh3 n0 i0 i1 i2 i3 q0 n1 n2 q1 n3 n4 (c4, (iw .i64 (b0 + 1)))) b9)
 (
 R (.tuple #[.string b1, .int .i64 0]) w)) :
 yaK yoP (yu7 392 [0, 0, 1, 0, 1, 1, 1, 1, 1, 1]) (yu8 [1, 1, 1, 1, 1, 1, 0, 1, 0] [] R) (yh3 n0 i0 i1 i2 i3 q0 n1 n2 q1 n3 n4 (s0, i4)) w0 :=
 lrule (yh3 n0 i0 i1 i2 i3 q0 n1 n2 q1 n3 n4) (U2 I) h0 (by rintro m ⟨b1, b0⟩ w h; exact ⟨by kernel_rfl, by kernel_rfl, fun js => Eq.mpr (by kernel_rfl) (hr m b1 b0 w h)⟩)
theorem yF6 (h :
 ∀ b1, w.heap.size ≤ b1 →
 ∀ w2, Adv [] [b1] w w2 →
 Calls pP 65 #[(.agg (Z3 i0 i1 i2 i3 q0 n0 n1 q1 n2 n3))] w2 fun e w3 => ∃ x4, e = .returned (.int .i64 x4) ∧ yaE [b1] w2 w3 ∧
 brB (x4 != 0) (
 R (.tuple #[(.string (⟨#[]⟩ : BA)), .int .i64 x4]) w3)
 (
 ∀ w5, Adv [] [] w3 w5 →
 Calls pP 66 #[.int .i64 i0] w5 fun e w6 => ∃ s7, e = .returned (.string s7) ∧ yaE [b1] w5 w6 ∧ (((.slice q0 n0 n1) : Value) = (.slice q0 n0 n1)) ∧ (((.int .i64 i3) : Value) = (.int .i64 i3)) ∧ (((.int .i64 i2) : Value) = (.int .i64 i2)) ∧ (((.int .i64 i1) : Value) = (.int .i64 i1)) ∧
 Calls pP 66 #[.int .i64 i1] w6 fun e w8 => ∃ s9, e = .returned (.string s9) ∧ yaE [b1] w6 w8 ∧ (((.slice q0 n0 n1) : Value) = (.slice q0 n0 n1)) ∧ (((.int .i64 i3) : Value) = (.int .i64 i3)) ∧ (((.int .i64 i2) : Value) = (.int .i64 i2)) ∧
 yeS s7 s9 fun b7 =>
 Calls pP 66 #[.int .i64 i2] w8 fun e b0 => ∃ b3, e = .returned (.string b3) ∧ yaE [b1] w8 b0 ∧ (((.slice q0 n0 n1) : Value) = (.slice q0 n0 n1)) ∧ (((.int .i64 i3) : Value) = (.int .i64 i3)) ∧
 yeS b7 b3 fun b8 =>
 Calls pP 66 #[.int .i64 i3] b0 fun e b2 => ∃ b4, e = .returned (.string b4) ∧ yaE [b1] b0 b2 ∧ (((.slice q0 n0 n1) : Value) = (.slice q0 n0 n1)) ∧
 yeS b8 b4 fun b9 =>
 Calls pP 66 #[(.int .i64 (n0 : Int))] b2 fun e b6 => ∃ b5, e = .returned (.string b5) ∧ yaE [b1] b2 b6 ∧
 yeS b9 b5 fun c0 =>
 yaK yoO (yu7 394 [0, 0, 1, 0, 1, 1, 1, 1]) (yu8 [1, 1, 1, 1, 0, 1, 0] [] R) (yh2 b1 i0 i1 i2 i3 q0 n0 n1 q1 n2 n3 (c0, 0)) b6)) :
 CR pP 33 #[(.agg (Z3 i0 i1 i2 i3 q0 n0 n1 q1 n2 n3))] w R :=
 yaA Tryz.wide_mixed (an := yoQ) Tryz.func33 rfl rfl (by kernel_rfl) rfl (Eq.mpr (by kernel_rfl) h)
def yoR : LA := ⟨[0, 0, 1, 0, 1, 1, 1], [1, 3, 4], [(1, 0, 0)], 1, []⟩
def yoS : List LA := [yoR]
abbrev yEw := dnF pP yoS (code Tryz.f13)
abbrev yKP := yaO pP yoS (code Tryz.f13)
abbrev yEx (p : List Nat) (K : List Kh) (R : VWP) := yaO pP yoS (code Tryz.f13) p K (ya4 pP Tryz.f13 [] R)
def yh4 (c3 : OA) (c5 c4 bm0 : Nat) (b3 b4 b5 b6 b7 b8 b9 c0 c1 c2 : Int) (a0 : OA) (a6 a3 : Nat) (a9 b0 b1 b2 : Int) (a1 : OA) (a7 a4 : Nat) (a2 : OA) (a8 a5 : Nat) : Int → List Value × List TB := fun c6 => ([(.pointer (some ⟨bm0, 0, none⟩)), .slice c3 c5 c4, .int .i64 c6], [⟨bm0, 29, [.int .i64 b3, .int .i64 b4, .int .i64 b5, .int .i64 b6, .int .i64 b7, .int .i64 b8, .int .i64 b9, .int .i64 c0, .int .i64 c1, .int .i64 c2, .slice a0 a6 a3, .int .i64 a9, .int .i64 b0, .int .i64 b1, .int .i64 b2, .slice a1 a7 a4, .slice a2 a8 a5], false⟩])
abbrev yBA (c3 : OA) (c5 c4 bm0 : Nat) (b3 b4 b5 b6 b7 b8 b9 c0 c1 c2 : Int) (a0 : OA) (a6 a3 : Nat) (a9 b0 b1 b2 : Int) (a1 : OA) (a7 a4 : Nat) (a2 : OA) (a8 a5 : Nat) (I : Nat → Int → World → Prop) (m : Nat) : Kh := KG (yh4 c3 c5 c4 bm0 b3 b4 b5 b6 b7 b8 b9 c0 c1 c2 a0 a6 a3 a9 b0 b1 b2 a1 a7 a4 a2 a8 a5) (U1 I) m
theorem ymM {I : Nat → Int → World → Prop} (m' : Nat) (h1 : m' < m) (h2 : I m' j4 w) : KS (yBA q0 n0 n1 n2 i0 i1 i2 i3 i4 i5 i6 i7 i8 i9 q1 n3 n4 j0 j1 j2 j3 q2 n5 n6 q3 n7 n8 I m) (yh4 q0 n0 n1 n2 i0 i1 i2 i3 i4 i5 i6 i7 i8 i9 q1 n3 n4 j0 j1 j2 j3 q2 n5 n6 q3 n7 n8 j4) w := ⟨m', h1, _, rfl, rfl, h2⟩
theorem ymN {c5 : OA} {a0 : OA} {a1 : OA} {a2 : OA} (I : Nat → Int → World → Prop) (m0 : Nat) (h0 : I m0 j4 w0)
 (hr : ∀ m c4 w, I m c4 w →
 brB (decide (c4 < (n0 : Int))) (
 ixA c5 n0 c4 1 fun q9 =>
 yaI .i64 w q9 fun d6 =>
 Calls pP 36 #[.int .i64 d6] w fun e c8 => ∃ d1, e = .returned (.bool d1) ∧ yaE [n2] w c8 ∧
 brB (!d1) (
 R (.int .i64 1) c8)
 (
 KS (yBA c5 n0 n1 n2 i0 i1 i2 i3 i4 i5 i6 i7 i8 i9 a0 n3 n4 j0 j1 j2 j3 a1 n5 n6 a2 n7 n8 I m) (yh4 c5 n0 n1 n2 i0 i1 i2 i3 i4 i5 i6 i7 i8 i9 a0 n3 n4 j0 j1 j2 j3 a1 n5 n6 a2 n7 n8 (iw .i64 (c4 + 1))) c8))
 (
 Calls pP 32 #[.slice a0 n3 n4] w fun e c7 => ∃ d4 c9, e = .returned (.tuple #[.string d4, .int .i64 c9]) ∧ yaE [n2] w c7 ∧
 brB (c9 != 0) (
 R (.int .i64 c9) c7)
 (
 Calls pP 33 #[(.agg (Z3 j0 j1 j2 j3 a1 n5 n6 a2 n7 n8))] c7 fun e d2 => ∃ d5 d3, e = .returned (.tuple #[.string d5, .int .i64 d3]) ∧ yaE [n2] c7 d2 ∧
 R (.int .i64 d3) d2))) :
 yaK yoR (yEw 395 [0, 0, 1, 0, 1, 1, 1]) (yEx [1, 1, 1, 0, 1, 0] [] R) (yh4 c5 n0 n1 n2 i0 i1 i2 i3 i4 i5 i6 i7 i8 i9 a0 n3 n4 j0 j1 j2 j3 a1 n5 n6 a2 n7 n8 j4) w0 :=
 lrule (yh4 c5 n0 n1 n2 i0 i1 i2 i3 i4 i5 i6 i7 i8 i9 a0 n3 n4 j0 j1 j2 j3 a1 n5 n6 a2 n7 n8) (U1 I) h0 (by rintro m c4 w h; exact ⟨by kernel_rfl, by kernel_rfl, fun js => Eq.mpr (by kernel_rfl) (hr m c4 w h)⟩)
theorem yBB {a3 a2 : Nat} {a7 a5 : Nat} {b0 a9 : Nat} (h :
 ∀ b1, w.heap.size ≤ b1 →
 brB (decide (i0 < 0)) (
 ∀ w2, Adv [] [b1] w w2 →
 R (.int .i64 180) w2)
 (
 brB (decide (i0 > 11)) (
 ∀ w3, Adv [] [b1] w w3 →
 R (.int .i64 180) w3)
 (
 ∀ w4, Adv [] [b1] w w4 →
 Calls pP 30 #[(.agg (Z0 i0 i1 i2 i3 i4 i5 i6 i7 i8 i9 q0 a3 a2 j0 j1 j2 j3 q1 a7 a5 q2 b0 a9))] w4 fun e w5 => ∃ a6 n7 c8, e = .returned (.slice a6 n7 c8) ∧ yaE [b1] w4 w5 ∧
 yaK yoR (yEw 395 [0, 0, 1, 0, 1, 1, 1]) (yEx [1, 1, 1, 0, 1, 0] [] R) (yh4 a6 n7 c8 b1 i0 i1 i2 i3 i4 i5 i6 i7 i8 i9 q0 a3 a2 j0 j1 j2 j3 q1 a7 a5 q2 b0 a9 0) w5))) :
 CR pP 13 #[(.agg (Z0 i0 i1 i2 i3 i4 i5 i6 i7 i8 i9 q0 a3 a2 j0 j1 j2 j3 q1 a7 a5 q2 b0 a9))] w R :=
 yaA Tryz.wide_mixed (an := yoS) Tryz.func13 rfl rfl (by kernel_rfl) rfl (Eq.mpr (by kernel_rfl) h)
def yoT : LA := ⟨[0, 0, 1, 0, 1, 1, 1, 1], [1, 5, 6, 7], [(1, 0, 0)], 1, []⟩
def yoU : List LA := [yoT]
abbrev yEy := dnF pP yoU (code Tryz.f11)
abbrev yKQ := yaO pP yoU (code Tryz.f11)
abbrev yEz (p : List Nat) (K : List Kh) (R : VWP) := yaO pP yoU (code Tryz.f11) p K (ya4 pP Tryz.f11 [] R)
def yh5 (c3 : OA) (c5 c4 bm0 : Nat) (b3 b4 b5 b6 b7 b8 b9 c0 c1 c2 : Int) (a0 : OA) (a6 a3 : Nat) (a9 b0 b1 b2 : Int) (a1 : OA) (a7 a4 : Nat) (a2 : OA) (a8 a5 : Nat) : BA × Int → List Value × List TB := fun (c6, c7) => ([(.pointer (some ⟨bm0, 0, none⟩)), .string c6, .slice c3 c5 c4, .int .i64 c7], [⟨bm0, 29, [.int .i64 b3, .int .i64 b4, .int .i64 b5, .int .i64 b6, .int .i64 b7, .int .i64 b8, .int .i64 b9, .int .i64 c0, .int .i64 c1, .int .i64 c2, .slice a0 a6 a3, .int .i64 a9, .int .i64 b0, .int .i64 b1, .int .i64 b2, .slice a1 a7 a4, .slice a2 a8 a5], false⟩])
abbrev yBC (c3 : OA) (c5 c4 bm0 : Nat) (b3 b4 b5 b6 b7 b8 b9 c0 c1 c2 : Int) (a0 : OA) (a6 a3 : Nat) (a9 b0 b1 b2 : Int) (a1 : OA) (a7 a4 : Nat) (a2 : OA) (a8 a5 : Nat) (I : Nat → BA → Int → World → Prop) (m : Nat) : Kh := KG (yh5 c3 c5 c4 bm0 b3 b4 b5 b6 b7 b8 b9 c0 c1 c2 a0 a6 a3 a9 b0 b1 b2 a1 a7 a4 a2 a8 a5) (U2 I) m
theorem ymO {I : Nat → BA → Int → World → Prop} (m' : Nat) (h1 : m' < m) (h2 : I m' s0 j4 w) : KS (yBC q0 n0 n1 n2 i0 i1 i2 i3 i4 i5 i6 i7 i8 i9 q1 n3 n4 j0 j1 j2 j3 q2 n5 n6 q3 n7 n8 I m) (yh5 q0 n0 n1 n2 i0 i1 i2 i3 i4 i5 i6 i7 i8 i9 q1 n3 n4 j0 j1 j2 j3 q2 n5 n6 q3 n7 n8 (s0, j4)) w := ⟨m', h1, _, rfl, rfl, h2⟩
theorem ymP {c5 : OA} {a0 : OA} {a1 : OA} {a2 : OA} (I : Nat → BA → Int → World → Prop) (m0 : Nat) (h0 : I m0 s0 j4 w0)
 (hr : ∀ m c6 c4 w, I m c6 c4 w →
 brB (decide (c4 < (n0 : Int))) (
 ixA c5 n0 c4 1 fun q9 =>
 yaI .i64 w q9 fun e5 =>
 Calls pP 31 #[(.int .u64 (iw .u64 e5))] w fun e e1 => ∃ d4, e = .returned (.string d4) ∧ yaE [n2] w e1 ∧
 yeS c6 d4 fun e3 =>
 KS (yBC c5 n0 n1 n2 i0 i1 i2 i3 i4 i5 i6 i7 i8 i9 a0 n3 n4 j0 j1 j2 j3 a1 n5 n6 a2 n7 n8 I m) (yh5 c5 n0 n1 n2 i0 i1 i2 i3 i4 i5 i6 i7 i8 i9 a0 n3 n4 j0 j1 j2 j3 a1 n5 n6 a2 n7 n8 (e3, (iw .i64 (c4 + 1)))) e1)
 (
 Calls pP 32 #[.slice a0 n3 n4] w fun e d0 => ∃ d5 e6, e = .returned (.tuple #[.string d5, .int .i64 e6]) ∧ yaE [n2] w d0 ∧
 Calls pP 33 #[(.agg (Z3 j0 j1 j2 j3 a1 n5 n6 a2 n7 n8))] d0 fun e d1 => ∃ d6 e7, e = .returned (.tuple #[.string d6, .int .i64 e7]) ∧ yaE [n2] d0 d1 ∧
 Calls pP 34 #[.string d5] d1 fun e d2 => ∃ d7, e = .returned (.string d7) ∧ yaE [n2] d1 d2 ∧
 Calls pP 34 #[.string d6] d2 fun e c8 => ∃ d8, e = .returned (.string d8) ∧ yaE [n2] d2 c8 ∧
 yeS d7 d8 fun e4 =>
 yeS c6 e4 fun d9 =>
 brB (decide ((d9.size : Int) > 1048576)) (
 R (.tuple #[(.string (⟨#[]⟩ : BA)), .int .i64 2]) c8)
 (
 Calls pP 35 #[.string d9] c8 fun e e2 => ∃ e0, e = .returned (.string e0) ∧ yaE [n2] c8 e2 ∧
 R (.tuple #[.string e0, .int .i64 0]) e2))) :
 yaK yoT (yEy 394 [0, 0, 1, 0, 1, 1, 1, 1]) (yEz [1, 1, 1, 1, 0, 1, 0] [] R) (yh5 c5 n0 n1 n2 i0 i1 i2 i3 i4 i5 i6 i7 i8 i9 a0 n3 n4 j0 j1 j2 j3 a1 n5 n6 a2 n7 n8 (s0, j4)) w0 :=
 lrule (yh5 c5 n0 n1 n2 i0 i1 i2 i3 i4 i5 i6 i7 i8 i9 a0 n3 n4 j0 j1 j2 j3 a1 n5 n6 a2 n7 n8) (U2 I) h0 (by rintro m ⟨c6, c4⟩ w h; exact ⟨by kernel_rfl, by kernel_rfl, fun js => Eq.mpr (by kernel_rfl) (hr m c6 c4 w h)⟩)
theorem yBD {a2 a1 : Nat} {a5 a4 : Nat} {a9 a8 : Nat} (h :
 ∀ b1, w.heap.size ≤ b1 →
 ∀ w2, Adv [] [b1] w w2 →
 Calls pP 13 #[(.agg (Z0 i0 i1 i2 i3 i4 i5 i6 i7 i8 i9 q0 a2 a1 j0 j1 j2 j3 q1 a5 a4 q2 a9 a8))] w2 fun e w3 => ∃ x4, e = .returned (.int .i64 x4) ∧ yaE [b1] w2 w3 ∧
 brB (x4 != 0) (
 R (.tuple #[(.string (⟨#[]⟩ : BA)), .int .i64 x4]) w3)
 (
 Calls pP 30 #[(.agg (Z0 i0 i1 i2 i3 i4 i5 i6 i7 i8 i9 q0 a2 a1 j0 j1 j2 j3 q1 a5 a4 q2 a9 a8))] w3 fun e w5 => ∃ a6 n7 c8, e = .returned (.slice a6 n7 c8) ∧ yaE [b1] w3 w5 ∧
 yaK yoT (yEy 394 [0, 0, 1, 0, 1, 1, 1, 1]) (yEz [1, 1, 1, 1, 0, 1, 0] [] R) (yh5 a6 n7 c8 b1 i0 i1 i2 i3 i4 i5 i6 i7 i8 i9 q0 a2 a1 j0 j1 j2 j3 q1 a5 a4 q2 a9 a8 ((⟨#[]⟩ : BA), 0)) w5)) :
 CR pP 11 #[(.agg (Z0 i0 i1 i2 i3 i4 i5 i6 i7 i8 i9 q0 a2 a1 j0 j1 j2 j3 q1 a5 a4 q2 a9 a8))] w R :=
 yaA Tryz.wide_mixed (an := yoU) Tryz.func11 rfl rfl (by kernel_rfl) rfl (Eq.mpr (by kernel_rfl) h)
def yoV : LA := ⟨[0, 0, 1, 0, 1, 1, 1], [1, 5, 18, 19], [(1, 0, 0), (5, 1, 0)], 2, [0, 1]⟩
def yoW : List LA := [yoV]
abbrev yEA := dnF pP yoW (code Tryz.f10)
abbrev yKR := yaO pP yoW (code Tryz.f10)
abbrev yEB (p : List Nat) (K : List Kh) (R : VWP) := yaO pP yoW (code Tryz.f10) p K (ya4 pP Tryz.f10 [] R)
def yh6 (b6 b7 b8 b9 c0 c1 c2 c3 c4 c5 : OA) (bm0 bm1 : Nat) : Int × Int × Int × Int × Int × Int × Int × Int × Int × Int × Int × (OA) × Nat × Nat × Int × Int × Int × Int × (OA) × Nat × Nat × (OA) × Nat × Nat × (OA) × (OA) × Nat × Nat → List Value × List TB := fun (d7, c7, c8, c9, d0, d1, d2, d3, d4, d5, d6, a0, a6, a3, a9, b0, b1, b2, a1, a7, a4, a2, a8, a5, c6, b3, b5, b4) => ([(.pointer (some ⟨bm0, 0, none⟩)), (.pointer (some ⟨bm1, 0, none⟩)), (.agg (Z4 b6 b7 b8 b9 c0 c1 c2 c3 c4 c5)), .int .i64 d7], [⟨bm0, 29, [.int .i64 c7, .int .i64 c8, .int .i64 c9, .int .i64 d0, .int .i64 d1, .int .i64 d2, .int .i64 d3, .int .i64 d4, .int .i64 d5, .int .i64 d6, .slice a0 a6 a3, .int .i64 a9, .int .i64 b0, .int .i64 b1, .int .i64 b2, .slice a1 a7 a4, .slice a2 a8 a5], true⟩, ⟨bm1, 61, [.pointer c6, .slice b3 b5 b4], true⟩])
abbrev yBE (a0 a1 a2 a3 a4 a5 a6 a7 a8 a9 : OA) (bm0 bm1 : Nat) (I : Nat → Int → Int → Int → Int → Int → Int → Int → Int → Int → Int → Int → OA → Nat → Nat → Int → Int → Int → Int → OA → Nat → Nat → OA → Nat → Nat → OA → OA → Nat → Nat → World → Prop) (m : Nat) : Kh := KG (yh6 a0 a1 a2 a3 a4 a5 a6 a7 a8 a9 bm0 bm1) (U28 I) m
theorem ywY {I : Nat → Int → Int → Int → Int → Int → Int → Int → Int → Int → Int → Int → OA → Nat → Nat → Int → Int → Int → Int → OA → Nat → Nat → OA → Nat → Nat → OA → OA → Nat → Nat → World → Prop} (m' : Nat) (h1 : m' < m) (h2 : I m' i0 i1 i2 i3 i4 i5 i6 i7 i8 i9 j0 r0 n2 n3 j1 j2 j3 j4 r1 n4 n5 r2 n6 n7 r3 r4 n8 n9 w) : KS (yBE q0 q1 q2 q3 q4 q5 q6 q7 q8 q9 n0 n1 I m) (yh6 q0 q1 q2 q3 q4 q5 q6 q7 q8 q9 n0 n1 (i0, i1, i2, i3, i4, i5, i6, i7, i8, i9, j0, r0, n2, n3, j1, j2, j3, j4, r1, n4, n5, r2, n6, n7, r3, r4, n8, n9)) w := ⟨m', h1, _, rfl, rfl, h2⟩
theorem ywZ (I : Nat → Int → Int → Int → Int → Int → Int → Int → Int → Int → Int → Int → OA → Nat → Nat → Int → Int → Int → Int → OA → Nat → Nat → OA → Nat → Nat → OA → OA → Nat → Nat → World → Prop) (m0 : Nat) (h0 : I m0 i0 i1 i2 i3 i4 i5 i6 i7 i8 i9 j0 r0 n2 n3 j1 j2 j3 j4 r1 n4 n5 r2 n6 n7 r3 r4 n8 n9 w0)
 (hr : ∀ m d7 c7 c8 c9 d0 d1 d2 d3 d4 d5 d6 a0 a2 a1 b9 c0 c1 c2 b3 b7 b5 b4 b8 b6 c6 c3 c5 c4 w, I m d7 c7 c8 c9 d0 d1 d2 d3 d4 d5 d6 a0 a2 a1 b9 c0 c1 c2 b3 b7 b5 b4 b8 b6 c6 c3 c5 c4 w →
 hpC w n0 (Z0 c7 c8 c9 d0 d1 d2 d3 d4 d5 d6 a0 a2 a1 b9 c0 c1 c2 b3 b7 b5 b4 b8 b6) 29 →
 hpC w n1 #[.pointer c6, .slice c3 c5 c4] 61 →
 brB (decide (d7 < 10)) (
 ∃ w6, (∀ w' : World, (Instr.index 63 (.agg (Z4 q0 q1 q2 q3 q4 q5 q6 q7 q8 q9)) (.int .i64 d7)).run pP w' = .ok (.pointer w6) w') ∧
 ymV w6 fun ge =>
 yaI .i64 w ge fun gg =>
 Calls pP 24 #[(.int .u64 (iw .u64 gg))] w fun e v0 => ∃ w8, e = .returned (.string w8) ∧ ∃ gh gi gj gk gl gm gn go gp gq fr fz fv gr gs gt gu fs ga fw ft gb fx, hpC v0 n0 (Z0 gh gi gj gk gl gm gn go gp gq fr fz fv gr gs gt gu fs ga fw ft gb fx) 29 ∧ ∃ gd fu gc fy, hpC v0 n1 #[.pointer gd, .slice fu gc fy] 61 ∧
 Calls pP 23 #[(.pointer (some ⟨n1, 0, none⟩)), .string w8] v0 fun e v1 => ∃ gv gf, e = .returned (.tuple #[.int .i64 gv, gf]) ∧ ∃ w9 x0 x1 x2 x3 x4 x5 x6 x7 x8 v6 w3 v9 x9 y0 y1 y2 v7 w4 w1 v8 w5 w2, hpC v1 n0 (Z0 w9 x0 x1 x2 x3 x4 x5 x6 x7 x8 v6 w3 v9 x9 y0 y1 y2 v7 w4 w1 v8 w5 w2) 29 ∧ ∃ w7 h3 h9 h6, hpC v1 n1 #[.pointer w7, .slice h3 h9 h6] 61 ∧
 KS (yBE q0 q1 q2 q3 q4 q5 q6 q7 q8 q9 n0 n1 I m) (yh6 q0 q1 q2 q3 q4 q5 q6 q7 q8 q9 n0 n1 ((iw .i64 (d7 + 1)), w9, x0, x1, x2, x3, x4, x5, x6, x7, x8, v6, w3, v9, x9, y0, y1, y2, v7, w4, w1, v8, w5, w2, w7, h3, h9, h6)) v1)
 (
 Calls pP 25 #[.slice a0 a2 a1] w fun e g6 => ∃ u2 ck, e = .returned (.tuple #[.string u2, .int .i64 ck]) ∧ ∃ cl cm cn co cp cq cr cs ct cu y3 be af v2 v3 v4 v5 h4 u0 h7 h5 u1 h8, hpC g6 n0 (Z0 cl cm cn co cp cq cr cs ct cu y3 be af v2 v3 v4 v5 h4 u0 h7 h5 u1 h8) 29 ∧ ∃ cc y4 bf ag, hpC g6 n1 #[.pointer cc, .slice y4 bf ag] 61 ∧
 Calls pP 26 #[(.agg (Z3 v2 v3 v4 v5 h4 u0 h7 h5 u1 h8))] g6 fun e g7 => ∃ u3 cv, e = .returned (.tuple #[.string u3, .int .i64 cv]) ∧ ∃ cw cx cy cz da db dc dd de df y5 bg ah dg dh di dj y6 bh ai y7 bi aj, hpC g7 n0 (Z0 cw cx cy cz da db dc dd de df y5 bg ah dg dh di dj y6 bh ai y7 bi aj) 29 ∧ ∃ cd y8 bj ak, hpC g7 n1 #[.pointer cd, .slice y8 bj ak] 61 ∧
 Calls pP 27 #[(.pointer (some ⟨n1, 0, none⟩))] g7 fun e g8 => ∃ u4, e = .returned (.string u4) ∧ ∃ dk dl dm dn dp dq dr ds dt du y9 bk am dv dw dx dy z0 bl an z1 bm ao, hpC g8 n0 (Z0 dk dl dm dn dp dq dr ds dt du y9 bk am dv dw dx dy z0 bl an z1 bm ao) 29 ∧ ∃ ce z2 bn ap, hpC g8 n1 #[.pointer ce, .slice z2 bn ap] 61 ∧
 Calls pP 28 #[.string u2] g8 fun e g9 => ∃ u5, e = .returned (.string u5) ∧ ∃ dz ea eb ec ed ee ef eg eh ei z3 bo aq ej ek el em z4 bp ar z5 bq au, hpC g9 n0 (Z0 dz ea eb ec ed ee ef eg eh ei z3 bo aq ej ek el em z4 bp ar z5 bq au) 29 ∧ ∃ cf z6 br av, hpC g9 n1 #[.pointer cf, .slice z6 br av] 61 ∧
 yeS u4 u5 fun cj =>
 Calls pP 28 #[.string u3] g9 fun e g5 => ∃ u6, e = .returned (.string u6) ∧ ∃ en eo ep eq er et eu ew ex ey z7 bt aw ez fa fb fc z8 bu ax z9 bv ay, hpC g5 n0 (Z0 en eo ep eq er et eu ew ex ey z7 bt aw ez fa fb fc z8 bu ax z9 bv ay) 29 ∧ ∃ ch aa bw az, hpC g5 n1 #[.pointer ch, .slice aa bw az] 61 ∧
 yeS cj u6 fun u7 =>
 brB (decide ((u7.size : Int) > 1048576)) (
 R (.tuple #[(.string (⟨#[]⟩ : BA)), .int .i64 2]) g5)
 (
 Calls pP 29 #[.string u7] g5 fun e h1 => ∃ u9, e = .returned (.string u9) ∧ ∃ fd fe ff fg fh fi fj fk fl fm ab bx ba fn fo fp fq ac bz bb ad ca bc, hpC h1 n0 (Z0 fd fe ff fg fh fi fj fk fl fm ab bx ba fn fo fp fq ac bz bb ad ca bc) 29 ∧ ∃ ci ae cb bd, hpC h1 n1 #[.pointer ci, .slice ae cb bd] 61 ∧
 R (.tuple #[.string u9, .int .i64 0]) h1))) :
 yaK yoV (yEA 395 [0, 0, 1, 0, 1, 1, 1]) (yEB [1, 1, 1, 0, 1, 0] [] R) (yh6 q0 q1 q2 q3 q4 q5 q6 q7 q8 q9 n0 n1 (i0, i1, i2, i3, i4, i5, i6, i7, i8, i9, j0, r0, n2, n3, j1, j2, j3, j4, r1, n4, n5, r2, n6, n7, r3, r4, n8, n9)) w0 :=
 lrule (yh6 q0 q1 q2 q3 q4 q5 q6 q7 q8 q9 n0 n1) (U28 I) h0 (by rintro m ⟨d7, c7, c8, c9, d0, d1, d2, d3, d4, d5, d6, a0, a2, a1, b9, c0, c1, c2, b3, b7, b5, b4, b8, b6, c6, c3, c5, c4⟩ w h; exact ⟨by kernel_rfl, by kernel_rfl, fun js => Eq.mpr (by kernel_rfl) (hr m d7 c7 c8 c9 d0 d1 d2 d3 d4 d5 d6 a0 a2 a1 b9 c0 c1 c2 b3 b7 b5 b4 b8 b6 c6 c3 c5 c4 w h)⟩)
theorem yF7 {a2 a1 : Nat} {a5 a4 : Nat} {a8 a7 : Nat} (h :
 ∀ b1, w.heap.size ≤ b1 →
 ∀ w2, Adv [] [b1] w w2 →
 Calls pP 12 #[(.agg (Z0 i0 i1 i2 i3 i4 i5 i6 i7 i8 i9 q0 a2 a1 j0 j1 j2 j3 q1 a5 a4 q2 a8 a7))] w2 fun e w3 => ∃ x4, e = .returned (.int .i64 x4) ∧ yaE [b1] w2 w3 ∧
 brB (x4 != 0) (
 R (.tuple #[(.string (⟨#[]⟩ : BA)), .int .i64 x4]) w3)
 (
 ∀ b5, w3.heap.size ≤ b5 →
 ∀ w6, Adv [] [b5] w3 w6 → hpC w6 b1 (Z0 i0 i1 i2 i3 i4 i5 i6 i7 i8 i9 q0 a2 a1 j0 j1 j2 j3 q1 a5 a4 q2 a8 a7) 29 →
 Calls pP 22 #[(.pointer (some ⟨b1, 0, none⟩))] w6 fun e w7 => ∃ p8 p9 e9 f0 f1 f2 f3 f4 f5 f6, e = .returned (.agg (Z4 p8 p9 e9 f0 f1 f2 f3 f4 f5 f6)) ∧ ya2 [b1] [(b5, 61)] [b5] w6 w7 ∧ ∃ d5 d6 d7 d8 d9 e0 e1 e2 e3 e4 c6 d2 c9 e5 e6 e7 e8 c7 d3 d0 c8 d4 d1, hpC w7 b1 (Z0 d5 d6 d7 d8 d9 e0 e1 e2 e3 e4 c6 d2 c9 e5 e6 e7 e8 c7 d3 d0 c8 d4 d1) 29 ∧
 ∀ c5, Adv [] [] w7 c5 → hpC c5 b1 (Z0 d5 d6 d7 d8 d9 e0 e1 e2 e3 e4 c6 d2 c9 e5 e6 e7 e8 c7 d3 d0 c8 d4 d1) 29 →
 hpC c5 b5 #[.pointer none, .slice none 0 0] 61 →
 yaK yoV (yEA 395 [0, 0, 1, 0, 1, 1, 1]) (yEB [1, 1, 1, 0, 1, 0] [] R) (yh6 p8 p9 e9 f0 f1 f2 f3 f4 f5 f6 b1 b5 (0, d5, d6, d7, d8, d9, e0, e1, e2, e3, e4, c6, d2, c9, e5, e6, e7, e8, c7, d3, d0, c8, d4, d1, none, none, 0, 0)) c5)) :
 CR pP 10 #[(.agg (Z0 i0 i1 i2 i3 i4 i5 i6 i7 i8 i9 q0 a2 a1 j0 j1 j2 j3 q1 a5 a4 q2 a8 a7))] w R :=
 yaA Tryz.wide_mixed (an := yoW) Tryz.func10 rfl rfl (by kernel_rfl) rfl (Eq.mpr (by kernel_rfl) h)
def yoX : LA := ⟨[0, 0, 1, 0, 1, 1], [2, 3, 5, 6, 10], [(2, 0, 0), (3, 1, 0), (5, 2, 0), (6, 3, 0)], 4, [0, 1, 2, 3]⟩
def yoY : List LA := [yoX]
abbrev yEC := dnF pP yoY (code Tryz.f14)
abbrev yKS := yaO pP yoY (code Tryz.f14)
abbrev yED (p : List Nat) (K : List Kh) (R : VWP) := yaO pP yoY (code Tryz.f14) p K (ya4 pP Tryz.f14 [] R)
def yh7 (bm0 : Nat) (e6 e7 e8 e9 f0 f1 f2 f3 f4 f5 : Int) (a0 : OA) (b2 a6 : Nat) (b8 b9 c0 c1 : Int) (a1 : OA) (b3 a7 : Nat) (a2 : OA) (b4 a8 bm1 : Nat) (f6 f7 f8 f9 g0 g1 g2 g3 g4 g5 : Int) (a3 : OA) (b5 a9 : Nat) (c2 c3 c4 c5 : Int) (a4 : OA) (b6 b0 : Nat) (a5 : OA) (b7 b1 bm2 : Nat) (c6 c7 c8 c9 d0 d1 d2 d3 d4 d5 : OA) (bm3 : Nat) (d6 d7 d8 d9 e0 e1 e2 e3 e4 e5 : OA) : Int → List Value × List TB := fun g6 => ([(.pointer (some ⟨bm0, 0, none⟩)), (.pointer (some ⟨bm1, 0, none⟩)), (.pointer (some ⟨bm2, 0, none⟩)), (.pointer (some ⟨bm3, 0, none⟩)), .int .i64 g6], [⟨bm0, 29, [.int .i64 e6, .int .i64 e7, .int .i64 e8, .int .i64 e9, .int .i64 f0, .int .i64 f1, .int .i64 f2, .int .i64 f3, .int .i64 f4, .int .i64 f5, .slice a0 b2 a6, .int .i64 b8, .int .i64 b9, .int .i64 c0, .int .i64 c1, .slice a1 b3 a7, .slice a2 b4 a8], true⟩, ⟨bm1, 29, [.int .i64 f6, .int .i64 f7, .int .i64 f8, .int .i64 f9, .int .i64 g0, .int .i64 g1, .int .i64 g2, .int .i64 g3, .int .i64 g4, .int .i64 g5, .slice a3 b5 a9, .int .i64 c2, .int .i64 c3, .int .i64 c4, .int .i64 c5, .slice a4 b6 b0, .slice a5 b7 b1], true⟩, ⟨bm2, 63, [.pointer c6, .pointer c7, .pointer c8, .pointer c9, .pointer d0, .pointer d1, .pointer d2, .pointer d3, .pointer d4, .pointer d5], true⟩, ⟨bm3, 63, [.pointer d6, .pointer d7, .pointer d8, .pointer d9, .pointer e0, .pointer e1, .pointer e2, .pointer e3, .pointer e4, .pointer e5], true⟩])
abbrev yBF (bm0 : Nat) (e6 e7 e8 e9 f0 f1 f2 f3 f4 f5 : Int) (a0 : OA) (b2 a6 : Nat) (b8 b9 c0 c1 : Int) (a1 : OA) (b3 a7 : Nat) (a2 : OA) (b4 a8 bm1 : Nat) (f6 f7 f8 f9 g0 g1 g2 g3 g4 g5 : Int) (a3 : OA) (b5 a9 : Nat) (c2 c3 c4 c5 : Int) (a4 : OA) (b6 b0 : Nat) (a5 : OA) (b7 b1 bm2 : Nat) (c6 c7 c8 c9 d0 d1 d2 d3 d4 d5 : OA) (bm3 : Nat) (d6 d7 d8 d9 e0 e1 e2 e3 e4 e5 : OA) (I : Nat → Int → World → Prop) (m : Nat) : Kh := KG (yh7 bm0 e6 e7 e8 e9 f0 f1 f2 f3 f4 f5 a0 b2 a6 b8 b9 c0 c1 a1 b3 a7 a2 b4 a8 bm1 f6 f7 f8 f9 g0 g1 g2 g3 g4 g5 a3 b5 a9 c2 c3 c4 c5 a4 b6 b0 a5 b7 b1 bm2 c6 c7 c8 c9 d0 d1 d2 d3 d4 d5 bm3 d6 d7 d8 d9 e0 e1 e2 e3 e4 e5) (U1 I) m
theorem yw0 {d6 d7 d8 d9 e0 e1 e2 e3 e4 e5 : OA} {I : Nat → Int → World → Prop} (m' : Nat) (h1 : m' < m) (h2 : I m' k8 w) : KS (yBF n0 i0 i1 i2 i3 i4 i5 i6 i7 i8 i9 q0 n1 n2 j0 j1 j2 j3 q1 n3 n4 q2 n5 n6 n7 j4 j5 j6 j7 j8 j9 k0 k1 k2 k3 q3 n8 n9 k4 k5 k6 k7 q4 o0 o1 q5 o2 o3 o4 q6 q7 q8 q9 r0 r1 r2 r3 r4 r5 o5 d6 d7 d8 d9 e0 e1 e2 e3 e4 e5 I m) (yh7 n0 i0 i1 i2 i3 i4 i5 i6 i7 i8 i9 q0 n1 n2 j0 j1 j2 j3 q1 n3 n4 q2 n5 n6 n7 j4 j5 j6 j7 j8 j9 k0 k1 k2 k3 q3 n8 n9 k4 k5 k6 k7 q4 o0 o1 q5 o2 o3 o4 q6 q7 q8 q9 r0 r1 r2 r3 r4 r5 o5 d6 d7 d8 d9 e0 e1 e2 e3 e4 e5 k8) w := ⟨m', h1, _, rfl, rfl, h2⟩
theorem yw1 {d6 d7 d8 d9 e0 e1 e2 e3 e4 e5 : OA} (I : Nat → Int → World → Prop) (m0 : Nat) (h0 : I m0 k8 w0)
 (hr : ∀ m e6 w, I m e6 w →
 hpC w n0 (Z0 i0 i1 i2 i3 i4 i5 i6 i7 i8 i9 q0 n1 n2 j0 j1 j2 j3 q1 n3 n4 q2 n5 n6) 29 →
 hpC w n7 (Z0 j4 j5 j6 j7 j8 j9 k0 k1 k2 k3 q3 n8 n9 k4 k5 k6 k7 q4 o0 o1 q5 o2 o3) 29 →
 hpC w o4 (Z4 q6 q7 q8 q9 r0 r1 r2 r3 r4 r5) 63 →
 hpC w o5 (Z4 d6 d7 d8 d9 e0 e1 e2 e3 e4 e5) 63 →
 brB (decide (e6 < 10)) (0 ≤ e6 ∧ e6 < ((10 : Nat) : Int) ∧
 ypC w (Addr.add ⟨o4, 0, none⟩ (Int.toNat e6 * 1)) fun db =>
 ymV db fun dc =>
 yaI .i64 w dc fun ba => 0 ≤ e6 ∧ e6 < ((10 : Nat) : Int) ∧
 ypC w (Addr.add ⟨o5, 0, none⟩ (Int.toNat e6 * 1)) fun y1 =>
 ymV y1 fun az =>
 yaI .i64 w az fun bb =>
 brB (ba != bb) (
 ∀ g7, Adv [] [] w g7 → hpC g7 n0 (Z0 i0 i1 i2 i3 i4 i5 i6 i7 i8 i9 q0 n1 n2 j0 j1 j2 j3 q1 n3 n4 q2 n5 n6) 29 →
 hpC g7 n7 (Z0 j4 j5 j6 j7 j8 j9 k0 k1 k2 k3 q3 n8 n9 k4 k5 k6 k7 q4 o0 o1 q5 o2 o3) 29 →
 hpC g7 o4 (Z4 q6 q7 q8 q9 r0 r1 r2 r3 r4 r5) 63 →
 hpC g7 o5 (Z4 d6 d7 d8 d9 e0 e1 e2 e3 e4 e5) 63 →
 R (.bool false) g7)
 (
 ∀ g8, Adv [] [] w g8 → hpC g8 n0 (Z0 i0 i1 i2 i3 i4 i5 i6 i7 i8 i9 q0 n1 n2 j0 j1 j2 j3 q1 n3 n4 q2 n5 n6) 29 →
 hpC g8 n7 (Z0 j4 j5 j6 j7 j8 j9 k0 k1 k2 k3 q3 n8 n9 k4 k5 k6 k7 q4 o0 o1 q5 o2 o3) 29 →
 hpC g8 o4 (Z4 q6 q7 q8 q9 r0 r1 r2 r3 r4 r5) 63 →
 hpC g8 o5 (Z4 d6 d7 d8 d9 e0 e1 e2 e3 e4 e5) 63 →
 KS (yBF n0 i0 i1 i2 i3 i4 i5 i6 i7 i8 i9 q0 n1 n2 j0 j1 j2 j3 q1 n3 n4 q2 n5 n6 n7 j4 j5 j6 j7 j8 j9 k0 k1 k2 k3 q3 n8 n9 k4 k5 k6 k7 q4 o0 o1 q5 o2 o3 o4 q6 q7 q8 q9 r0 r1 r2 r3 r4 r5 o5 d6 d7 d8 d9 e0 e1 e2 e3 e4 e5 I m) (yh7 n0 i0 i1 i2 i3 i4 i5 i6 i7 i8 i9 q0 n1 n2 j0 j1 j2 j3 q1 n3 n4 q2 n5 n6 n7 j4 j5 j6 j7 j8 j9 k0 k1 k2 k3 q3 n8 n9 k4 k5 k6 k7 q4 o0 o1 q5 o2 o3 o4 q6 q7 q8 q9 r0 r1 r2 r3 r4 r5 o5 d6 d7 d8 d9 e0 e1 e2 e3 e4 e5 (iw .i64 (e6 + 1))) g8))
 (
 Calls pP 37 #[.slice q0 n1 n2, .slice q3 n8 n9] w fun e g9 => ∃ u5, e = .returned (.bool u5) ∧ ∃ bc bd be bf bg bh bi bj bk bl v6 x3 w5 u7 u9 v0 v1 h3 u1 h7 h4 u2 h8, hpC g9 n0 (Z0 bc bd be bf bg bh bi bj bk bl v6 x3 w5 u7 u9 v0 v1 h3 u1 h7 h4 u2 h8) 29 ∧ ∃ bm bn bo bp bq br bt bu bv bw v7 x4 w6 v2 v3 v4 v5 h5 u3 h9 h6 u4 u0, hpC g9 n7 (Z0 bm bn bo bp bq br bt bu bv bw v7 x4 w6 v2 v3 v4 v5 h5 u3 h9 h6 u4 u0) 29 ∧ ∃ y2 y3 y4 y5 y6 y7 y8 y9 z0 z1, hpC g9 o4 (Z4 y2 y3 y4 y5 y6 y7 y8 y9 z0 z1) 63 ∧ ∃ z2 z3 z4 z5 z6 z7 z8 z9 aa ab, hpC g9 o5 (Z4 z2 z3 z4 z5 z6 z7 z8 z9 aa ab) 63 ∧
 brB u5 (
 Calls pP 38 #[(.agg (Z3 u7 u9 v0 v1 h3 u1 h7 h4 u2 h8)), (.agg (Z3 v2 v3 v4 v5 h5 u3 h9 h6 u4 u0))] g9 fun e h1 => ∃ u6, e = .returned (.bool u6) ∧ ∃ bx bz ca cb cc cd ce cf ch ci v8 x5 w7 cj ck cl cm v9 x6 w8 w1 x7 w9, hpC h1 n0 (Z0 bx bz ca cb cc cd ce cf ch ci v8 x5 w7 cj ck cl cm v9 x6 w8 w1 x7 w9) 29 ∧ ∃ cn co cp cq cr cs ct cu cv cw w2 x8 x0 cx cy cz da w3 x9 x1 w4 y0 x2, hpC h1 n7 (Z0 cn co cp cq cr cs ct cu cv cw w2 x8 x0 cx cy cz da w3 x9 x1 w4 y0 x2) 29 ∧ ∃ ac ad ae af ag ah ai aj ak am, hpC h1 o4 (Z4 ac ad ae af ag ah ai aj ak am) 63 ∧ ∃ an ao ap aq ar au av aw ax ay, hpC h1 o5 (Z4 an ao ap aq ar au av aw ax ay) 63 ∧
 R (.bool u6) h1)
 (
 R (.bool false) g9))) :
 yaK yoX (yEC 396 [0, 0, 1, 0, 1, 1]) (yED [1, 1, 0, 1, 0] [] R) (yh7 n0 i0 i1 i2 i3 i4 i5 i6 i7 i8 i9 q0 n1 n2 j0 j1 j2 j3 q1 n3 n4 q2 n5 n6 n7 j4 j5 j6 j7 j8 j9 k0 k1 k2 k3 q3 n8 n9 k4 k5 k6 k7 q4 o0 o1 q5 o2 o3 o4 q6 q7 q8 q9 r0 r1 r2 r3 r4 r5 o5 d6 d7 d8 d9 e0 e1 e2 e3 e4 e5 k8) w0 :=
 lrule (yh7 n0 i0 i1 i2 i3 i4 i5 i6 i7 i8 i9 q0 n1 n2 j0 j1 j2 j3 q1 n3 n4 q2 n5 n6 n7 j4 j5 j6 j7 j8 j9 k0 k1 k2 k3 q3 n8 n9 k4 k5 k6 k7 q4 o0 o1 q5 o2 o3 o4 q6 q7 q8 q9 r0 r1 r2 r3 r4 r5 o5 d6 d7 d8 d9 e0 e1 e2 e3 e4 e5) (U1 I) h0 (by rintro m e6 w h; exact ⟨by kernel_rfl, by kernel_rfl, fun js => Eq.mpr (by kernel_rfl) (hr m e6 w h)⟩)
theorem yF8 {a3 a2 : Nat} {a6 a5 : Nat} {a9 a8 : Nat} {b4 b3 : Nat} {b7 b6 : Nat} {c0 b9 : Nat} (h :
 ∀ b1, w.heap.size ≤ b1 →
 ∀ b2, w.heap.size ≤ b2 →
 ∀ w3, Adv [] [b2, b1] w w3 → hpC w3 b1 (Z0 i0 i1 i2 i3 i4 i5 i6 i7 i8 i9 q0 a3 a2 j0 j1 j2 j3 q1 a6 a5 q2 a9 a8) 29 →
 Calls pP 22 #[(.pointer (some ⟨b1, 0, none⟩))] w3 fun e w4 => ∃ p5 p6 p7 p8 p9 h1 h2 h3 h4 h5, e = .returned (.agg (Z4 p5 p6 p7 p8 p9 h1 h2 h3 h4 h5)) ∧ ya2 [b1] [(b2, 29)] [b2] w3 w4 ∧ ∃ y6 y7 y8 y9 z0 z1 z2 z3 z4 z5 x7 y3 y0 z6 z7 z8 z9 x8 y4 y1 x9 y5 y2, hpC w4 b1 (Z0 y6 y7 y8 y9 z0 z1 z2 z3 z4 z5 x7 y3 y0 z6 z7 z8 z9 x8 y4 y1 x9 y5 y2) 29 ∧
 ∀ f2, Adv [] [] w4 f2 → hpC f2 b1 (Z0 y6 y7 y8 y9 z0 z1 z2 z3 z4 z5 x7 y3 y0 z6 z7 z8 z9 x8 y4 y1 x9 y5 y2) 29 →
 hpC f2 b2 (Z0 j4 j5 j6 j7 j8 j9 k0 k1 k2 k3 q3 b4 b3 k4 k5 k6 k7 q4 b7 b6 q5 c0 b9) 29 →
 Calls pP 22 #[(.pointer (some ⟨b2, 0, none⟩))] f2 fun e e9 => ∃ h6 h7 h8 h9 u0 u1 u2 u3 u4 u5, e = .returned (.agg (Z4 h6 h7 h8 h9 u0 u1 u2 u3 u4 u5)) ∧ ∃ u6 u7 u9 v0 v1 v2 v3 v4 v5 v6 f3 g5 f9 v7 v8 v9 w0 f4 g6 g0 f5 g7 g1, hpC e9 b1 (Z0 u6 u7 u9 v0 v1 v2 v3 v4 v5 v6 f3 g5 f9 v7 v8 v9 w0 f4 g6 g0 f5 g7 g1) 29 ∧ ∃ w1 w2 w5 w6 w7 w8 w9 x0 x1 x2 f6 g8 g2 x3 x4 x5 x6 f7 g9 g3 f8 h0 g4, hpC e9 b2 (Z0 w1 w2 w5 w6 w7 w8 w9 x0 x1 x2 f6 g8 g2 x3 x4 x5 x6 f7 g9 g3 f8 h0 g4) 29 ∧
 ∀ f0, e9.heap.size ≤ f0 →
 ∀ f1, e9.heap.size ≤ f1 →
 ∀ a0, Adv [] [f1, f0] e9 a0 → hpC a0 b1 (Z0 u6 u7 u9 v0 v1 v2 v3 v4 v5 v6 f3 g5 f9 v7 v8 v9 w0 f4 g6 g0 f5 g7 g1) 29 →
 hpC a0 b2 (Z0 w1 w2 w5 w6 w7 w8 w9 x0 x1 x2 f6 g8 g2 x3 x4 x5 x6 f7 g9 g3 f8 h0 g4) 29 →
 hpC a0 f0 (Z4 p5 p6 p7 p8 p9 h1 h2 h3 h4 h5) 63 →
 hpC a0 f1 (Z4 h6 h7 h8 h9 u0 u1 u2 u3 u4 u5) 63 →
 yaK yoX (yEC 396 [0, 0, 1, 0, 1, 1]) (yED [1, 1, 0, 1, 0] [] R) (yh7 b1 u6 u7 u9 v0 v1 v2 v3 v4 v5 v6 f3 g5 f9 v7 v8 v9 w0 f4 g6 g0 f5 g7 g1 b2 w1 w2 w5 w6 w7 w8 w9 x0 x1 x2 f6 g8 g2 x3 x4 x5 x6 f7 g9 g3 f8 h0 g4 f0 p5 p6 p7 p8 p9 h1 h2 h3 h4 h5 f1 h6 h7 h8 h9 u0 u1 u2 u3 u4 u5 0) a0) :
 CR pP 14 #[(.agg (Z0 i0 i1 i2 i3 i4 i5 i6 i7 i8 i9 q0 a3 a2 j0 j1 j2 j3 q1 a6 a5 q2 a9 a8)), (.agg (Z0 j4 j5 j6 j7 j8 j9 k0 k1 k2 k3 q3 b4 b3 k4 k5 k6 k7 q4 b7 b6 q5 c0 b9))] w R :=
 yaA Tryz.wide_mixed (an := yoY) Tryz.func14 rfl rfl (by kernel_rfl) rfl (Eq.mpr (by kernel_rfl) h)
theorem yF9 {a2 a1 : Nat} {a5 a4 : Nat} {a9 a8 : Nat} (h :
 ∀ b1, w.heap.size ≤ b1 →
 ∀ b2, w.heap.size ≤ b2 →
 ∀ b3, w.heap.size ≤ b3 →
 ∀ w4, Adv [] [b3, b2, b1] w w4 →
 Calls pP 20 #[.slice q0 a2 a1] w4 fun e w5 => ∃ a6 n7 c8, e = .returned (.slice a6 n7 c8) ∧ yaE [b1, b2, b3] w4 w5 ∧
 ∀ w9, Adv [b3] [] w5 w9 →
 Calls pP 21 #[(.agg (Z3 j0 j1 j2 j3 q1 a5 a4 q2 a9 a8))] w9 fun e d4 => ∃ d6 d7 d8 d9 c7 d2 d0 c9 d3 d1, e = .returned (.agg (Z3 d6 d7 d8 d9 c7 d2 d0 c9 d3 d1)) ∧ yaE [b1, b2, b3] w9 d4 ∧
 ∀ d5, Adv [b2, b3] [] d4 d5 →
 R (.agg (Z0 i0 i1 i2 i3 i4 i5 i6 i7 i8 i9 a6 n7 c8 d6 d7 d8 d9 c7 d2 d0 c9 d3 d1)) d5) :
 CR pP 9 #[(.agg (Z0 i0 i1 i2 i3 i4 i5 i6 i7 i8 i9 q0 a2 a1 j0 j1 j2 j3 q1 a5 a4 q2 a9 a8))] w R :=
 yaA Tryz.wide_mixed (an := []) Tryz.func9 rfl rfl (by kernel_rfl) rfl (Eq.mpr (by kernel_rfl) h)
theorem yGa (h :
 ∀ b1, w.heap.size ≤ b1 →
 ∀ w2, Adv [] [b1] w w2 →
 Calls pP 10 #[(.agg (Z0 4 0 1 2 0 0 5 0 0 0 none 0 0 0 0 0 0 none 0 0 none 0 0))] w2 fun e w3 => ∃ s4 x5, e = .returned (.tuple #[.string s4, .int .i64 x5]) ∧ yaE [b1] w2 w3 ∧
 Calls pP 17 #[.string s4] w3 fun e w6 => ∃ x7 x8 x9 d0 d2 d3 d4 d5 d6 d7 a8 b5 b2 d8 d9 e0 e1 a9 b6 b3 b0 b7 b4 f5, e = .returned (.tuple #[(.agg (Z0 x7 x8 x9 d0 d2 d3 d4 d5 d6 d7 a8 b5 b2 d8 d9 e0 e1 a9 b6 b3 b0 b7 b4)), .int .i64 f5]) ∧ yaE [b1] w3 w6 ∧
 ∀ a0, w6.heap.size ≤ a0 →
 yeS s4 (⟨#[120]⟩ : BA) fun u2 =>
 ∀ c4, Adv [] [a0] w6 c4 →
 Calls pP 17 #[.string u2] c4 fun e c5 => ∃ u4 u5 u6 u7 u9 v0 v1 v2 v3 v4 h3 h9 h6 v5 v6 v7 v8 h4 u0 h7 h5 u1 h8 f6, e = .returned (.tuple #[(.agg (Z0 u4 u5 u6 u7 u9 v0 v1 v2 v3 v4 h3 h9 h6 v5 v6 v7 v8 h4 u0 h7 h5 u1 h8)), .int .i64 f6]) ∧ yaE [b1, a0] c4 c5 ∧
 ∀ a2, c5.heap.size ≤ a2 →
 ∀ c6, Adv [] [a2] c5 c6 →
 Calls pP 10 #[(.agg (Z0 12 0 0 0 0 0 0 0 0 0 none 0 0 0 0 0 0 none 0 0 none 0 0))] c6 fun e c7 => ∃ u3 f7, e = .returned (.tuple #[.string u3, .int .i64 f7]) ∧ yaE [b1, a0, a2] c6 c7 ∧
 Calls pP 11 #[(.agg (Z0 4 0 1 2 0 0 5 0 0 0 none 0 0 0 0 0 0 none 0 0 none 0 0))] c7 fun e c8 => ∃ f1 f8, e = .returned (.tuple #[.string f1, .int .i64 f8]) ∧ yaE [b1, a0, a2] c7 c8 ∧
 Calls pP 19 #[(.agg (Z0 4 0 1 2 0 0 5 0 0 0 none 0 0 0 0 0 0 none 0 0 none 0 0))] c8 fun e a3 => ∃ f9 g0 g1 g2 g3 g4 g5 g6 g7 g8 e2 e8 e5 g9 h0 h1 h2 e3 e9 e6 e4 f0 e7, e = .returned (.agg (Z0 f9 g0 g1 g2 g3 g4 g5 g6 g7 g8 e2 e8 e5 g9 h0 h1 h2 e3 e9 e6 e4 f0 e7)) ∧ yaE [b1, a0, a2] c8 a3 ∧
 ∀ a1, a3.heap.size ≤ a1 →
 brB (x5 == 0) (
 brB (s4.toList == f1.toList) (
 brB (f8 == 0) (
 brB (f5 == 0) (
 ∀ c9, Adv [] [a1] a3 c9 →
 Calls pP 15 #[(.agg (Z0 4 0 1 2 0 0 5 0 0 0 none 0 0 0 0 0 0 none 0 0 none 0 0)), (.agg (Z0 x7 x8 x9 d0 d2 d3 d4 d5 d6 d7 a8 b5 b2 d8 d9 e0 e1 a9 b6 b3 b0 b7 b4))] c9 fun e a4 => ∃ f2, e = .returned (.bool f2) ∧ yaE [b1, a0, a2, a1] c9 a4 ∧
 brB f2 (
 brB (f6 == 180) (
 brB (f7 == 180) (
 Calls pP 14 #[(.agg (Z0 4 0 1 2 0 0 5 0 0 0 none 0 0 0 0 0 0 none 0 0 none 0 0)), (.agg (Z0 x7 x8 x9 d0 d2 d3 d4 d5 d6 d7 a8 b5 b2 d8 d9 e0 e1 a9 b6 b3 b0 b7 b4))] a4 fun e a5 => ∃ f3, e = .returned (.bool f3) ∧ yaE [b1, a0, a2, a1] a4 a5 ∧
 brB f3 (
 Calls pP 14 #[(.agg (Z0 4 0 1 2 0 0 5 0 0 0 none 0 0 0 0 0 0 none 0 0 none 0 0)), (.agg (Z0 0 0 0 0 0 0 0 0 0 0 none 0 0 0 0 0 0 none 0 0 none 0 0))] a5 fun e a6 => ∃ f4, e = .returned (.bool f4) ∧ yaE [b1, a0, a2, a1] a5 a6 ∧
 brB (!f4) (
 Calls pP 15 #[(.agg (Z0 f9 g0 g1 g2 g3 g4 g5 g6 g7 g8 e2 e8 e5 g9 h0 h1 h2 e3 e9 e6 e4 f0 e7)), (.agg (Z0 4 0 1 2 0 0 5 0 0 0 none 0 0 0 0 0 0 none 0 0 none 0 0))] a6 fun e a7 => ∃ b8, e = .returned (.bool b8) ∧ yaE [b1, a0, a2, a1] a6 a7 ∧
 brB b8 (
 Calls pP 12 #[(.agg (Z0 0 0 0 (-1) 0 0 0 0 0 0 none 0 0 0 0 0 0 none 0 0 none 0 0))] a7 fun e b9 => ∃ d1, e = .returned (.int .i64 d1) ∧ yaE [b1, a0, a2, a1] a7 b9 ∧
 R (.bool (d1 == 1)) b9)
 (
 R (.bool false) a7))
 (
 R (.bool false) a6))
 (
 R (.bool false) a5))
 (
 R (.bool false) a4))
 (
 R (.bool false) a4))
 (
 R (.bool false) a4))
 (
 ∀ c0, Adv [] [a1] a3 c0 →
 R (.bool false) c0))
 (
 ∀ c1, Adv [] [a1] a3 c1 →
 R (.bool false) c1))
 (
 ∀ c2, Adv [] [a1] a3 c2 →
 R (.bool false) c2))
 (
 ∀ c3, Adv [] [a1] a3 c3 →
 R (.bool false) c3)) :
 CR pP 16 #[] w R :=
 yaA Tryz.wide_mixed (an := []) Tryz.func16 rfl rfl (by kernel_rfl) rfl (Eq.mpr (by kernel_rfl) h)
theorem yGb (h :
 ∀ b1, w.heap.size ≤ b1 →
 ∀ b2, w.heap.size ≤ b2 →
 ∀ w3, Adv [] [b2, b1] w w3 →
 Calls pP 9 #[(.agg (Z0 i0 i1 i2 i3 i4 i5 i6 i7 i8 i9 q0 n0 n1 j0 j1 j2 j3 q1 n2 n3 q2 n4 n5))] w3 fun e w4 => ∃ x5 x6 x7 x8 x9 a9 b0 b3 b4 b5 a0 a6 a3 b6 b7 b8 b9 a1 a7 a4 a2 a8 a5, e = .returned (.agg (Z0 x5 x6 x7 x8 x9 a9 b0 b3 b4 b5 a0 a6 a3 b6 b7 b8 b9 a1 a7 a4 a2 a8 a5)) ∧ yaE [b1, b2] w3 w4 ∧
 ∀ v6, Adv [b1] [] w4 v6 →
 Calls pP 9 #[(.agg (Z0 j4 j5 j6 j7 j8 j9 k0 k1 k2 k3 q3 n6 n7 k4 k5 k6 k7 q4 n8 n9 q5 o0 o1))] v6 fun e y6 => ∃ h6 h7 h8 h9 u0 u1 u2 u3 u4 u5 g7 h3 h0 u6 u7 u9 v0 g8 h4 h1 g9 h5 h2, e = .returned (.agg (Z0 h6 h7 h8 h9 u0 u1 u2 u3 u4 u5 g7 h3 h0 u6 u7 u9 v0 g8 h4 h1 g9 h5 h2)) ∧ yaE [b1, b2] v6 y6 ∧
 ∀ v7, Adv [b2] [] y6 v7 →
 Calls pP 9 #[(.agg (Z0 x5 x6 x7 x8 x9 a9 b0 b3 b4 b5 a0 a6 a3 b6 b7 b8 b9 a1 a7 a4 a2 a8 a5))] v7 fun e v8 => ∃ y9 z0 z1 z2 z3 z4 z5 z6 z7 z8 w6 x2 w9 z9 aa ab ac w7 x3 x0 w8 x4 x1, e = .returned (.agg (Z0 y9 z0 z1 z2 z3 z4 z5 z6 z7 z8 w6 x2 w9 z9 aa ab ac w7 x3 x0 w8 x4 x1)) ∧ yaE [b1, b2] v7 v8 ∧
 ∀ c0, v8.heap.size ≤ c0 →
 ∀ v9, Adv [] [c0] v8 v9 →
 Calls pP 10 #[(.agg (Z0 x5 x6 x7 x8 x9 a9 b0 b3 b4 b5 a0 a6 a3 b6 b7 b8 b9 a1 a7 a4 a2 a8 a5))] v9 fun e w0 => ∃ y0 ad, e = .returned (.tuple #[.string y0, .int .i64 ad]) ∧ yaE [b1, b2, c0] v9 w0 ∧
 Calls pP 11 #[(.agg (Z0 x5 x6 x7 x8 x9 a9 b0 b3 b4 b5 a0 a6 a3 b6 b7 b8 b9 a1 a7 a4 a2 a8 a5))] w0 fun e v1 => ∃ y1 ae, e = .returned (.tuple #[.string y1, .int .i64 ae]) ∧ yaE [b1, b2, c0] w0 v1 ∧
 brB (y0.toList == y1.toList) (
 brB (ad == ae) (
 ∀ w1, Adv [] [] v1 w1 →
 Calls pP 12 #[(.agg (Z0 x5 x6 x7 x8 x9 a9 b0 b3 b4 b5 a0 a6 a3 b6 b7 b8 b9 a1 a7 a4 a2 a8 a5))] w1 fun e w2 => ∃ af, e = .returned (.int .i64 af) ∧ yaE [b1, b2, c0] w1 w2 ∧ (((.agg (Z0 x5 x6 x7 x8 x9 a9 b0 b3 b4 b5 a0 a6 a3 b6 b7 b8 b9 a1 a7 a4 a2 a8 a5)) : Value) = (.agg (Z0 x5 x6 x7 x8 x9 a9 b0 b3 b4 b5 a0 a6 a3 b6 b7 b8 b9 a1 a7 a4 a2 a8 a5))) ∧
 Calls pP 13 #[(.agg (Z0 x5 x6 x7 x8 x9 a9 b0 b3 b4 b5 a0 a6 a3 b6 b7 b8 b9 a1 a7 a4 a2 a8 a5))] w2 fun e v2 => ∃ ag, e = .returned (.int .i64 ag) ∧ yaE [b1, b2, c0] w2 v2 ∧
 brB (af == ag) (
 Calls pP 14 #[(.agg (Z0 x5 x6 x7 x8 x9 a9 b0 b3 b4 b5 a0 a6 a3 b6 b7 b8 b9 a1 a7 a4 a2 a8 a5)), (.agg (Z0 h6 h7 h8 h9 u0 u1 u2 u3 u4 u5 g7 h3 h0 u6 u7 u9 v0 g8 h4 h1 g9 h5 h2))] v2 fun e w5 => ∃ y2, e = .returned (.bool y2) ∧ yaE [b1, b2, c0] v2 w5 ∧ (((.agg (Z0 h6 h7 h8 h9 u0 u1 u2 u3 u4 u5 g7 h3 h0 u6 u7 u9 v0 g8 h4 h1 g9 h5 h2)) : Value) = (.agg (Z0 h6 h7 h8 h9 u0 u1 u2 u3 u4 u5 g7 h3 h0 u6 u7 u9 v0 g8 h4 h1 g9 h5 h2))) ∧ (((.agg (Z0 x5 x6 x7 x8 x9 a9 b0 b3 b4 b5 a0 a6 a3 b6 b7 b8 b9 a1 a7 a4 a2 a8 a5)) : Value) = (.agg (Z0 x5 x6 x7 x8 x9 a9 b0 b3 b4 b5 a0 a6 a3 b6 b7 b8 b9 a1 a7 a4 a2 a8 a5))) ∧
 Calls pP 15 #[(.agg (Z0 x5 x6 x7 x8 x9 a9 b0 b3 b4 b5 a0 a6 a3 b6 b7 b8 b9 a1 a7 a4 a2 a8 a5)), (.agg (Z0 h6 h7 h8 h9 u0 u1 u2 u3 u4 u5 g7 h3 h0 u6 u7 u9 v0 g8 h4 h1 g9 h5 h2))] w5 fun e v3 => ∃ y3, e = .returned (.bool y3) ∧ yaE [b1, b2, c0] w5 v3 ∧
 brB (y2 == y3) (
 Calls pP 15 #[(.agg (Z0 x5 x6 x7 x8 x9 a9 b0 b3 b4 b5 a0 a6 a3 b6 b7 b8 b9 a1 a7 a4 a2 a8 a5)), (.agg (Z0 y9 z0 z1 z2 z3 z4 z5 z6 z7 z8 w6 x2 w9 z9 aa ab ac w7 x3 x0 w8 x4 x1))] v3 fun e v4 => ∃ y4, e = .returned (.bool y4) ∧ yaE [b1, b2, c0] v3 v4 ∧
 brB y4 (
 Calls pP 16 #[] v4 fun e y7 => ∃ y5, e = .returned (.bool y5) ∧ yaE [b1, b2, c0] v4 y7 ∧
 R (.bool y5) y7)
 (
 R (.bool false) v4))
 (
 R (.bool false) v3))
 (
 R (.bool false) v2))
 (
 ∀ y8, Adv [] [] v1 y8 →
 R (.bool false) y8))
 (
 ∀ v5, Adv [] [] v1 v5 →
 R (.bool false) v5)) :
 CR pP 3 #[(.agg (Z0 i0 i1 i2 i3 i4 i5 i6 i7 i8 i9 q0 n0 n1 j0 j1 j2 j3 q1 n2 n3 q2 n4 n5)), (.agg (Z0 j4 j5 j6 j7 j8 j9 k0 k1 k2 k3 q3 n6 n7 k4 k5 k6 k7 q4 n8 n9 q5 o0 o1))] w R :=
 yaA Tryz.wide_mixed (an := []) Tryz.func3 rfl rfl (by kernel_rfl) rfl (Eq.mpr (by kernel_rfl) h)
end
theorem yfM {x : Int} (h0 : 0 ≤ x) (h : x.toNat ≤ 1099511627776) : num x = true := yqN h0 (by omega)
theorem yfX {w : World} {r : PRep} {f p : Sl} (h : RepAt w r f p) :
  Calls pP 33 #[r.v f p] w fun e w' => e = .returned (.tuple #[.string (if yfR r = 0 then bs (ydK r) else bs []), .int .i64 (yfR r)]) ∧ Mod [] w w' := by
 refine yaP (yF6 ?_)
 intro b1 f1 w2 A2
 refine (yCx (h.keep0 A2.mod)).mono ?_
 rintro _ w3 ⟨rfl, M3⟩
 have N3 := A2.mod.go0 M3 (by simp)
 refine ⟨_, rfl, yaE.of0 M3, yaB (fun g => ?_) fun g => ?_⟩
 ·have g : yfR r ≠ 0 := by simpa using g
  rw [if_neg g]; exact ⟨rfl, N3⟩
 have g : yfR r = 0 := by simpa using g
 have G := RepGood.of g
 rw [if_pos g, g]
 have e4 := h.found.1
 have e5 := h.parts.1
 have lf := G.lf
 have lp := G.lp
 obtain ⟨n0, n1, n2, n3⟩ := G.nn
 have d0 := G.hd r.e.toNat (by simp [hdL])
 have d1 := G.hd r.off.toNat (by simp [hdL])
 have d2 := G.hd r.n.toNat (by simp [hdL])
 have d3 := G.hd r.gen.toNat (by simp [hdL])
 have v0 := (yaL r.e.toNat (by omega)).2
 have v1 := (yaL r.off.toNat (by omega)).2
 have v2 := (yaL r.n.toNat (by omega)).2
 have v3 := (yaL r.gen.toNat (by omega)).2
 have v4 := (yaL f.n (by omega)).2
 have v5 := (yaL p.n (by omega)).2
 intro w5 A5
 refine (yb7 (yfM n0 d0) w5).mono ?_
 rintro _ w6 ⟨rfl, M6⟩
 refine ⟨_, rfl, yaE.of0 M6, rfl, rfl, rfl, rfl, ?_⟩
 refine (yb7 (yfM n1 d1) w6).mono ?_
 rintro _ w7 ⟨rfl, M7⟩
 refine ⟨_, rfl, yaE.of0 M7, rfl, rfl, rfl, by rw [yaD, yaD]; omega, ?_⟩
 rw [ya9]
 refine (yb7 (yfM n2 d2) w7).mono ?_
 rintro _ w8 ⟨rfl, M8⟩
 refine ⟨_, rfl, yaE.of0 M8, rfl, rfl, by rw [yaD, yaD, List.length_append]; omega, ?_⟩
 rw [ya9]
 refine (yb7 (yfM n3 d3) w8).mono ?_
 rintro _ w9 ⟨rfl, M9⟩
 refine ⟨_, rfl, yaE.of0 M9, rfl, by rw [yaD, yaD, List.length_append, List.length_append]; omega, ?_⟩
 rw [ya9]
 refine (yb7 (x := (f.n : Nat)) (yqN (by omega) (by omega)) w9).mono ?_
 rintro _ w10 ⟨rfl, M10⟩
 refine ⟨_, rfl, yaE.of0 M10, by rw [yaD, yaD, List.length_append, List.length_append, List.length_append, Int.toNat_natCast]; omega, ?_⟩
 rw [ya9, Int.toNat_natCast]
 have N10 : Mod [] w w10 := (((((N3.go0 A5.mod (by simp)).go0 M6 (by simp)).go0 M7 (by simp)).go0 M8 (by simp)).go0 M9 (by simp)).go0 M10 (by simp)
 have eh : yaJ r.e.toNat ++ yaJ r.off.toNat ++ yaJ r.n.toNat ++ yaJ r.gen.toNat ++ yaJ f.n = ydE r 0 := by
  simp [ydE, hdL, e4]
 rw [eh]
 refine ywV (fun mm s x w' => ∃ k : Nat, x = k ∧ k ≤ r.found.length ∧ s = bs (ydE r k) ∧ Mod [] w w' ∧ mm = r.found.length - k) r.found.length ⟨0, rfl, by omega, rfl, N10, rfl⟩ ?_
 rintro mm s x w11 ⟨k, rfl, hk, rfl, M11, rfl⟩
 have l2 := G.len2 k
 refine yaC (fun hlt => ?_) fun hge => ?_
 ·obtain ⟨y, hy⟩ : ∃ y, r.found[k]? = some y := ⟨_, List.getElem?_eq_getElem (by omega)⟩
  obtain ⟨y1, y2⟩ := G.f y (List.mem_of_getElem? hy)
  have ly := G.lenF (List.mem_of_getElem? hy)
  have l2' := G.len2 (k + 1)
  refine (h.keep0 M11).found.ixW hy fun q hq => ?_
  intro w12 A12
  have N12 := M11.go0 A12.mod (by simp)
  refine yaF (x := y.off) (by simpa [add_zero] using hq w12 A12.mod 0 _ rfl) ?_
  refine (h.keep0 N12).found.ixW hy fun q hq => ?_
  have hc := hq w12 (Mod.refl _)
  rw [yeY, yeY, yeY]
  refine yaN (hc 1 _ rfl) (yaG (hc 2 _ rfl) (yaN (hc 3 _ rfl) (yaG (hc 4 _ rfl) ?_)))
  refine (yb7 y1 w12).mono ?_
  rintro _ w13 ⟨rfl, M13⟩
  have hd := hq w13 M13
  refine ⟨_, rfl, yaE.of0 M13, ?_, rfl, ?_⟩
  ·exact yaN (hd 1 _ rfl) (yaG (hd 2 _ rfl) (yaN (hd 3 _ rfl) (yaG (hd 4 _ rfl) rfl)))
  refine (yqO y.r y2 w13).mono ?_
  rintro _ w14 ⟨rfl, M14⟩
  have N14 := (N12.go0 M13 (by simp)).go0 M14 (by simp)
  have eF : yaJ y.off.toNat ++ yf7 y.r = yfG y := rfl
  refine ⟨_, rfl, yaE.of0 M14, by rw [yaD, yaD, ← List.length_append, eF]; omega, ?_⟩
  rw [ya9, eF]
  refine ⟨by rw [yaD, yaD]; omega, ?_⟩
  rw [ya9]
  refine ywU (r.found.length - (k + 1)) (by omega) ⟨k + 1, by rw [yaH (by omega) (by omega)]; omega, by omega, ?_, N14, rfl⟩
  rw [ydE, ydE, ybB hy, ← List.append_assoc]
 ·have hk : k = r.found.length := by omega
  subst hk
  refine (yb7 (x := (p.n : Nat)) (yqN (by omega) (by omega)) w11).mono ?_
  rintro _ w12 ⟨rfl, M12⟩
  refine ⟨_, rfl, yaE.of0 M12, by rw [yaD, yaD, Int.toNat_natCast]; omega, ?_⟩
  rw [ya9, Int.toNat_natCast]
  have e3 : ydE r r.found.length ++ yaJ p.n = ye9 r 0 := by rw [ydE, ye9, List.take_length, e5]; simp
  rw [e3]
  refine ywX (fun mm s x w' => ∃ k : Nat, x = k ∧ k ≤ r.parts.length ∧ s = bs (ye9 r k) ∧ Mod [] w w' ∧ mm = r.parts.length - k) r.parts.length ⟨0, rfl, by omega, rfl, M11.go0 M12 (by simp), rfl⟩ ?_
  rintro mm s x w13 ⟨k, rfl, hk, rfl, M13, rfl⟩
  have l3 := G.len3 k
  refine yaC (fun hlt => ?_) fun hge => ?_
  ·obtain ⟨y, hy⟩ : ∃ y, r.parts[k]? = some y := ⟨_, List.getElem?_eq_getElem (by omega)⟩
   obtain ⟨y1, y2⟩ := G.p y (List.mem_of_getElem? hy)
   have ly := G.lenP (List.mem_of_getElem? hy)
   refine (h.keep0 M13).parts.ixW hy fun q hq => ?_
   intro w14 A14
   have N14 := M13.go0 A14.mod (by simp)
   refine yaG (x := y.t) (by simpa [add_zero] using hq w14 A14.mod 0 _ rfl) ?_
   refine (h.keep0 N14).parts.ixW hy fun q hq => ?_
   refine yaF (x := y.n) (hq w14 (Mod.refl _) 1 _ rfl) ?_
   refine (ybG y.t (by omega) w14).mono ?_
   rintro _ w15 ⟨rfl, M15⟩
   refine ⟨_, rfl, yaE.of0 M15, yaF (x := y.n) (hq w15 M15 1 _ rfl) rfl, rfl, ?_⟩
   refine (yb7 y1 w15).mono ?_
   rintro _ w16 ⟨rfl, M16⟩
   have N16 := (N14.go0 M15 (by simp)).go0 M16 (by simp)
   have eP : ybU y.t ++ yaJ y.n.toNat = ycW y := rfl
   refine ⟨_, rfl, yaE.of0 M16, by rw [yaD, yaD, ← List.length_append, eP]; omega, ?_⟩
   rw [ya9, eP]
   refine ⟨by rw [yaD, yaD]; omega, ?_⟩
   rw [ya9]
   refine ywW (r.parts.length - (k + 1)) (by omega) ⟨k + 1, by rw [yaH (by omega) (by omega)]; omega, by omega, ?_, N16, rfl⟩
   rw [ye9, ye9, ybB hy, ← List.append_assoc]
  ·have hk : k = r.parts.length := by omega
   subst hk
   exact ⟨rfl, M13⟩
theorem ykJ {w : World} {m : PMail} {s f p : Sl} (h : MailAt w m s f p) (hlc : m.calls.length ≤ 100000) :
  Calls pP 13 #[m.v s f p] w fun e w' => e = .returned (.int .i64 (yb5 m)) ∧ Mod [] w w' := by
 obtain ⟨ll, hll, hop, hcs⟩ := h.calls
 have hl : ll.length ≤ 1000000 := by have := congrArg List.length hcs; simp at *; omega
 refine yaP (yBB ?_)
 intro b1 f1
 refine yaC (fun g1 => fun w2 A2 => ⟨by rw [yb5, if_pos (.inl g1)], A2.mod⟩) fun g1 => ?_
 refine yaC (fun g2 => fun w2 A2 => ⟨by rw [yb5, if_pos (.inr (by omega))], A2.mod⟩) fun g2 => ?_
 have hE : yb5 m = if ((yaR m).all num) = false then 1 else if yb8 m.calls ≠ 0 then yb8 m.calls else yfR m.r := by rw [yb5, if_neg (by omega)]
 intro w4 A4
 refine (yhV m s f p).mono ?_
 rintro e w5 ⟨_, rfl, c5, rfl, h5, M5⟩
 have N5 := A4.mod.go0 M5 (by simp)
 refine ⟨_, _, _, rfl, yaE.of0 M5, ?_⟩
 refine ymN (fun mm x w' => ∃ k : Nat, x = k ∧ k ≤ 10 ∧ ((yaR m).take k).all num = true ∧ mm = 10 - k ∧ Mod [] w5 w') 10 ⟨0, rfl, by omega, by simp, rfl, Mod.refl _⟩ ?_
 rintro mm x w6 ⟨k, rfl, hk, hal, rfl, M6⟩
 have N6 := N5.go0 M6 (by simp)
 refine yaC (fun hlt => ?_) fun hge => ?_
 ·have hk' : k < 10 := by omega
  obtain ⟨x, hx⟩ : ∃ x, (yaR m)[k]? = some x := ⟨_, List.getElem?_eq_getElem (by simpa [yaR] using hk')⟩
  refine (h5.keep0 M6).ix hx fun q hq => yaF (x := x) (by simpa [add_zero] using hq 0 _ rfl) ?_
  refine (ycM x w6).mono ?_
  rintro _ w7 ⟨rfl, rfl⟩
  refine ⟨_, rfl, yaE.of0 (Mod.refl _), yaB (fun g3 => ⟨?_, N6⟩) fun g3 => ?_⟩
  ·rw [hE, if_pos]
   apply Bool.eq_false_iff.2
   intro hh
   have := List.all_eq_true.1 hh x (List.mem_of_getElem? hx)
   rw [this] at g3; cases g3
  ·exact ymM (10 - (k + 1)) (by omega) ⟨k + 1, by rw [yaH (by omega) (by omega)]; omega, by omega, by rw [yb6 hx, hal, yhJ g3]; rfl, rfl, M6⟩
 ·have hk' : k = 10 := by omega
  subst hk'
  rw [List.take_of_length_le (by simp [yaR])] at hal
  rw [hal, if_neg (by decide)] at hE
  refine (ymL (s := s) (ll := ll) ⟨hll.keep0 N6, fun q hq => (hop q hq).keep0 N6⟩ hl).mono ?_
  rw [hcs]
  rintro e w7 ⟨rfl, M7⟩
  have N7 := N6.go0 M7 (by simp)
  refine ⟨_, _, rfl, yaE.of0 M7, yaB (fun g => ?_) fun g => ?_⟩
  ·have g : yb8 m.calls ≠ 0 := by simpa using g
   exact ⟨by rw [hE, if_pos g], N7⟩
  have g : yb8 m.calls = 0 := by simpa using g
  rw [if_neg (by simpa using g)] at hE
  refine (yfX (h.rep.keep0 N7)).mono ?_
  rintro e w8 ⟨rfl, M8⟩
  exact ⟨_, _, rfl, yaE.of0 M8, by rw [hE], N7.go0 M8 (by simp)⟩
def ykR (n : Int) : List UInt8 := yaJ n.toNat
def ybL (m : PMail) : List UInt8 := (yaR m).flatMap ykR ++ ybU (bs (ybK m.calls)) ++ ybU (bs (ydK m.r))
def ybT (m : PMail) : Int := if yb5 m ≠ 0 then yb5 m else if (ybL m).length > 1048576 then 2 else 0
def yeL (m : PMail) : BA := bs (ydG (bs (ybL m)))
theorem ycI {m : PMail} (h : ybT m = 0) : yb5 m = 0 ∧ (ybL m).length ≤ 1048576 := by
 unfold ybT at h
 split at h
 ·rename_i g; exact absurd h g
 ·rename_i g
  split at h
  ·omega
  ·exact ⟨by simpa using g, by omega⟩
theorem yg7 {xs : List PCall} (h : yb8 xs = 0) : (ybK xs).length ≤ 200000000 := by
 obtain ⟨h1, h2⟩ := ykG h
 have h3 := ydF (f := ye4) (c := 40000) (l := xs) fun x hx => (yfJ (h2 x hx).1 (h2 x hx).2).1
 have h4 := (yaL xs.length (by omega)).2
 unfold ybK; rw [List.length_append]; omega
theorem yg8 (m : PMail) : (yaR m).length = 10 := rfl
theorem yeM {n : Int} (h : num n = true) : n.toNat < 18446744073709551616 ∧ (ykR n).length ≤ 10 := by
 have := ye8 h
 exact ⟨by omega, (yaL n.toNat (by omega)).2⟩
theorem yfY {m : PMail} (h : (yaR m).all num = true) {k : Nat} {n : Int} (hn : (yaR m)[k]? = some n) : num n = true := List.all_eq_true.1 h n (List.mem_of_getElem? hn)
theorem yeN {m : PMail} (h : (yaR m).all num = true) (k : Nat) : (((yaR m).take k).flatMap ykR).length ≤ 100 := by
 have := ydF (f := ykR) (c := 10) (l := (yaR m).take k) fun x hx => (yeM (List.all_eq_true.1 h x (List.mem_of_mem_take hx))).2
 have e : ((yaR m).take k).length ≤ 10 := by rw [List.length_take, yg8]; omega
 omega
theorem ykK {m : PMail} (h : yb5 m = 0) : (ybL m).length ≤ 300000000 := by
 obtain ⟨_, h1, h2, h3⟩ := ycV h
 have l1 := yeN h1 10
 rw [List.take_of_length_le (by rw [yg8]; omega)] at l1
 have l2 := yg7 h2
 have l3 := (RepGood.of h3).len3 m.r.parts.length
 have l3 : (ydK m.r).length ≤ 60000 := l3
 have p2 := (yaW (bs (ybK m.calls)) (by rw [yaD]; omega)).2
 have p3 := (yaW (bs (ydK m.r)) (by rw [yaD]; omega)).2
 rw [yaD] at p2 p3
 unfold ybL; rw [List.length_append, List.length_append]; omega
def yiQ (m : PMail) (k : Nat) : Nat := (((yaR m).take k).flatMap ykR).length
theorem yC5 {m : PMail} (h : (yaR m).all num = true) {k : Nat} {n : Int} (hn : (yaR m)[k]? = some n) : yfA (ybL m) (yiQ m k) = some (n.toNat, yiQ m (k + 1)) := by
 have hs := yeM (yfY h hn)
 have hk := (List.getElem?_eq_some_iff.1 hn).1
 have e : yaR m = (yaR m).take k ++ n :: (yaR m).drop (k + 1) := by
  have h2 := List.drop_eq_getElem_cons hk
  have h3 : (yaR m)[k] = n := (List.getElem?_eq_some_iff.1 hn).2
  rw [h3] at h2
  rw [← h2, List.take_append_drop]
 have hd : (ybL m).drop (yiQ m k) = ykR n ++ (((yaR m).drop (k + 1)).flatMap ykR ++ ybU (bs (ybK m.calls)) ++ ybU (bs (ydK m.r))) := by
  have e2 : (yaR m).flatMap ykR = ((yaR m).take k).flatMap ykR ++ (ykR n ++ ((yaR m).drop (k + 1)).flatMap ykR) := by
   conv => lhs; rw [e]
   rw [List.flatMap_append, List.flatMap_cons]
  unfold ybL yiQ
  rw [e2]
  simp only [List.append_assoc]
  rw [List.drop_left']
  rfl
 rw [yfV (n := n.toNat) hs.1 hd]
 congr 2
 unfold yiQ
 rw [ybB hn, List.length_append]; rfl
theorem yC6 {m : PMail} (h : ybT m = 0) : yl9 1048576 (ybL m) (yiQ m 10) = some (bs (ybK m.calls), yiQ m 10 + (ybU (bs (ybK m.calls))).length) ∧
  yl9 1048576 (ybL m) (yiQ m 10 + (ybU (bs (ybK m.calls))).length) = some (bs (ydK m.r), (ybL m).length) := by
 obtain ⟨_, hl⟩ := ycI h
 have e10 : yiQ m 10 = ((yaR m).flatMap ykR).length := by unfold yiQ; rw [List.take_of_length_le (by rw [yg8]; omega)]
 have hd1 : (ybL m).drop (yiQ m 10) = ybU (bs (ybK m.calls)) ++ ybU (bs (ydK m.r)) := by
  rw [e10]; unfold ybL; rw [List.append_assoc, List.drop_left']; rfl
 have hd2 : (ybL m).drop (yiQ m 10 + (ybU (bs (ybK m.calls))).length) = ybU (bs (ydK m.r)) ++ [] := by
  rw [List.append_nil, yaV hd1]
 have hlen : (ybL m).length = yiQ m 10 + (ybU (bs (ybK m.calls))).length + (ybU (bs (ydK m.r))).length := by
  rw [e10]; unfold ybL; rw [List.length_append, List.length_append]
 have z1 : (bs (ybK m.calls)).size ≤ (ybU (bs (ybK m.calls))).length := by unfold ybU; rw [List.length_append]; simp
 have z2 : (bs (ydK m.r)).size ≤ (ybU (bs (ydK m.r))).length := by unfold ybU; rw [List.length_append]; simp
 refine ⟨ye3 (by omega) (by omega) hd1, ?_⟩
 rw [ye3 (by omega) (by omega) hd2, hlen]
theorem yBG {x y : PMail} (hx : ybT x = 0) (hy : ybT y = 0) (h : yeL x = yeL y) : ybL x = ybL y := by
 have h := yj1 h
 obtain ⟨_, l1⟩ := ycI hx
 obtain ⟨_, l2⟩ := ycI hy
 have c1 := ylM (lim := 1048576) (bs (ybL x)) [] (by rw [yaD]; omega) (by rw [yaD]; omega)
 have c2 := ylM (lim := 1048576) (bs (ybL y)) [] (by rw [yaD]; omega) (by rw [yaD]; omega)
 rw [h, c2] at c1
 have := (Prod.mk.inj (Option.some.inj c1)).1
 exact (yj1 this).symm
theorem yGc {x : PMail} (hx : ybT x = 0) : cg 1048576 (yeL x).data.toList = some (bs (ybL x), (ydG (bs (ybL x))).length) := by
 obtain ⟨_, l1⟩ := ycI hx
 have := ylM (lim := 1048576) (bs (ybL x)) [] (by rw [yaD]; omega) (by rw [yaD]; omega)
 rw [List.append_nil] at this
 rw [yeL, yd9]; exact this
theorem yh8 {α : Type} {f : α → List UInt8} {l : List α} {k : Nat} {x : α} (h : l[k]? = some x) : l.flatMap f = (l.take k).flatMap f ++ (f x ++ (l.drop (k + 1)).flatMap f) := by
 have hk := (List.getElem?_eq_some_iff.1 h).1
 have h2 := List.drop_eq_getElem_cons hk
 have h3 : l[k] = x := (List.getElem?_eq_some_iff.1 h).2
 rw [h3] at h2
 conv => lhs; rw [← List.take_append_drop k l, h2]
 rw [List.flatMap_append, List.flatMap_cons]
theorem yoZ {p q l : List UInt8} (h : l = p ++ q) : l.drop p.length = q := by
 rw [h, List.drop_left']; rfl
theorem yJD {r : PRep} {k n : Nat} (h : (hdL r)[k]? = some n) : ∃ t, (ydK r).drop (yiP r k).length = yaJ n ++ t :=
 ⟨_, yoZ (p := yiP r k) (by unfold ydK ye9 yiP; rw [yh8 h]; simp only [List.append_assoc]; rfl)⟩
theorem yKk {r : PRep} {k : Nat} {y : PFound} (h : r.found[k]? = some y) : ∃ t, (ydK r).drop (ydE r k).length = yaJ y.off.toNat ++ (yf7 y.r ++ t) :=
 ⟨_, yoZ (p := ydE r k) (by unfold ydK ye9 ydE; rw [yh8 h, yfG]; simp only [List.append_assoc]; rfl)⟩
theorem yJE (r : PRep) : ∃ t, (ydK r).drop (ydE r r.found.length).length = yaJ r.parts.length ++ t :=
 ⟨_, yoZ (p := ydE r r.found.length) (by unfold ydK ye9 ydE; simp only [List.take_length, List.append_assoc]; rfl)⟩
theorem yKl {r : PRep} {k : Nat} {y : PPart} (h : r.parts[k]? = some y) : ∃ t, (ydK r).drop (ye9 r k).length = ycW y ++ t :=
 ⟨_, yoZ (p := ye9 r k) (by unfold ydK; rw [ye9, ye9, List.take_length, yh8 h]; simp only [List.append_assoc]; rfl)⟩
theorem yBH (r : PRep) : yiP r 5 = ydE r 0 := by rw [yiP, ydE, List.take_of_length_le (by simp [hdL])]; simp
theorem yJF (r : PRep) : ye9 r 0 = ydE r r.found.length ++ yaJ r.parts.length := by rw [ydE, ye9, List.take_length]; simp
theorem yBI {r : PRep} {k n : Nat} (h : (hdL r)[k]? = some n) : (yiP r (k + 1)).length = (yiP r k).length + (yaJ n).length := by rw [yiP, ybB h, List.length_append]; rfl
theorem yBJ {r : PRep} {k : Nat} {y : PFound} (h : r.found[k]? = some y) : (ydE r (k + 1)).length = (ydE r k).length + (yaJ y.off.toNat).length + (yf7 y.r).length := by
 have e : ydE r (k + 1) = ydE r k ++ yfG y := by rw [ydE, ydE, ybB h, ← List.append_assoc]
 rw [e, List.length_append, yfG, List.length_append]; omega
theorem yBK {r : PRep} {k : Nat} {y : PPart} (h : r.parts[k]? = some y) : (ye9 r (k + 1)).length = (ye9 r k).length + (ycW y).length := by
 rw [ye9, ye9, ybB h, ← List.append_assoc, List.length_append]
def hdI (r : PRep) : List Int := [r.e, r.off, r.n, r.gen, r.found.length]
theorem yJG {r : PRep} (G : RepGood r) {k : Nat} {n : Int} (h : (hdI r)[k]? = some n) : num n = true ∧ (hdL r)[k]? = some n.toNat := by
 obtain ⟨n0, n1, n2, n3⟩ := G.nn
 have lf := G.lf
 have d0 := G.hd r.e.toNat (by simp [hdL])
 have d1 := G.hd r.off.toNat (by simp [hdL])
 have d2 := G.hd r.n.toNat (by simp [hdL])
 have d3 := G.hd r.gen.toNat (by simp [hdL])
 have hk := (List.getElem?_eq_some_iff.1 h).1
 simp [hdI] at hk
 match k, hk, h with
 | 0, _, h => simp [hdI] at h; subst h; exact ⟨yfM n0 d0, rfl⟩
 | 1, _, h => simp [hdI] at h; subst h; exact ⟨yfM n1 d1, rfl⟩
 | 2, _, h => simp [hdI] at h; subst h; exact ⟨yfM n2 d2, rfl⟩
 | 3, _, h => simp [hdI] at h; subst h; exact ⟨yfM n3 d3, rfl⟩
 | 4, _, h => simp [hdI] at h; subst h; exact ⟨yqN (by omega) (by omega), by simp [hdL]⟩
def yfZ (s : BA) (x : PRep) : Prop := yfR x = 0 ∧ s.data.toList = ydK x
theorem yfZ.eq {s : BA} {x : PRep} (h : yfZ s x) : s = bs (ydK x) := by
 have := h.2; rw [← this, yp1]
theorem yfZ.of {s : BA} {x : PRep} (h : yfR x = 0) (hs : s = bs (ydK x)) : yfZ s x := ⟨h, by rw [hs, yd9]⟩
theorem yfZ.hd {s : BA} {x : PRep} (h : yfZ s x) {k : Nat} {n : Int} (hn : (hdI x)[k]? = some n) : ybJ s.data.toList (some (yiP x k).length) 0 = (some (yiP x (k + 1)).length, n) := by
 obtain ⟨h1, h2⟩ := yJG (RepGood.of h.1) hn
 obtain ⟨t, ht⟩ := yJD h2
 rw [h.2, ybP h1 ht, yBI h2]
theorem yfZ.f {s : BA} {x : PRep} (h : yfZ s x) {k : Nat} {y : PFound} (hy : x.found[k]? = some y) :
  ybJ s.data.toList (some (ydE x k).length) 0 = (some ((ydE x k).length + (yaJ y.off.toNat).length), y.off) ∧ yqF s.data.toList ((ydE x k).length + (yaJ y.off.toNat).length) = some (y.r, (ydE x (k + 1)).length) := by
 obtain ⟨h1, h2⟩ := (RepGood.of h.1).f y (List.mem_of_getElem? hy)
 obtain ⟨t, ht⟩ := yKk hy
 rw [h.2, ybP h1 ht]
 refine ⟨rfl, ?_⟩
 rw [yuJ h2 (yaV ht), yBJ hy]
theorem yfZ.np {s : BA} {x : PRep} (h : yfZ s x) : ybJ s.data.toList (some (ydE x x.found.length).length) 0 = (some (ye9 x 0).length, ((x.parts.length : Nat) : Int)) := by
 obtain ⟨t, ht⟩ := yJE x
 have lp := (RepGood.of h.1).lp
 rw [h.2, ybP (n := (x.parts.length : Nat)) (yqN (by omega) (by omega)) (by simpa using ht), yJF, List.length_append]
 rfl
theorem yfZ.p {s : BA} {x : PRep} (h : yfZ s x) {k : Nat} {y : PPart} (hy : x.parts[k]? = some y) : yc4 s.data.toList (some (ye9 x k).length) = (some (ye9 x (k + 1)).length, y) := by
 obtain ⟨h1, h2⟩ := (RepGood.of h.1).p y (List.mem_of_getElem? hy)
 have h3 := (RepGood.of h.1).lenP (List.mem_of_getElem? hy)
 obtain ⟨t, ht⟩ := yKl hy
 rw [h.2, ydX h3.2 h1 ht, yBK hy]
theorem yu9 {x y : PRep} (hx : yfR x = 0) (hy : yfR y = 0) (h : ydK x = ydK y) : x = y := by
 have X : yfZ (bs (ydK x)) x := ⟨hx, yd9 _⟩
 have Y : yfZ (bs (ydK x)) y := ⟨hy, by rw [yd9, h]⟩
 have hd : ∀ k, k ≤ 5 → (yiP x k).length = (yiP y k).length ∧ (hdI x).take k = (hdI y).take k := by
  intro k
  induction k with
  | zero => intro _; exact ⟨rfl, rfl⟩
  | succ k ih =>
   intro hk
   obtain ⟨i1, i2⟩ := ih (by omega)
   obtain ⟨a, ha⟩ : ∃ a, (hdI x)[k]? = some a := ⟨_, List.getElem?_eq_getElem (by simp [hdI]; omega)⟩
   obtain ⟨b, hb⟩ : ∃ b, (hdI y)[k]? = some b := ⟨_, List.getElem?_eq_getElem (by simp [hdI]; omega)⟩
   have h1 := X.hd ha
   have h2 := Y.hd hb
   rw [i1, h2] at h1
   simp only [Prod.mk.injEq, Option.some.injEq] at h1
   exact ⟨h1.1.symm, by rw [List.take_add_one, List.take_add_one, ha, hb, i2, h1.2]⟩
 obtain ⟨h5, hI⟩ := hd 5 (Nat.le_refl _)
 rw [List.take_of_length_le (by simp [hdI]), List.take_of_length_le (by simp [hdI])] at hI
 simp only [hdI, List.cons.injEq, and_true] at hI
 obtain ⟨e1, e2, e3, e4, e5⟩ := hI
 have e5 : x.found.length = y.found.length := by omega
 rw [yBH, yBH] at h5
 have hf : ∀ k, k ≤ x.found.length → (ydE x k).length = (ydE y k).length ∧ x.found.take k = y.found.take k := by
  intro k
  induction k with
  | zero => intro _; exact ⟨h5, rfl⟩
  | succ k ih =>
   intro hk
   obtain ⟨i1, i2⟩ := ih (by omega)
   obtain ⟨a, ha⟩ : ∃ a, x.found[k]? = some a := ⟨_, List.getElem?_eq_getElem (by omega)⟩
   obtain ⟨b, hb⟩ : ∃ b, y.found[k]? = some b := ⟨_, List.getElem?_eq_getElem (by omega)⟩
   obtain ⟨h1, h2⟩ := X.f ha
   obtain ⟨h3, h4⟩ := Y.f hb
   rw [i1, h3] at h1
   simp only [Prod.mk.injEq, Option.some.injEq] at h1
   rw [i1, ← h1.1, h4] at h2
   simp only [Prod.mk.injEq, Option.some.injEq] at h2
   have : a = b := by
    obtain ⟨o1, q1⟩ := a
    obtain ⟨o2, q2⟩ := b
    simp only [PFound.mk.injEq]
    exact ⟨h1.2.symm, h2.1.symm⟩
   exact ⟨h2.2.symm, by rw [List.take_add_one, List.take_add_one, ha, hb, i2, this]⟩
 obtain ⟨h6, e6⟩ := hf _ (Nat.le_refl _)
 rw [List.take_length, e5, List.take_length] at e6
 have h7 := X.np
 have h8 := Y.np
 rw [h6, e5, h8] at h7
 simp only [Prod.mk.injEq, Option.some.injEq] at h7
 have e7 : x.parts.length = y.parts.length := by omega
 have hp : ∀ k, k ≤ x.parts.length → (ye9 x k).length = (ye9 y k).length ∧ x.parts.take k = y.parts.take k := by
  intro k
  induction k with
  | zero => intro _; exact ⟨h7.1.symm, rfl⟩
  | succ k ih =>
   intro hk
   obtain ⟨i1, i2⟩ := ih (by omega)
   obtain ⟨a, ha⟩ : ∃ a, x.parts[k]? = some a := ⟨_, List.getElem?_eq_getElem (by omega)⟩
   obtain ⟨b, hb⟩ : ∃ b, y.parts[k]? = some b := ⟨_, List.getElem?_eq_getElem (by omega)⟩
   have h1 := X.p ha
   have h2 := Y.p hb
   rw [i1, h2] at h1
   simp only [Prod.mk.injEq, Option.some.injEq] at h1
   exact ⟨h1.1.symm, by rw [List.take_add_one, List.take_add_one, ha, hb, i2, h1.2]⟩
 obtain ⟨_, e8⟩ := hp _ (Nat.le_refl _)
 rw [List.take_length, e7, List.take_length] at e8
 obtain ⟨x1, x2, x3, x4, x5, x6⟩ := x
 obtain ⟨y1, y2, y3, y4, y5, y6⟩ := y
 simp only [PRep.mk.injEq]
 exact ⟨e1, e2, e3, e4, e6, e8⟩
section
variable {R : VWP} {w w0 : World} {m : Nat} {i0 i1 i2 i3 i4 i5 i6 i7 i8 i9 j0 j1 j2 j3 j4 j5 j6 j7 j8 j9 k0 k1 k2 k3 k4 k5 k6 k7 k8 k9 l0 l1 l2 l3 l4 l5 l6 l7 l8 l9 : Int} {s0 s1 s2 s3 s4 s5 s6 s7 s8 s9 t0 t1 t2 t3 t4 t5 t6 t7 t8 t9 : BA} {n0 n1 n2 n3 n4 n5 n6 n7 n8 n9 o0 o1 o2 o3 o4 o5 o6 o7 o8 o9 p0 p1 p2 p3 p4 p5 p6 p7 p8 p9 : Nat} {q0 q1 q2 q3 q4 q5 q6 q7 q8 q9 r0 r1 r2 r3 r4 r5 r6 r7 r8 r9 : OA} {B0 B1 B2 B3 B4 B5 B6 B7 B8 B9 : Bool} {M0 M1 M2 M3 : Option Nat} {V0 V1 V2 V3 V4 V5 : Value} {A0 A1 A2 : Addr}
def yo0 : LA := ⟨[0, 0, 1, 0, 1, 1, 1, 1], [0, 2, 4, 5, 6, 7, 8, 26, 27, 28], [(2, 0, 0), (4, 1, 0), (5, 2, 0), (6, 3, 0), (7, 4, 0), (8, 5, 0)], 6, [1, 2, 3, 4]⟩
def yo1 : LA := ⟨[0, 0, 1, 0, 1, 1, 1, 1, 1, 1], [0, 2, 4, 5, 7, 8, 11], [(2, 0, 0), (4, 1, 0), (5, 2, 0), (7, 4, 0), (8, 5, 0)], 6, [1, 2, 3, 4]⟩
def yg9 : LA := ⟨[0, 0, 1, 0, 1, 1, 1, 1, 1, 1, 1, 1], [0, 2, 4, 5, 8, 16], [(2, 0, 0), (4, 1, 0), (5, 2, 0), (8, 5, 0)], 6, [1, 2, 3, 4, 5]⟩
def yo2 : List LA := [yo0, yo1, yg9]
abbrev yiK := dnF pP yo2 (code Tryz.f81)
abbrev yJH := yaO pP yo2 (code Tryz.f81)
abbrev ykL (p : List Nat) (K : List Kh) (R : VWP) := yaO pP yo2 (code Tryz.f81) p K (ya4 pP Tryz.f81 [] R)
def yh9 (b9 : BA) (b5 : OA) (b7 b6 bm0 bm1 bm2 bm3 bm4 bm5 : Nat) : Int × BA × Int × Int × Int × Int × Int × Int × (OA) × Nat × Nat × (OA) × Nat × Nat × Int × Int → List Value × List TB := fun (b8, a6, a7, a8, a9, b0, b1, b2, a0, a4, a2, a1, a5, a3, b3, b4) => ([.string b9, (.pointer (some ⟨bm0, 0, none⟩)), (.pointer (some ⟨bm1, 0, none⟩)), (.pointer (some ⟨bm2, 0, none⟩)), (.pointer (some ⟨bm3, 0, none⟩)), (.pointer (some ⟨bm4, 0, none⟩)), (.pointer (some ⟨bm5, 0, none⟩)), .slice b5 b7 b6, (.int .i64 (5 : Int)), .int .i64 b8], [⟨bm0, 27, [.int .i64 0, .int .i64 0, .int .i64 0, .int .i64 0, .slice none 0 0, .slice none 0 0], false⟩, ⟨bm1, 151, [.string a6, .int .i64 a7, .int .i64 a8], true⟩, ⟨bm2, 27, [.int .i64 a9, .int .i64 b0, .int .i64 b1, .int .i64 b2, .slice a0 a4 a2, .slice a1 a5 a3], true⟩, ⟨bm3, 3, [.int .i64 b3], true⟩, ⟨bm4, 3, [.int .i64 b4], true⟩, ⟨bm5, 3, [.int .i64 0], false⟩])
def ye5 (b6 : BA) (bm0 bm1 bm2 bm3 bm4 bm5 : Nat) : Int × BA × Int × Int × Int × Int × Int × Int × (OA) × Nat × Nat × (OA) × Nat × Nat × Int × Int → List Value × List TB := fun (b5, a6, a7, a8, a9, b0, b1, b2, a0, a4, a2, a1, a5, a3, b3, b4) => ([.string b6, (.pointer (some ⟨bm0, 0, none⟩)), (.pointer (some ⟨bm1, 0, none⟩)), (.pointer (some ⟨bm2, 0, none⟩)), (.pointer (some ⟨bm4, 0, none⟩)), (.pointer (some ⟨bm5, 0, none⟩)), .int .i64 b5], [⟨bm0, 27, [.int .i64 0, .int .i64 0, .int .i64 0, .int .i64 0, .slice none 0 0, .slice none 0 0], false⟩, ⟨bm1, 151, [.string a6, .int .i64 a7, .int .i64 a8], true⟩, ⟨bm2, 27, [.int .i64 a9, .int .i64 b0, .int .i64 b1, .int .i64 b2, .slice a0 a4 a2, .slice a1 a5 a3], true⟩, ⟨bm3, 3, [.int .i64 b3], true⟩, ⟨bm4, 3, [.int .i64 b4], true⟩, ⟨bm5, 3, [.int .i64 0], false⟩])
def yfN (b7 : BA) (bm0 bm1 bm2 bm3 bm4 bm5 : Nat) : Int × BA × Int × Int × Int × Int × Int × Int × (OA) × Nat × Nat × (OA) × Nat × Nat × Int × Int × Int → List Value × List TB := fun (b6, a6, a7, a8, a9, b0, b1, b2, a0, a4, a2, a1, a5, a3, b3, b4, b5) => ([.string b7, (.pointer (some ⟨bm0, 0, none⟩)), (.pointer (some ⟨bm1, 0, none⟩)), (.pointer (some ⟨bm2, 0, none⟩)), (.pointer (some ⟨bm5, 0, none⟩)), .int .i64 b6], [⟨bm0, 27, [.int .i64 0, .int .i64 0, .int .i64 0, .int .i64 0, .slice none 0 0, .slice none 0 0], false⟩, ⟨bm1, 151, [.string a6, .int .i64 a7, .int .i64 a8], true⟩, ⟨bm2, 27, [.int .i64 a9, .int .i64 b0, .int .i64 b1, .int .i64 b2, .slice a0 a4 a2, .slice a1 a5 a3], true⟩, ⟨bm3, 3, [.int .i64 b3], true⟩, ⟨bm4, 3, [.int .i64 b4], true⟩, ⟨bm5, 3, [.int .i64 b5], true⟩])
abbrev yBL (a3 : BA) (a0 : OA) (a2 a1 bm0 bm1 bm2 bm3 bm4 bm5 : Nat) (I : Nat → Int → BA → Int → Int → Int → Int → Int → Int → OA → Nat → Nat → OA → Nat → Nat → Int → Int → World → Prop) (m : Nat) : Kh := KG (yh9 a3 a0 a2 a1 bm0 bm1 bm2 bm3 bm4 bm5) (U16 I) m
theorem yeO {I : Nat → Int → BA → Int → Int → Int → Int → Int → Int → OA → Nat → Nat → OA → Nat → Nat → Int → Int → World → Prop} (m' : Nat) (h1 : m' < m) (h2 : I m' i0 s1 i1 i2 i3 i4 i5 i6 q1 n8 n9 q2 o0 o1 i7 i8 w) : KS (yBL s0 q0 n0 n1 n2 n3 n4 n5 n6 n7 I m) (yh9 s0 q0 n0 n1 n2 n3 n4 n5 n6 n7 (i0, s1, i1, i2, i3, i4, i5, i6, q1, n8, n9, q2, o0, o1, i7, i8)) w := ⟨m', h1, _, rfl, rfl, h2⟩
theorem yw2 (I : Nat → Int → BA → Int → Int → Int → Int → Int → Int → OA → Nat → Nat → OA → Nat → Nat → Int → Int → World → Prop) (m0 : Nat) (h0 : I m0 i0 s1 i1 i2 i3 i4 i5 i6 q1 n8 n9 q2 o0 o1 i7 i8 w0)
 (hr : ∀ m b6 a7 a8 a9 b4 b0 b1 b2 a1 a5 a3 a2 a6 a4 a0 b3 w, I m b6 a7 a8 a9 b4 b0 b1 b2 a1 a5 a3 a2 a6 a4 a0 b3 w →
 hpC w n3 (Z2 a7 a8 a9) 151 →
 hpC w n4 (Z3 b4 b0 b1 b2 a1 a5 a3 a2 a6 a4) 27 →
 hpC w n5 #[.int .i64 a0] 3 →
 hpC w n6 #[.int .i64 b3] 3 →
 brB (decide (b6 < (5 : Int))) (
 ixA q0 n0 b6 1 fun f4 =>
 ypC w f4 fun f3 =>
 Calls pP 112 #[(.pointer (some ⟨n3, 0, none⟩)), .pointer f3] w fun e c6 => e = .returned (.tuple #[]) ∧ ya2 [n3, n4, n5, n6] [(n2, 27), (n7, 3)] [n2, n7] w c6 ∧ ∃ e4 e5 e6, hpC c6 n3 (Z2 e4 e5 e6) 151 ∧ ∃ e7 e8 e9 f0 d8 e2 e0 d9 e3 e1, hpC c6 n4 (Z3 e7 e8 e9 f0 d8 e2 e0 d9 e3 e1) 27 ∧ ∃ f1, hpC c6 n5 #[.int .i64 f1] 3 ∧ ∃ f2, hpC c6 n6 #[.int .i64 f2] 3 ∧
 KS (yBL s0 q0 n0 n1 n2 n3 n4 n5 n6 n7 I m) (yh9 s0 q0 n0 n1 n2 n3 n4 n5 n6 n7 ((iw .i64 (b6 + 1)), e4, e5, e6, e7, e8, e9, f0, d8, e2, e0, d9, e3, e1, f1, f2)) c6)
 (
 ∀ b5, Adv [n4] [] w b5 → hpC b5 n3 (Z2 a7 a8 a9) 151 →
 hpC b5 n4 (Z3 a0 b0 b1 b2 a1 a5 a3 a2 a6 a4) 27 →
 hpC b5 n5 #[.int .i64 a0] 3 →
 hpC b5 n6 #[.int .i64 b3] 3 →
 yaK yo1 (yiK 392 [0, 0, 1, 0, 1, 1, 1, 1, 1, 1]) (ykL [1, 1, 1, 1, 1, 1, 0, 1, 0] [] R) (ye5 s0 n2 n3 n4 n5 n6 n7 (0, a7, a8, a9, a0, b0, b1, b2, a1, a5, a3, a2, a6, a4, a0, b3)) b5)) :
 yaK yo0 (yiK 394 [0, 0, 1, 0, 1, 1, 1, 1]) (ykL [1, 1, 1, 1, 0, 1, 0] [] R) (yh9 s0 q0 n0 n1 n2 n3 n4 n5 n6 n7 (i0, s1, i1, i2, i3, i4, i5, i6, q1, n8, n9, q2, o0, o1, i7, i8)) w0 :=
 lrule (yh9 s0 q0 n0 n1 n2 n3 n4 n5 n6 n7) (U16 I) h0 (by rintro m ⟨b6, a7, a8, a9, b4, b0, b1, b2, a1, a5, a3, a2, a6, a4, a0, b3⟩ w h; exact ⟨by kernel_rfl, by kernel_rfl, fun js => Eq.mpr (by kernel_rfl) (hr m b6 a7 a8 a9 b4 b0 b1 b2 a1 a5 a3 a2 a6 a4 a0 b3 w h)⟩)
abbrev ykM (a0 : BA) (bm0 bm1 bm2 bm3 bm4 bm5 : Nat) (I : Nat → Int → BA → Int → Int → Int → Int → Int → Int → OA → Nat → Nat → OA → Nat → Nat → Int → Int → World → Prop) (m : Nat) : Kh := KG (ye5 a0 bm0 bm1 bm2 bm3 bm4 bm5) (U16 I) m
theorem yf0 {I : Nat → Int → BA → Int → Int → Int → Int → Int → Int → OA → Nat → Nat → OA → Nat → Nat → Int → Int → World → Prop} (m' : Nat) (h1 : m' < m) (h2 : I m' i0 s1 i1 i2 i3 i4 i5 i6 q0 n6 n7 q1 n8 n9 i7 i8 w) : KS (ykM s0 n0 n1 n2 n3 n4 n5 I m) (ye5 s0 n0 n1 n2 n3 n4 n5 (i0, s1, i1, i2, i3, i4, i5, i6, q0, n6, n7, q1, n8, n9, i7, i8)) w := ⟨m', h1, _, rfl, rfl, h2⟩
theorem yw3 (I : Nat → Int → BA → Int → Int → Int → Int → Int → Int → OA → Nat → Nat → OA → Nat → Nat → Int → Int → World → Prop) (m0 : Nat) (h0 : I m0 i0 s1 i1 i2 i3 i4 i5 i6 q0 n6 n7 q1 n8 n9 i7 i8 w0)
 (hr : ∀ m c3 a9 b0 a1 b1 b2 b3 b4 a3 a7 a5 a4 a8 a6 b5 a2 w, I m c3 a9 b0 a1 b1 b2 b3 b4 a3 a7 a5 a4 a8 a6 b5 a2 w →
 hpC w n1 (Z2 a9 b0 a1) 151 →
 hpC w n2 (Z3 b1 b2 b3 b4 a3 a7 a5 a4 a8 a6) 27 →
 hpC w n3 #[.int .i64 b5] 3 →
 hpC w n4 #[.int .i64 a2] 3 →
 brB (decide (c3 < a2)) (
 brB (a1 == 0) (
 ∀ a0, w.heap.size ≤ a0 →
 ∀ e8, Adv [] [a0] w e8 → hpC e8 n1 (Z2 a9 b0 a1) 151 →
 hpC e8 n2 (Z3 b1 b2 b3 b4 a3 a7 a5 a4 a8 a6) 27 →
 hpC e8 n3 #[.int .i64 b5] 3 →
 hpC e8 n4 #[.int .i64 a2] 3 →
 hpC e8 a0 (Z6 0 false ByteArray.empty false ByteArray.empty) 55 →
 Calls pP 112 #[(.pointer (some ⟨n1, 0, none⟩)), (.pointer (some ⟨a0, 0, none⟩))] e8 fun e d3 => e = .returned (.tuple #[]) ∧ ya2 [n1, n2, n3, n4, a0] [(n0, 27), (n5, 3)] [n0, n5] e8 d3 ∧ ∃ v0 v1 ci, hpC d3 n1 (Z2 v0 v1 ci) 151 ∧ ∃ cj ck cl cm x8 ac z0 x9 ad z1, hpC d3 n2 (Z3 cj ck cl cm x8 ac z0 x9 ad z1) 27 ∧ ∃ cn, hpC d3 n3 #[.int .i64 cn] 3 ∧ ∃ co, hpC d3 n4 #[.int .i64 co] 3 ∧ ∃ cp ap aj aq ak, hpC d3 a0 (Z6 cp ap aj aq ak) 55 ∧
 ((
 ∀ d2, d3.heap.size ≤ d2 →
 ∀ e9, Adv [] [d2] d3 e9 → hpC e9 n1 (Z2 v0 v1 ci) 151 →
 hpC e9 n2 (Z3 cj ck cl cm x8 ac z0 x9 ad z1) 27 →
 hpC e9 n3 #[.int .i64 cn] 3 →
 hpC e9 n4 #[.int .i64 co] 3 →
 hpC e9 a0 (Z6 cp ap aj aq ak) 55 →
 Calls pP 113 #[.string v0, .int .i64 v1] e9 fun e f2 => ∃ w5 w3 w6 w4 dc dd, e = .returned (.tuple #[(.agg (Z7 w5 w3 w6 w4)), .int .i64 dc, .int .i64 dd]) ∧ ya2 [n1, n2, n3, n4, a0] [(n0, 27), (n5, 3), (d2, 53)] [n0, n5, d2] e9 f2 ∧ ∃ cw de df, hpC f2 n1 (Z2 cw de df) 151 ∧ ∃ dg dh di dj cq cu cs cr cv ct, hpC f2 n2 (Z3 dg dh di dj cq cu cs cr cv ct) 27 ∧ ∃ dk, hpC f2 n3 #[.int .i64 dk] 3 ∧ ∃ dl, hpC f2 n4 #[.int .i64 dl] 3 ∧ ∃ dm cz cx da cy, hpC f2 a0 (Z6 dm cz cx da cy) 55 ∧
 ∀ f0, Adv [d2] [] f2 f0 → hpC f0 n1 (Z2 cw de df) 151 →
 hpC f0 n2 (Z3 dg dh di dj cq cu cs cr cv ct) 27 →
 hpC f0 n3 #[.int .i64 dk] 3 →
 hpC f0 n4 #[.int .i64 dl] 3 →
 hpC f0 a0 (Z6 dm cz cx da cy) 55 →
 Calls pP 114 (Z10 (some ⟨n1, 0, none⟩) dc dd) f0 fun e f1 => ∃ db, e = .returned (.bool db) ∧ ya2 [n1, n2, n3, n4, a0] [(n0, 27), (n5, 3), (d2, 53)] [n0, n5, d2] f0 f1 ∧ ∃ g2 g4 g5, hpC f1 n1 (Z2 g2 g4 g5) 151 ∧ ∃ g6 g7 g8 g9 v9 w2 w1 f3 f9 f6, hpC f1 n2 (Z3 g6 g7 g8 g9 v9 w2 w1 f3 f9 f6) 27 ∧ ∃ h1, hpC f1 n3 #[.int .i64 h1] 3 ∧ ∃ h2, hpC f1 n4 #[.int .i64 h2] 3 ∧ ∃ h3 ar v2 v6 v3, hpC f1 a0 (Z6 h3 ar v2 v6 v3) 55 ∧
 brB db (
 ∀ c4, Adv [a0] [] f1 c4 → hpC c4 n1 (Z2 g2 g4 g5) 151 →
 hpC c4 n2 (Z3 g6 g7 g8 g9 v9 w2 w1 f3 f9 f6) 27 →
 hpC c4 n3 #[.int .i64 h1] 3 →
 hpC c4 n4 #[.int .i64 h2] 3 →
 hpC c4 a0 (Z6 h3 w5 w3 w6 w4) 55 →
 al c4 (.cells (Z6 h3 w5 w3 w6 w4) 55) fun dn au =>
 yc6 pP (Builtin.append_ #[24, 24] 24 #[.slice v9 w2 w1, (.slice (some ⟨dn, 0, none⟩) 1 1)]) au fun w8 z2 y0 av => yaE [n0, n1, n2, n3, n4, n5, a0, d2] au av ∧
 ∀ c5, Adv [n2] [] av c5 → hpC c5 n1 (Z2 g2 g4 g5) 151 →
 hpC c5 n2 (Z3 g6 g7 g8 g9 w8 z2 y0 f3 f9 f6) 27 →
 hpC c5 n3 #[.int .i64 h1] 3 →
 hpC c5 n4 #[.int .i64 h2] 3 →
 hpC c5 a0 (Z6 h3 w5 w3 w6 w4) 55 →
 KS (ykM s0 n0 n1 n2 n3 n4 n5 I m) (ye5 s0 n0 n1 n2 n3 n4 n5 ((iw .i64 (c3 + 1)), g2, g4, g5, g6, g7, g8, g9, w8, z2, y0, f3, f9, f6, h1, h2)) c5)
 (
 al f1 (.cells (Z6 h3 ar v2 v6 v3) 55) fun dp aw =>
 yc6 pP (Builtin.append_ #[24, 24] 24 #[.slice v9 w2 w1, (.slice (some ⟨dp, 0, none⟩) 1 1)]) aw fun w9 z3 y1 ax => yaE [n0, n1, n2, n3, n4, n5, a0, d2] aw ax ∧
 ∀ c6, Adv [n2] [] ax c6 → hpC c6 n1 (Z2 g2 g4 g5) 151 →
 hpC c6 n2 (Z3 g6 g7 g8 g9 w9 z3 y1 f3 f9 f6) 27 →
 hpC c6 n3 #[.int .i64 h1] 3 →
 hpC c6 n4 #[.int .i64 h2] 3 →
 hpC c6 a0 (Z6 h3 ar v2 v6 v3) 55 →
 KS (ykM s0 n0 n1 n2 n3 n4 n5 I m) (ye5 s0 n0 n1 n2 n3 n4 n5 ((iw .i64 (c3 + 1)), g2, g4, g5, g6, g7, g8, g9, w9, z3, y1, f3, f9, f6, h1, h2)) c6)) ∧
 (
 ∀ b7, Adv [] [] d3 b7 → hpC b7 n1 (Z2 v0 v1 ci) 151 →
 hpC b7 n2 (Z3 cj ck cl cm x8 ac z0 x9 ad z1) 27 →
 hpC b7 n3 #[.int .i64 cn] 3 →
 hpC b7 n4 #[.int .i64 co] 3 →
 hpC b7 a0 (Z6 cp ap aj aq ak) 55 →
 Calls pP 113 #[.string v0, .int .i64 v1] b7 fun e b8 => ∃ u7 u5 u9 u6 bc bd, e = .returned (.tuple #[(.agg (Z7 u7 u5 u9 u6)), .int .i64 bc, .int .i64 bd]) ∧ ya2 [n1, n2, n3, n4, a0] [(n0, 27), (n5, 3)] [n0, n5] b7 b8 ∧ ∃ ae be bf, hpC b8 n1 (Z2 ae be bf) 151 ∧ ∃ bg bh bi bj x0 z4 y2 x1 z5 y3, hpC b8 n2 (Z3 bg bh bi bj x0 z4 y2 x1 z5 y3) 27 ∧ ∃ bk, hpC b8 n3 #[.int .i64 bk] 3 ∧ ∃ bl, hpC b8 n4 #[.int .i64 bl] 3 ∧ ∃ bm am af an ag, hpC b8 a0 (Z6 bm am af an ag) 55 ∧
 ∀ d5, b8.heap.size ≤ d5 →
 ∀ b9, Adv [] [d5] b8 b9 → hpC b9 n1 (Z2 ae be bf) 151 →
 hpC b9 n2 (Z3 bg bh bi bj x0 z4 y2 x1 z5 y3) 27 →
 hpC b9 n3 #[.int .i64 bk] 3 →
 hpC b9 n4 #[.int .i64 bl] 3 →
 hpC b9 a0 (Z6 bm am af an ag) 55 →
 Calls pP 114 (Z10 (some ⟨n1, 0, none⟩) bc bd) b9 fun e c0 => ∃ ao, e = .returned (.bool ao) ∧ ya2 [n1, n2, n3, n4, a0] [(n0, 27), (n5, 3), (d5, 53)] [n0, n5, d5] b9 c0 ∧ ∃ d8 d9 e0, hpC c0 n1 (Z2 d8 d9 e0) 151 ∧ ∃ e1 e2 e3 e4 u2 u4 u3 d4 d7 d6, hpC c0 n2 (Z3 e1 e2 e3 e4 u2 u4 u3 d4 d7 d6) 27 ∧ ∃ e5, hpC c0 n3 #[.int .i64 e5] 3 ∧ ∃ e6, hpC c0 n4 #[.int .i64 e6] 3 ∧ ∃ e7 v7 v4 v8 v5, hpC c0 a0 (Z6 e7 v7 v4 v8 v5) 55 ∧
 brB ao (
 ∀ c7, Adv [a0] [] c0 c7 → hpC c7 n1 (Z2 d8 d9 e0) 151 →
 hpC c7 n2 (Z3 e1 e2 e3 e4 u2 u4 u3 d4 d7 d6) 27 →
 hpC c7 n3 #[.int .i64 e5] 3 →
 hpC c7 n4 #[.int .i64 e6] 3 →
 hpC c7 a0 (Z6 e7 u7 u5 u9 u6) 55 →
 al c7 (.cells (Z6 e7 u7 u5 u9 u6) 55) fun dq ay =>
 yc6 pP (Builtin.append_ #[24, 24] 24 #[.slice u2 u4 u3, (.slice (some ⟨dq, 0, none⟩) 1 1)]) ay fun x2 z6 y4 az => yaE [n0, n1, n2, n3, n4, n5, a0, d5] ay az ∧
 ∀ c8, Adv [n2] [] az c8 → hpC c8 n1 (Z2 d8 d9 e0) 151 →
 hpC c8 n2 (Z3 e1 e2 e3 e4 x2 z6 y4 d4 d7 d6) 27 →
 hpC c8 n3 #[.int .i64 e5] 3 →
 hpC c8 n4 #[.int .i64 e6] 3 →
 hpC c8 a0 (Z6 e7 u7 u5 u9 u6) 55 →
 KS (ykM s0 n0 n1 n2 n3 n4 n5 I m) (ye5 s0 n0 n1 n2 n3 n4 n5 ((iw .i64 (c3 + 1)), d8, d9, e0, e1, e2, e3, e4, x2, z6, y4, d4, d7, d6, e5, e6)) c8)
 (
 al c0 (.cells (Z6 e7 v7 v4 v8 v5) 55) fun dr ba =>
 yc6 pP (Builtin.append_ #[24, 24] 24 #[.slice u2 u4 u3, (.slice (some ⟨dr, 0, none⟩) 1 1)]) ba fun x3 z7 y5 bb => yaE [n0, n1, n2, n3, n4, n5, a0, d5] ba bb ∧
 ∀ c9, Adv [n2] [] bb c9 → hpC c9 n1 (Z2 d8 d9 e0) 151 →
 hpC c9 n2 (Z3 e1 e2 e3 e4 x3 z7 y5 d4 d7 d6) 27 →
 hpC c9 n3 #[.int .i64 e5] 3 →
 hpC c9 n4 #[.int .i64 e6] 3 →
 hpC c9 a0 (Z6 e7 v7 v4 v8 v5) 55 →
 KS (ykM s0 n0 n1 n2 n3 n4 n5 I m) (ye5 s0 n0 n1 n2 n3 n4 n5 ((iw .i64 (c3 + 1)), d8, d9, e0, e1, e2, e3, e4, x3, z7, y5, d4, d7, d6, e5, e6)) c9))))
 (
 ∀ c1, Adv [] [] w c1 → hpC c1 n1 (Z2 a9 b0 a1) 151 →
 hpC c1 n2 (Z3 b1 b2 b3 b4 a3 a7 a5 a4 a8 a6) 27 →
 hpC c1 n3 #[.int .i64 b5] 3 →
 hpC c1 n4 #[.int .i64 a2] 3 →
 hpC c1 n5 #[.int .i64 0] 3 →
 Calls pP 112 #[(.pointer (some ⟨n1, 0, none⟩)), (.pointer (some ⟨n5, 0, none⟩))] c1 fun e d0 => e = .returned (.tuple #[]) ∧ ya2 [n1, n2, n3, n4, n5] [(n0, 27)] [n0] c1 d0 ∧ ∃ ah bn bo, hpC d0 n1 (Z2 ah bn bo) 151 ∧ ∃ bp bq br bt x4 z8 y6 x5 z9 y7, hpC d0 n2 (Z3 bp bq br bt x4 z8 y6 x5 z9 y7) 27 ∧ ∃ bu, hpC d0 n3 #[.int .i64 bu] 3 ∧ ∃ bv, hpC d0 n4 #[.int .i64 bv] 3 ∧ ∃ bw, hpC d0 n5 #[.int .i64 bw] 3 ∧
 yaK yg9 (yiK 390 [0, 0, 1, 0, 1, 1, 1, 1, 1, 1, 1, 1]) (ykL [1, 1, 1, 1, 1, 1, 1, 1, 0, 1, 0] [] R) (yfN s0 n0 n1 n2 n3 n4 n5 (0, ah, bn, bo, bp, bq, br, bt, x4, z8, y6, x5, z9, y7, bu, bv, bw)) d0))
 (
 ∀ c2, Adv [] [] w c2 → hpC c2 n1 (Z2 a9 b0 a1) 151 →
 hpC c2 n2 (Z3 b1 b2 b3 b4 a3 a7 a5 a4 a8 a6) 27 →
 hpC c2 n3 #[.int .i64 b5] 3 →
 hpC c2 n4 #[.int .i64 a2] 3 →
 hpC c2 n5 #[.int .i64 0] 3 →
 Calls pP 112 #[(.pointer (some ⟨n1, 0, none⟩)), (.pointer (some ⟨n5, 0, none⟩))] c2 fun e d1 => e = .returned (.tuple #[]) ∧ ya2 [n1, n2, n3, n4, n5] [(n0, 27)] [n0] c2 d1 ∧ ∃ ai bx bz, hpC d1 n1 (Z2 ai bx bz) 151 ∧ ∃ ca cb cc cd x6 aa y8 x7 ab y9, hpC d1 n2 (Z3 ca cb cc cd x6 aa y8 x7 ab y9) 27 ∧ ∃ ce, hpC d1 n3 #[.int .i64 ce] 3 ∧ ∃ cf, hpC d1 n4 #[.int .i64 cf] 3 ∧ ∃ ch, hpC d1 n5 #[.int .i64 ch] 3 ∧
 yaK yg9 (yiK 390 [0, 0, 1, 0, 1, 1, 1, 1, 1, 1, 1, 1]) (ykL [1, 1, 1, 1, 1, 1, 1, 1, 0, 1, 0] [] R) (yfN s0 n0 n1 n2 n3 n4 n5 (0, ai, bx, bz, ca, cb, cc, cd, x6, aa, y8, x7, ab, y9, ce, cf, ch)) d1)) :
 yaK yo1 (yiK 392 [0, 0, 1, 0, 1, 1, 1, 1, 1, 1]) (ykL [1, 1, 1, 1, 1, 1, 0, 1, 0] [] R) (ye5 s0 n0 n1 n2 n3 n4 n5 (i0, s1, i1, i2, i3, i4, i5, i6, q0, n6, n7, q1, n8, n9, i7, i8)) w0 :=
 lrule (ye5 s0 n0 n1 n2 n3 n4 n5) (U16 I) h0 (by rintro m ⟨c3, a9, b0, a1, b1, b2, b3, b4, a3, a7, a5, a4, a8, a6, b5, a2⟩ w h; exact ⟨by kernel_rfl, by kernel_rfl, fun js => Eq.mpr (by kernel_rfl) (hr m c3 a9 b0 a1 b1 b2 b3 b4 a3 a7 a5 a4 a8 a6 b5 a2 w h)⟩)
abbrev yBM (a0 : BA) (bm0 bm1 bm2 bm3 bm4 bm5 : Nat) (I : Nat → Int → BA → Int → Int → Int → Int → Int → Int → OA → Nat → Nat → OA → Nat → Nat → Int → Int → Int → World → Prop) (m : Nat) : Kh := KG (yfN a0 bm0 bm1 bm2 bm3 bm4 bm5) (U17 I) m
theorem yw4 {I : Nat → Int → BA → Int → Int → Int → Int → Int → Int → OA → Nat → Nat → OA → Nat → Nat → Int → Int → Int → World → Prop} (m' : Nat) (h1 : m' < m) (h2 : I m' i0 s1 i1 i2 i3 i4 i5 i6 q0 n6 n7 q1 n8 n9 i7 i8 i9 w) : KS (yBM s0 n0 n1 n2 n3 n4 n5 I m) (yfN s0 n0 n1 n2 n3 n4 n5 (i0, s1, i1, i2, i3, i4, i5, i6, q0, n6, n7, q1, n8, n9, i7, i8, i9)) w := ⟨m', h1, _, rfl, rfl, h2⟩
theorem yw5 (I : Nat → Int → BA → Int → Int → Int → Int → Int → Int → OA → Nat → Nat → OA → Nat → Nat → Int → Int → Int → World → Prop) (m0 : Nat) (h0 : I m0 i0 s1 i1 i2 i3 i4 i5 i6 q0 n6 n7 q1 n8 n9 i7 i8 i9 w0)
 (hr : ∀ m g2 b6 b9 b2 a6 a7 a8 a9 a0 a4 a2 a1 a5 a3 c0 c1 b3 w, I m g2 b6 b9 b2 a6 a7 a8 a9 a0 a4 a2 a1 a5 a3 c0 c1 b3 w →
 hpC w n1 (Z2 b6 b9 b2) 151 →
 hpC w n2 (Z3 a6 a7 a8 a9 a0 a4 a2 a1 a5 a3) 27 →
 hpC w n3 #[.int .i64 c0] 3 →
 hpC w n4 #[.int .i64 c1] 3 →
 hpC w n5 #[.int .i64 b3] 3 →
 brB (decide (g2 < b3)) (
 brB (b2 == 0) (
 ∀ b5, w.heap.size ≤ b5 →
 ∀ b4, Adv [] [b5] w b4 → hpC b4 n1 (Z2 b6 b9 b2) 151 →
 hpC b4 n2 (Z3 a6 a7 a8 a9 a0 a4 a2 a1 a5 a3) 27 →
 hpC b4 n3 #[.int .i64 c0] 3 →
 hpC b4 n4 #[.int .i64 c1] 3 →
 hpC b4 n5 #[.int .i64 b3] 3 →
 hpC b4 b5 #[.string ByteArray.empty, .int .i64 0] 43 →
 Calls pP 60 #[(.iface 149 (.pointer (some ⟨n1, 0, none⟩))), (.pointer (some ⟨b5, 0, none⟩))] b4 fun e b7 => e = .returned (.tuple #[]) ∧ ya2 [n1, n2, n3, n4, n5, b5] [(n0, 27)] [n0] b4 b7 ∧ ∃ u4 u6 u7, hpC b7 n1 (Z2 u4 u6 u7) 151 ∧ ∃ u9 v0 v1 v2 u1 u3 u2 v8 w3 w1, hpC b7 n2 (Z3 u9 v0 v1 v2 u1 u3 u2 v8 w3 w1) 27 ∧ ∃ v3, hpC b7 n3 #[.int .i64 v3] 3 ∧ ∃ v4, hpC b7 n4 #[.int .i64 v4] 3 ∧ ∃ v5, hpC b7 n5 #[.int .i64 v5] 3 ∧ ∃ u5 v6, hpC b7 b5 #[.string u5, .int .i64 v6] 43 ∧
 al b7 (.cells #[.string u5, .int .i64 v6] 43) fun x1 w7 =>
 yc6 pP (Builtin.append_ #[25, 25] 25 #[.slice v8 w3 w1, (.slice (some ⟨x1, 0, none⟩) 1 1)]) w7 fun v9 w4 w2 w8 => yaE [n0, n1, n2, n3, n4, n5, b5] w7 w8 ∧
 ∀ b8, Adv [n2] [] w8 b8 → hpC b8 n1 (Z2 u4 u6 u7) 151 →
 hpC b8 n2 (Z3 u9 v0 v1 v2 u1 u3 u2 v9 w4 w2) 27 →
 hpC b8 n3 #[.int .i64 v3] 3 →
 hpC b8 n4 #[.int .i64 v4] 3 →
 hpC b8 n5 #[.int .i64 v5] 3 →
 hpC b8 b5 #[.string u5, .int .i64 v6] 43 →
 KS (yBM s0 n0 n1 n2 n3 n4 n5 I m) (yfN s0 n0 n1 n2 n3 n4 n5 ((iw .i64 (g2 + 1)), u4, u6, u7, u9, v0, v1, v2, u1, u3, u2, v9, w4, w2, v3, v4, v5)) b8)
 (
 Calls pP 26 #[(.agg (Z3 a6 a7 a8 a9 a0 a4 a2 a1 a5 a3))] w fun e b0 => ∃ w5 w9, e = .returned (.tuple #[.string w5, .int .i64 w9]) ∧ ya2 [n1, n2, n3, n4, n5] [(n0, 27)] [n0] w b0 ∧ ∃ f2 f4 e2, hpC b0 n1 (Z2 f2 f4 e2) 151 ∧ ∃ e3 e4 e5 e6 d0 d8 d4 d1 d9 d5, hpC b0 n2 (Z3 e3 e4 e5 e6 d0 d8 d4 d1 d9 d5) 27 ∧ ∃ f5, hpC b0 n3 #[.int .i64 f5] 3 ∧ ∃ f6, hpC b0 n4 #[.int .i64 f6] 3 ∧ ∃ f7, hpC b0 n5 #[.int .i64 f7] 3 ∧
 brB (e2 != 0) (
 ∀ c2, Adv [n0] [] b0 c2 → hpC c2 n1 (Z2 f2 f4 e2) 151 →
 hpC c2 n2 (Z3 e3 e4 e5 e6 d0 d8 d4 d1 d9 d5) 27 →
 hpC c2 n3 #[.int .i64 f5] 3 →
 hpC c2 n4 #[.int .i64 f6] 3 →
 hpC c2 n5 #[.int .i64 f7] 3 →
 R (.tuple #[(.agg (Z3 0 0 0 0 none 0 0 none 0 0)), .int .i64 40]) c2)
 (
 brB (w9 != 0) (
 ∀ c3, Adv [n0] [] b0 c3 → hpC c3 n1 (Z2 f2 f4 e2) 151 →
 hpC c3 n2 (Z3 e3 e4 e5 e6 d0 d8 d4 d1 d9 d5) 27 →
 hpC c3 n3 #[.int .i64 f5] 3 →
 hpC c3 n4 #[.int .i64 f6] 3 →
 hpC c3 n5 #[.int .i64 f7] 3 →
 R (.tuple #[(.agg (Z3 0 0 0 0 none 0 0 none 0 0)), .int .i64 40]) c3)
 (
 brB (!(w5.toList == s0.toList)) (
 ∀ c4, Adv [n0] [] b0 c4 → hpC c4 n1 (Z2 f2 f4 e2) 151 →
 hpC c4 n2 (Z3 e3 e4 e5 e6 d0 d8 d4 d1 d9 d5) 27 →
 hpC c4 n3 #[.int .i64 f5] 3 →
 hpC c4 n4 #[.int .i64 f6] 3 →
 hpC c4 n5 #[.int .i64 f7] 3 →
 R (.tuple #[(.agg (Z3 0 0 0 0 none 0 0 none 0 0)), .int .i64 40]) c4)
 (
 ∀ c5, Adv [n0] [] b0 c5 → hpC c5 n1 (Z2 f2 f4 e2) 151 →
 hpC c5 n2 (Z3 e3 e4 e5 e6 d0 d8 d4 d1 d9 d5) 27 →
 hpC c5 n3 #[.int .i64 f5] 3 →
 hpC c5 n4 #[.int .i64 f6] 3 →
 hpC c5 n5 #[.int .i64 f7] 3 →
 R (.tuple #[(.agg (Z3 e3 e4 e5 e6 d0 d8 d4 d1 d9 d5)), .int .i64 0]) c5)))))
 (
 Calls pP 26 #[(.agg (Z3 a6 a7 a8 a9 a0 a4 a2 a1 a5 a3))] w fun e b1 => ∃ w6 x0, e = .returned (.tuple #[.string w6, .int .i64 x0]) ∧ ya2 [n1, n2, n3, n4, n5] [(n0, 27)] [n0] w b1 ∧ ∃ f3 f8 e7, hpC b1 n1 (Z2 f3 f8 e7) 151 ∧ ∃ e8 e9 f0 f1 d2 e0 d6 d3 e1 d7, hpC b1 n2 (Z3 e8 e9 f0 f1 d2 e0 d6 d3 e1 d7) 27 ∧ ∃ f9, hpC b1 n3 #[.int .i64 f9] 3 ∧ ∃ g0, hpC b1 n4 #[.int .i64 g0] 3 ∧ ∃ g1, hpC b1 n5 #[.int .i64 g1] 3 ∧
 brB (e7 != 0) (
 ∀ c6, Adv [n0] [] b1 c6 → hpC c6 n1 (Z2 f3 f8 e7) 151 →
 hpC c6 n2 (Z3 e8 e9 f0 f1 d2 e0 d6 d3 e1 d7) 27 →
 hpC c6 n3 #[.int .i64 f9] 3 →
 hpC c6 n4 #[.int .i64 g0] 3 →
 hpC c6 n5 #[.int .i64 g1] 3 →
 R (.tuple #[(.agg (Z3 0 0 0 0 none 0 0 none 0 0)), .int .i64 40]) c6)
 (
 brB (x0 != 0) (
 ∀ c7, Adv [n0] [] b1 c7 → hpC c7 n1 (Z2 f3 f8 e7) 151 →
 hpC c7 n2 (Z3 e8 e9 f0 f1 d2 e0 d6 d3 e1 d7) 27 →
 hpC c7 n3 #[.int .i64 f9] 3 →
 hpC c7 n4 #[.int .i64 g0] 3 →
 hpC c7 n5 #[.int .i64 g1] 3 →
 R (.tuple #[(.agg (Z3 0 0 0 0 none 0 0 none 0 0)), .int .i64 40]) c7)
 (
 brB (!(w6.toList == s0.toList)) (
 ∀ c8, Adv [n0] [] b1 c8 → hpC c8 n1 (Z2 f3 f8 e7) 151 →
 hpC c8 n2 (Z3 e8 e9 f0 f1 d2 e0 d6 d3 e1 d7) 27 →
 hpC c8 n3 #[.int .i64 f9] 3 →
 hpC c8 n4 #[.int .i64 g0] 3 →
 hpC c8 n5 #[.int .i64 g1] 3 →
 R (.tuple #[(.agg (Z3 0 0 0 0 none 0 0 none 0 0)), .int .i64 40]) c8)
 (
 ∀ c9, Adv [n0] [] b1 c9 → hpC c9 n1 (Z2 f3 f8 e7) 151 →
 hpC c9 n2 (Z3 e8 e9 f0 f1 d2 e0 d6 d3 e1 d7) 27 →
 hpC c9 n3 #[.int .i64 f9] 3 →
 hpC c9 n4 #[.int .i64 g0] 3 →
 hpC c9 n5 #[.int .i64 g1] 3 →
 R (.tuple #[(.agg (Z3 e8 e9 f0 f1 d2 e0 d6 d3 e1 d7)), .int .i64 0]) c9))))) :
 yaK yg9 (yiK 390 [0, 0, 1, 0, 1, 1, 1, 1, 1, 1, 1, 1]) (ykL [1, 1, 1, 1, 1, 1, 1, 1, 0, 1, 0] [] R) (yfN s0 n0 n1 n2 n3 n4 n5 (i0, s1, i1, i2, i3, i4, i5, i6, q0, n6, n7, q1, n8, n9, i7, i8, i9)) w0 :=
 lrule (yfN s0 n0 n1 n2 n3 n4 n5) (U17 I) h0 (by rintro m ⟨g2, b6, b9, b2, a6, a7, a8, a9, a0, a4, a2, a1, a5, a3, c0, c1, b3⟩ w h; exact ⟨by kernel_rfl, by kernel_rfl, fun js => Eq.mpr (by kernel_rfl) (hr m g2 b6 b9 b2 a6 a7 a8 a9 a0 a4 a2 a1 a5 a3 c0 c1 b3 w h)⟩)
theorem yGd (h :
 ∀ b1, w.heap.size ≤ b1 →
 ∀ b2, w.heap.size ≤ b2 →
 ∀ b3, w.heap.size ≤ b3 →
 ∀ b4, w.heap.size ≤ b4 →
 ∀ b5, w.heap.size ≤ b5 →
 ∀ b6, w.heap.size ≤ b6 →
 ∀ w7, Adv [] [b6, b5, b4, b3, b2, b1] w w7 → hpC w7 b3 (Z3 0 0 0 0 none 0 0 none 0 0) 27 →
 hpC w7 b4 #[.int .i64 0] 3 →
 hpC w7 b5 #[.int .i64 0] 3 →
 al w7 (.cells #[(.pointer (some ⟨b4, 0, none⟩)), (.pointer (some ⟨b3, 1, none⟩)), (.pointer (some ⟨b3, 2, none⟩)), (.pointer (some ⟨b3, 3, none⟩)), (.pointer (some ⟨b5, 0, none⟩))] 62) fun b8 w9 =>
 ∀ a0, Adv [] [] w9 a0 → hpC a0 b2 (Z2 s0 0 0) 151 →
 hpC a0 b3 (Z3 0 0 0 0 none 0 0 none 0 0) 27 →
 hpC a0 b4 #[.int .i64 0] 3 →
 hpC a0 b5 #[.int .i64 0] 3 →
 yaK yo0 (yiK 394 [0, 0, 1, 0, 1, 1, 1, 1]) (ykL [1, 1, 1, 1, 0, 1, 0] [] R) (yh9 s0 (some ⟨b8, 0, none⟩) 5 5 b1 b2 b3 b4 b5 b6 (0, s0, 0, 0, 0, 0, 0, 0, none, 0, 0, none, 0, 0, 0, 0)) a0) :
 CR pP 81 #[.string s0] w R :=
 yaA Tryz.wide_mixed (an := yo2) Tryz.func81 rfl rfl (by kernel_rfl) rfl (Eq.mpr (by kernel_rfl) h)
def yo3 : LA := ⟨[0, 0, 1, 0, 1, 1, 1], [0, 2, 3, 4, 15, 16], [(2, 0, 0), (3, 1, 0)], 2, [1]⟩
def yo4 : List LA := [yo3]
abbrev yEE := dnF pP yo4 (code Tryz.f42)
abbrev yKT := yaO pP yo4 (code Tryz.f42)
abbrev yEF (p : List Nat) (K : List Kh) (R : VWP) := yaO pP yo4 (code Tryz.f42) p K (ya4 pP Tryz.f42 [] R)
def yiA (d4 : BA) (b3 b4 b5 b6 b7 b8 b9 c0 c1 c2 : OA) (bm0 bm1 : Nat) : Int × Int × Int × Int × Int × Int × Int × Int × Int × Int × Int × Int × (OA) × Nat × Nat × Int × Int × Int × Int × (OA) × Nat × Nat × (OA) × Nat × Nat → List Value × List TB := fun (d5, d3, c3, c4, c5, c6, c7, c8, c9, d0, d1, d2, a0, a6, a3, a9, b0, b1, b2, a1, a7, a4, a2, a8, a5) => ([.string d4, (.pointer (some ⟨bm0, 0, none⟩)), (.pointer (some ⟨bm1, 0, none⟩)), .int .i64 d5, (.agg (Z4 b3 b4 b5 b6 b7 b8 b9 c0 c1 c2)), .int .i64 d3], [⟨bm0, 29, [.int .i64 0, .int .i64 0, .int .i64 0, .int .i64 0, .int .i64 0, .int .i64 0, .int .i64 0, .int .i64 0, .int .i64 0, .int .i64 0, .slice none 0 0, .int .i64 0, .int .i64 0, .int .i64 0, .int .i64 0, .slice none 0 0, .slice none 0 0], false⟩, ⟨bm1, 29, [.int .i64 c3, .int .i64 c4, .int .i64 c5, .int .i64 c6, .int .i64 c7, .int .i64 c8, .int .i64 c9, .int .i64 d0, .int .i64 d1, .int .i64 d2, .slice a0 a6 a3, .int .i64 a9, .int .i64 b0, .int .i64 b1, .int .i64 b2, .slice a1 a7 a4, .slice a2 a8 a5], true⟩])
abbrev yBN (b0 : BA) (a0 a1 a2 a3 a4 a5 a6 a7 a8 a9 : OA) (bm0 bm1 : Nat) (I : Nat → Int → Int → Int → Int → Int → Int → Int → Int → Int → Int → Int → Int → OA → Nat → Nat → Int → Int → Int → Int → OA → Nat → Nat → OA → Nat → Nat → World → Prop) (m : Nat) : Kh := KG (yiA b0 a0 a1 a2 a3 a4 a5 a6 a7 a8 a9 bm0 bm1) (U25 I) m
theorem yw6 {I : Nat → Int → Int → Int → Int → Int → Int → Int → Int → Int → Int → Int → Int → OA → Nat → Nat → Int → Int → Int → Int → OA → Nat → Nat → OA → Nat → Nat → World → Prop} (m' : Nat) (h1 : m' < m) (h2 : I m' i0 i1 i2 i3 i4 i5 i6 i7 i8 i9 j0 j1 r0 n2 n3 j2 j3 j4 j5 r1 n4 n5 r2 n6 n7 w) : KS (yBN s0 q0 q1 q2 q3 q4 q5 q6 q7 q8 q9 n0 n1 I m) (yiA s0 q0 q1 q2 q3 q4 q5 q6 q7 q8 q9 n0 n1 (i0, i1, i2, i3, i4, i5, i6, i7, i8, i9, j0, j1, r0, n2, n3, j2, j3, j4, j5, r1, n4, n5, r2, n6, n7)) w := ⟨m', h1, _, rfl, rfl, h2⟩
theorem yw7 (I : Nat → Int → Int → Int → Int → Int → Int → Int → Int → Int → Int → Int → Int → OA → Nat → Nat → Int → Int → Int → Int → OA → Nat → Nat → OA → Nat → Nat → World → Prop) (m0 : Nat) (h0 : I m0 i0 i1 i2 i3 i4 i5 i6 i7 i8 i9 j0 j1 r0 n2 n3 j2 j3 j4 j5 r1 n4 n5 r2 n6 n7 w0)
 (hr : ∀ m g2 d3 c3 c4 c5 c6 c7 c8 c9 d0 d1 d2 b0 b6 b3 b9 c0 c1 c2 b1 b7 b4 b2 b8 b5 w, I m g2 d3 c3 c4 c5 c6 c7 c8 c9 d0 d1 d2 b0 b6 b3 b9 c0 c1 c2 b1 b7 b4 b2 b8 b5 w →
 hpC w n1 (Z0 c3 c4 c5 c6 c7 c8 c9 d0 d1 d2 b0 b6 b3 b9 c0 c1 c2 b1 b7 b4 b2 b8 b5) 29 →
 brB (decide (d3 < 10)) (
 ∃ co, (∀ w' : World, (Instr.index 63 (.agg (Z4 q0 q1 q2 q3 q4 q5 q6 q7 q8 q9)) (.int .i64 d3)).run pP w' = .ok (.pointer co) w') ∧
 Calls pP 79 #[.string s0, .int .i64 g2] w fun e e9 => ∃ bm cq cr, e = .returned (.tuple #[.int .u64 bm, .int .i64 cq, .int .i64 cr]) ∧ ya2 [n1] [(n0, 29)] [n0] w e9 ∧ ∃ bn bo bp bq br bt bu bv bw bx w4 y8 x6 bz ca cb cc w5 y9 x7 w6 z0 x8, hpC e9 n1 (Z0 bn bo bp bq br bt bu bv bw bx w4 y8 x6 bz ca cb cc w5 y9 x7 w6 z0 x8) 29 ∧
 brB (cr != 0) (
 ∀ z2, Adv [n0] [] e9 z2 → hpC z2 n1 (Z0 bn bo bp bq br bt bu bv bw bx w4 y8 x6 bz ca cb cc w5 y9 x7 w6 z0 x8) 29 →
 R (.agg (Z0 0 0 0 0 0 0 0 0 0 0 none 0 0 0 0 0 0 none 0 0 none 0 0)) z2)
 (
 brB (decide (bm > 1099511627776)) (
 ∀ z3, Adv [n0] [] e9 z3 → hpC z3 n1 (Z0 bn bo bp bq br bt bu bv bw bx w4 y8 x6 bz ca cb cc w5 y9 x7 w6 z0 x8) 29 →
 R (.agg (Z0 0 0 0 0 0 0 0 0 0 0 none 0 0 0 0 0 0 none 0 0 none 0 0)) z3)
 (
 ymV co fun ec =>
 st e9 ec [(.int .i64 (iw .i64 bm))] fun z4 => ya2 [n1] [(n0, 29)] [n0] e9 z4 ∧ ∃ cs ct cu cv cw cx cy cz da db ce cl ci dc dd de df cf cm cj ch cn ck, hpC z4 n1 (Z0 cs ct cu cv cw cx cy cz da db ce cl ci dc dd de df cf cm cj ch cn ck) 29 ∧
 KS (yBN s0 q0 q1 q2 q3 q4 q5 q6 q7 q8 q9 n0 n1 I m) (yiA s0 q0 q1 q2 q3 q4 q5 q6 q7 q8 q9 n0 n1 (cq, (iw .i64 (d3 + 1)), cs, ct, cu, cv, cw, cx, cy, cz, da, db, ce, cl, ci, dc, dd, de, df, cf, cm, cj, ch, cn, ck)) z4)))
 (
 Calls pP 78 (Z2 s0 g2 1048576) w fun e g1 => ∃ cp dg dh, e = .returned (.tuple (Z2 cp dg dh)) ∧ ya2 [n1] [(n0, 29)] [n0] w g1 ∧ ∃ di dj dk z5 z6 z7 z8 z9 aa ab v4 x9 w7 ac ad ae af v5 y0 w8 v6 y1 w9, hpC g1 n1 (Z0 di dj dk z5 z6 z7 z8 z9 aa ab v4 x9 w7 ac ad ae af v5 y0 w8 v6 y1 w9) 29 ∧
 brB (dh != 0) (
 ∀ h3, Adv [n0] [] g1 h3 → hpC h3 n1 (Z0 di dj dk z5 z6 z7 z8 z9 aa ab v4 x9 w7 ac ad ae af v5 y0 w8 v6 y1 w9) 29 →
 R (.agg (Z0 0 0 0 0 0 0 0 0 0 0 none 0 0 0 0 0 0 none 0 0 none 0 0)) h3)
 (
 Calls pP 78 (Z2 s0 dg 1048576) g1 fun e e4 => ∃ z1 dv ag, e = .returned (.tuple (Z2 z1 dv ag)) ∧ ya2 [n1] [(n0, 29)] [n0] g1 e4 ∧ ∃ ah ai aj ak am an ao ap aq ar v7 y2 x0 au av aw ax v8 y3 x1 v9 y4 x2, hpC e4 n1 (Z0 ah ai aj ak am an ao ap aq ar v7 y2 x0 au av aw ax v8 y3 x1 v9 y4 x2) 29 ∧
 brB (ag != 0) (
 ∀ h4, Adv [n0] [] e4 h4 → hpC h4 n1 (Z0 ah ai aj ak am an ao ap aq ar v7 y2 x0 au av aw ax v8 y3 x1 v9 y4 x2) 29 →
 R (.agg (Z0 0 0 0 0 0 0 0 0 0 0 none 0 0 0 0 0 0 none 0 0 none 0 0)) h4)
 (
 Calls pP 80 #[.string cp] e4 fun e h5 => ∃ w1 y5 x3 dw, e = .returned (.tuple #[.slice w1 y5 x3, .int .i64 dw]) ∧ ya2 [n1] [(n0, 29)] [n0] e4 h5 ∧ ∃ ay az ba bb bc bd be bf bg bh dl ds dp bi bj bk bl w2 y6 x4 w3 y7 x5, hpC h5 n1 (Z0 ay az ba bb bc bd be bf bg bh dl ds dp bi bj bk bl w2 y6 x4 w3 y7 x5) 29 ∧
 ∀ g0, Adv [n1] [] h5 g0 → hpC g0 n1 (Z0 ay az ba bb bc bd be bf bg bh w1 y5 x3 bi bj bk bl w2 y6 x4 w3 y7 x5) 29 →
 Calls pP 81 #[.string z1] g0 fun e h6 => ∃ h8 h9 u0 u1 g3 g9 g6 g4 h1 g7 dx, e = .returned (.tuple #[(.agg (Z3 h8 h9 u0 u1 g3 g9 g6 g4 h1 g7)), .int .i64 dx]) ∧ ya2 [n1] [(n0, 29)] [n0] g0 h6 ∧ ∃ u2 u3 u4 u5 u6 u7 u9 v0 v1 v2 g5 h2 g8 dy dz ea eb dm dt dq dn du dr, hpC h6 n1 (Z0 u2 u3 u4 u5 u6 u7 u9 v0 v1 v2 g5 h2 g8 dy dz ea eb dm dt dq dn du dr) 29 ∧
 ∀ h7, Adv [n0, n1] [] h6 h7 → hpC h7 n1 (Z0 u2 u3 u4 u5 u6 u7 u9 v0 v1 v2 g5 h2 g8 h8 h9 u0 u1 g3 g9 g6 g4 h1 g7) 29 →
 R (.agg (Z0 u2 u3 u4 u5 u6 u7 u9 v0 v1 v2 g5 h2 g8 h8 h9 u0 u1 g3 g9 g6 g4 h1 g7)) h7)))) :
 yaK yo3 (yEE 395 [0, 0, 1, 0, 1, 1, 1]) (yEF [1, 1, 1, 0, 1, 0] [] R) (yiA s0 q0 q1 q2 q3 q4 q5 q6 q7 q8 q9 n0 n1 (i0, i1, i2, i3, i4, i5, i6, i7, i8, i9, j0, j1, r0, n2, n3, j2, j3, j4, j5, r1, n4, n5, r2, n6, n7)) w0 :=
 lrule (yiA s0 q0 q1 q2 q3 q4 q5 q6 q7 q8 q9 n0 n1) (U25 I) h0 (by rintro m ⟨g2, d3, c3, c4, c5, c6, c7, c8, c9, d0, d1, d2, b0, b6, b3, b9, c0, c1, c2, b1, b7, b4, b2, b8, b5⟩ w h; exact ⟨by kernel_rfl, by kernel_rfl, fun js => Eq.mpr (by kernel_rfl) (hr m g2 d3 c3 c4 c5 c6 c7 c8 c9 d0 d1 d2 b0 b6 b3 b9 c0 c1 c2 b1 b7 b4 b2 b8 b5 w h)⟩)
theorem yGe (h :
 ∀ b1, w.heap.size ≤ b1 →
 ∀ b2, w.heap.size ≤ b2 →
 ∀ w3, Adv [] [b2, b1] w w3 → hpC w3 b2 (Z0 0 0 0 0 0 0 0 0 0 0 none 0 0 0 0 0 0 none 0 0 none 0 0) 29 →
 Calls pP 22 #[(.pointer (some ⟨b2, 0, none⟩))] w3 fun e w4 => ∃ p5 p6 p7 p8 p9 b0 b3 b4 b5 b6, e = .returned (.agg (Z4 p5 p6 p7 p8 p9 b0 b3 b4 b5 b6)) ∧ ya2 [b2] [(b1, 29)] [b1] w3 w4 ∧ ∃ b7 b8 b9 c0 c1 c2 c3 c4 c5 c6 a1 a7 a4 c7 c8 c9 d0 a2 a8 a5 a3 a9 a6, hpC w4 b2 (Z0 b7 b8 b9 c0 c1 c2 c3 c4 c5 c6 a1 a7 a4 c7 c8 c9 d0 a2 a8 a5 a3 a9 a6) 29 ∧
 yaK yo3 (yEE 395 [0, 0, 1, 0, 1, 1, 1]) (yEF [1, 1, 1, 0, 1, 0] [] R) (yiA s0 p5 p6 p7 p8 p9 b0 b3 b4 b5 b6 b1 b2 (0, 0, b7, b8, b9, c0, c1, c2, c3, c4, c5, c6, a1, a7, a4, c7, c8, c9, d0, a2, a8, a5, a3, a9, a6)) w4) :
 CR pP 42 #[.string s0] w R :=
 yaA Tryz.wide_mixed (an := yo4) Tryz.func42 rfl rfl (by kernel_rfl) rfl (Eq.mpr (by kernel_rfl) h)
theorem yGf {a1 : BA} (h :
 ∀ b1, w.heap.size ≤ b1 →
 ∀ w2, Adv [] [b1] w w2 →
 Calls pP 41 (Z2 a1 0 1048576) w2 fun e w3 => ∃ s4 x5 x6, e = .returned (.tuple (Z2 s4 x5 x6)) ∧ yaE [b1] w2 w3 ∧
 Calls pP 42 #[.string s4] w3 fun e w7 => ∃ x8 x9 b4 b5 b6 b7 b8 b9 c0 c1 a2 a9 a6 c2 c3 c4 c5 a3 b0 a7 a4 b2 a8, e = .returned (.agg (Z0 x8 x9 b4 b5 b6 b7 b8 b9 c0 c1 a2 a9 a6 c2 c3 c4 c5 a3 b0 a7 a4 b2 a8)) ∧ yaE [b1] w3 w7 ∧
 ∀ a5, w7.heap.size ≤ a5 →
 ∀ b3, Adv [] [a5] w7 b3 →
 Calls pP 10 #[(.agg (Z0 x8 x9 b4 b5 b6 b7 b8 b9 c0 c1 a2 a9 a6 c2 c3 c4 c5 a3 b0 a7 a4 b2 a8))] b3 fun e a0 => ∃ c6 d1, e = .returned (.tuple #[.string c6, .int .i64 d1]) ∧ yaE [b1, a5] b3 a0 ∧
 brB (x6 != 0) (
 ∀ c7, Adv [b1] [] a0 c7 →
 R (.tuple #[(.agg (Z0 0 0 0 0 0 0 0 0 0 0 none 0 0 0 0 0 0 none 0 0 none 0 0)), .int .i64 180]) c7)
 (
 brB (d1 != 0) (
 ∀ c8, Adv [b1] [] a0 c8 →
 R (.tuple #[(.agg (Z0 0 0 0 0 0 0 0 0 0 0 none 0 0 0 0 0 0 none 0 0 none 0 0)), .int .i64 180]) c8)
 (
 brB (!(c6.toList == a1.toList)) (
 ∀ c9, Adv [b1] [] a0 c9 →
 R (.tuple #[(.agg (Z0 0 0 0 0 0 0 0 0 0 0 none 0 0 0 0 0 0 none 0 0 none 0 0)), .int .i64 180]) c9)
 (
 ∀ d0, Adv [b1] [] a0 d0 →
 R (.tuple #[(.agg (Z0 x8 x9 b4 b5 b6 b7 b8 b9 c0 c1 a2 a9 a6 c2 c3 c4 c5 a3 b0 a7 a4 b2 a8)), .int .i64 0]) d0)))) :
 CR pP 17 #[.string a1] w R :=
 yaA Tryz.wide_mixed (an := []) Tryz.func17 rfl rfl (by kernel_rfl) rfl (Eq.mpr (by kernel_rfl) h)
end
def yKm (o : Option (PRec × Nat)) (v : Value) : Prop := ∃ (x : PRec) (b : Nat) (e : Int), v = .tuple #[x.v, .int .i64 (b : Nat), .int .i64 e] ∧ ((e = 0 ∧ o = some (x, b)) ∨ (e ≠ 0 ∧ b = 0 ∧ o = none))
theorem ymQ (s : BA) (a : Nat) (hs : s.size ≤ 1000000000000) (ha : a ≤ s.size) (w : World) :
  Calls pP 113 #[.string s, .int .i64 (a : Nat)] w fun e w' => ∃ v, e = .returned v ∧ yKm (yqF s.data.toList a) v ∧ Mod [] w w' := by
 refine yI9 ?_
 intro b1 f1 b2 f2 w3 A3 h3
 have s3 := A3.mod.size
 have l1 := A3.lt b1 (by simp)
 have hne : b1 ≠ b2 := by have := A3.nd; simp at this; exact fun h => this h.symm
 refine (ymA (st := some a) hs ⟨a, 0, h3, ha, rfl⟩).mono ?_
 rintro _ w4 ⟨_, rfl, x, rfl, M4, st, ⟨a4, e4, h4, ha4, he4⟩, q4⟩
 have s4 := M4.size
 refine ⟨_, _, _, _, rfl, yaE.ofE M4 fun k hk hl he => by simp at hk he ⊢; omega, _, _, _, h4, ?_⟩
 have q4 : yqF s.data.toList a = st.map fun a => (x, a) := q4
 intro b12 f12
 have N : ∀ {w'}, Adv [b1] [b12] w4 w' → Mod [] w w' := fun A => (A3.mod.go0 M4 (by simpa using f2)).go0 A.mod (by simpa using f1)
 refine yaB (fun g => ⟨rfl, fun w5 A5 _ => ⟨?_, N A5⟩⟩) fun g => ⟨rfl, fun w5 A5 _ => ⟨?_, N A5⟩⟩
 ·have g : e4 ≠ 0 := by simpa using g
  rw [if_neg g] at he4
  refine ⟨⟨false, ⟨#[]⟩, false, ⟨#[]⟩⟩, 0, e4, rfl, .inr ⟨g, rfl, ?_⟩⟩
  rw [q4, he4]; rfl
 ·have g : e4 = 0 := by simpa using g
  rw [if_pos g] at he4
  refine ⟨x, a4, 0, rfl, .inl ⟨rfl, ?_⟩⟩
  rw [q4, he4]; rfl
theorem yC7 {s : BA} {br bp : Nat} {st : Option Nat} {w : World} (hs : s.size ≤ 1000000000000) (h : Rd QT s br st w) (hb : w.heap[bp]? = some (.cells #[.string ⟨#[]⟩, .int .i64 0] 43)) (hne : bp ≠ br) :
  Calls pP 60 #[.iface 149 (.pointer (some ⟨br, 0, none⟩)), .pointer (some ⟨bp, 0, none⟩)] w fun e w' => e = .returned (.tuple #[]) ∧ Rd QT s br (yc4 s.data.toList st).1 w' ∧ w'.heap[bp]? = some (.cells (yjW (yc4 s.data.toList st).2).toArray 43) ∧ Mod [br, bp] w w' := by
 refine yaP (yD6 ?_)
 intro w1 A1
 refine (ynR hs (h.keep0 A1.mod) (off := 0) (x := ⟨#[]⟩) (A1.mod.keep0 hb) rfl hne).mono ?_
 rintro _ w2 ⟨rfl, h2, hb2, M2⟩
 refine ⟨rfl, ?_⟩
 intro w3 A3
 refine (ybX hs (h2.keep0 A3.mod) (off := 1) (x := 0) (A3.mod.keep0 hb2) rfl hne).mono ?_
 rintro _ w4 ⟨rfl, h4, hb4, M4⟩
 refine ⟨rfl, rfl, h4, ?_, ?_⟩
 ·rw [hb4]; rfl
 ·refine (((A1.mod.trans M2).trans A3.mod).trans M4).less fun k hk hl => ?_
  simp at hk ⊢; omega
theorem yo5 {w : World} {B : Nat} {f : Sl} {l : List PFound} {y : PFound} {bs : List Nat} {F : OA → Nat → Nat → World → Prop} (hR : Row w B 55 5 yiM f.a f.n f.c l) (hl : l.length ≤ 1000000) (hB : B ≤ w.heap.size) (hbs : ∀ b ∈ bs, b ∉ ykQ f.a)
  (hF : ∀ a' c' w', Row w' B 55 5 yiM a' (f.n + 1) c' (l ++ [y]) → Mod (ykQ f.a) w w' → F a' (f.n + 1) c' w') :
  al w (.cells (yiM y).toArray 55) fun b w1 => yc6 pP (Builtin.append_ #[24, 24] 24 #[.slice f.a f.n f.c, .slice (some ⟨b, 0, none⟩) 1 1]) w1 fun a n c w2 => yaE bs w1 w2 ∧ F a n c w2 := by
 refine ydB fun b w1 c1 M1 f1 => ?_
 have s1 := M1.size
 obtain ⟨i0, hi0, hz0, hz1, hz2⟩ := info_parts yEX
 refine yb0 (x := y) (hR.keep0 M1) Tryz.underlying24 hi0 hz0 hz1 hz2 rfl (by decide) c1 rfl (ynE _) (by omega) (by unfold maxLen; omega) (by omega) fun a' c' w8 hR8 hM8 => ?_
 have M8 := hM8 _ (ydC f.a)
 refine ⟨yaE.of M8 fun b hb _ => hbs b hb, hF a' c' w8 hR8 ?_⟩
 exact (M1.trans M8).less fun k hk _ => by simpa using hk
theorem yGg {w : World} {B : Nat} {f : Sl} {l : List PPart} {y : PPart} {bs : List Nat} {F : OA → Nat → Nat → World → Prop} (hR : Row w B 43 2 yjW f.a f.n f.c l) (hl : l.length ≤ 1000000) (hB : B ≤ w.heap.size) (hbs : ∀ b ∈ bs, b ∉ ykQ f.a)
  (hF : ∀ a' c' w', Row w' B 43 2 yjW a' (f.n + 1) c' (l ++ [y]) → Mod (ykQ f.a) w w' → F a' (f.n + 1) c' w') :
  al w (.cells (yjW y).toArray 43) fun b w1 => yc6 pP (Builtin.append_ #[25, 25] 25 #[.slice f.a f.n f.c, .slice (some ⟨b, 0, none⟩) 1 1]) w1 fun a n c w2 => yaE bs w1 w2 ∧ F a n c w2 := by
 refine ydB fun b w1 c1 M1 f1 => ?_
 have s1 := M1.size
 obtain ⟨i0, hi0, hz0, hz1, hz2⟩ := info_parts yCt
 refine yb0 (x := y) (hR.keep0 M1) Tryz.underlying25 hi0 hz0 hz1 hz2 rfl (by decide) c1 rfl (yi0 _) (by omega) (by unfold maxLen; omega) (by omega) fun a' c' w8 hR8 hM8 => ?_
 have M8 := hM8 _ (ydC f.a)
 refine ⟨yaE.of M8 fun b hb _ => hbs b hb, hF a' c' w8 hR8 ?_⟩
 exact (M1.trans M8).less fun k hk _ => by simpa using hk
theorem yC8 {l : List UInt8} {st : Option Nat} {b : Nat} {n : Int} (h : ybJ l st 0 = (some b, n)) (x : Int) : ybJ l st x = (some b, n) := by
 unfold ybJ at *
 split at h
 ·rename_i p hp; simpa [hp] using h
 ·simp at h
theorem yBO {l : List UInt8} {a b : Nat} {x : Int} (h : (ybJ l (some a) x).1 = some b) : a < b ∧ b ≤ l.length := by
 unfold ybJ at h
 split at h
 ·rename_i p hp
  have := ygJ (n := p.1) (b := p.2) hp
  simp at h; omega
 ·simp at h
structure RPS (w0 w : World) (b0 b1 b2 b3 b4 b5 : Nat) (s : BA) (a e : Int) (x : PRep) (f p : Sl) (ev fv : Int) : Prop where
 hr : w.heap[b1]? = some (.cells #[.string s, .int .i64 a, .int .i64 e] QT)
 hx : w.heap[b2]? = some (.cells #[.int .i64 x.e, .int .i64 x.off, .int .i64 x.n, .int .i64 x.gen, .slice f.a f.n f.c, .slice p.a p.n p.c] 27)
 he : w.heap[b3]? = some (.cells #[.int .i64 ev] 3)
 hn : w.heap[b4]? = some (.cells #[.int .i64 fv] 3)
 fr : Row w w0.heap.size 55 5 yiM f.a f.n f.c x.found
 pr : Row w w0.heap.size 43 2 yjW p.a p.n p.c x.parts
 m : Mod [b1, b2, b3, b4, b5] w0 w
 lt : b0 < w0.heap.size ∧ b1 < w0.heap.size ∧ b2 < w0.heap.size ∧ b3 < w0.heap.size ∧ b4 < w0.heap.size ∧ b5 < w0.heap.size
 nd : [b5, b4, b3, b2, b1, b0].Nodup
 pos : ∃ n : Nat, a = n ∧ n ≤ s.size
def ycX (a e : Int) : Option Nat := if e = 0 then some a.toNat else none
theorem RPS.rd {w0 w : World} {b0 b1 b2 b3 b4 b5 : Nat} {s : BA} {a e : Int} {x : PRep} {f p : Sl} {ev fv : Int} (H : RPS w0 w b0 b1 b2 b3 b4 b5 s a e x f p ev fv) : Rd QT s b1 (ycX a e) w := by
 obtain ⟨n, h1, h2⟩ := H.pos
 have h3 := H.hr
 rw [h1] at h3
 refine ⟨n, e, h3, h2, ?_⟩
 unfold ycX; rw [h1, Int.toNat_natCast]
theorem RPS.go {w0 w w' : World} {b0 b1 b2 b3 b4 b5 : Nat} {s : BA} {a e : Int} {x : PRep} {f p : Sl} {ev fv : Int} {st : Option Nat} (H : RPS w0 w b0 b1 b2 b3 b4 b5 s a e x f p ev fv) (M : Mod [b1] w w') (hr : Rd QT s b1 st w') :
  ∃ a' e', RPS w0 w' b0 b1 b2 b3 b4 b5 s a' e' x f p ev fv ∧ st = ycX a' e' := by
 obtain ⟨n, e', h1, h2, h3⟩ := hr
 have nd := H.nd
 have lt := H.lt
 simp at nd
 refine ⟨n, e', ⟨h1, M.keep H.hx (by simp; omega), M.keep H.he (by simp; omega), M.keep H.hn (by simp; omega), H.fr.keep M fun ad ha hk => ?_, H.pr.keep M fun ad ha hk => ?_, H.m.via M (by simp), H.lt, H.nd, n, rfl, h2⟩, ?_⟩
 ·have := H.fr.base ad ha; simp at hk; omega
 ·have := H.pr.base ad ha; simp at hk; omega
 ·rw [h3]; unfold ycX; rw [Int.toNat_natCast]
theorem RPS.keep0 {w0 w w' : World} {b0 b1 b2 b3 b4 b5 : Nat} {s : BA} {a e : Int} {x : PRep} {f p : Sl} {ev fv : Int} (H : RPS w0 w b0 b1 b2 b3 b4 b5 s a e x f p ev fv) (M : Mod [] w w') : RPS w0 w' b0 b1 b2 b3 b4 b5 s a e x f p ev fv :=
 ⟨M.keep0 H.hr, M.keep0 H.hx, M.keep0 H.he, M.keep0 H.hn, H.fr.keep0 M, H.pr.keep0 M, H.m.via M (by simp), H.lt, H.nd, H.pos⟩
def yGh (w0 w : World) (s : BA) (v : Value) : Prop :=
 (∃ (x : PRep) (f p : Sl), yfZ s x ∧ v = .tuple #[x.v f p, .int .i64 0] ∧ RepOwn w w0.heap.size x f p) ∨ ((∀ x, ¬ yfZ s x) ∧ v = .tuple #[ye1.v ybY ybY, .int .i64 40])
set_option maxHeartbeats 4000000 in
theorem yJI {wS w0 wX : World} {b0 b1 b2 b3 b4 b5 : Nat} {s : BA} {a e : Int} {x : PRep} {f p : Sl} {ev fv pv : Int} (H : RPS w0 wX b0 b1 b2 b3 b4 b5 s a e x f p ev fv) (h5 : wX.heap[b5]? = some (.cells #[.int .i64 pv] 3))
  (N : Mod [] wS wX) (hb : wS.heap.size ≤ b0) (hl : x.found.length ≤ 1000000 ∧ x.parts.length ≤ 1000000) (hB : wS.heap.size ≤ w0.heap.size) (hsp : ∀ y, yfZ s y → e = 0 ∧ x = y) :
  Calls pP 26 #[(.agg #[.int .i64 x.e, .int .i64 x.off, .int .i64 x.n, .int .i64 x.gen, .slice f.a f.n f.c, .slice p.a p.n p.c])] wX fun e w254 => ∃ (s255 : BA) (x256 : Int), e = .returned (.tuple #[.string s255, .int .i64 x256]) ∧ ya2 [b1, b2, b3, b4, b5] [(b0, 27)] [b0] wX w254 ∧ ∃ (s257 : BA) (x258 x259 : Int), w254.heap[b1]? = some (.cells #[.string s257, .int .i64 x258, .int .i64 x259] 151) ∧ ∃ (x260 x261 x262 x263 : Int) (a264 : OA) (n265 c266 : Nat) (a267 : OA) (n268 c269 : Nat), w254.heap[b2]? = some (.cells #[.int .i64 x260, .int .i64 x261, .int .i64 x262, .int .i64 x263, .slice a264 n265 c266, .slice a267 n268 c269] 27) ∧ ∃ x270 : Int, w254.heap[b3]? = some (.cells #[.int .i64 x270] 3) ∧ ∃ x271 : Int, w254.heap[b4]? = some (.cells #[.int .i64 x271] 3) ∧ ∃ x272 : Int, w254.heap[b5]? = some (.cells #[.int .i64 x272] 3) ∧ brB (x259 != 0) ( ∀ w273, Adv [b0] [] w254 w273 → w273.heap[b1]? = some (.cells #[.string s257, .int .i64 x258, .int .i64 x259] 151) → w273.heap[b2]? = some (.cells #[.int .i64 x260, .int .i64 x261, .int .i64 x262, .int .i64 x263, .slice a264 n265 c266, .slice a267 n268 c269] 27) → w273.heap[b3]? = some (.cells #[.int .i64 x270] 3) → w273.heap[b4]? = some (.cells #[.int .i64 x271] 3) → w273.heap[b5]? = some (.cells #[.int .i64 x272] 3) → (fun v w' => yGh wS w' s v ∧ Mod [] wS w') (.tuple #[(.agg #[.int .i64 0, .int .i64 0, .int .i64 0, .int .i64 0, .slice none 0 0, .slice none 0 0]), .int .i64 40]) w273) ( brB (x256 != 0) ( ∀ w274, Adv [b0] [] w254 w274 → w274.heap[b1]? = some (.cells #[.string s257, .int .i64 x258, .int .i64 x259] 151) → w274.heap[b2]? = some (.cells #[.int .i64 x260, .int .i64 x261, .int .i64 x262, .int .i64 x263, .slice a264 n265 c266, .slice a267 n268 c269] 27) → w274.heap[b3]? = some (.cells #[.int .i64 x270] 3) → w274.heap[b4]? = some (.cells #[.int .i64 x271] 3) → w274.heap[b5]? = some (.cells #[.int .i64 x272] 3) → (fun v w' => yGh wS w' s v ∧ Mod [] wS w') (.tuple #[(.agg #[.int .i64 0, .int .i64 0, .int .i64 0, .int .i64 0, .slice none 0 0, .slice none 0 0]), .int .i64 40]) w274) ( brB (!(s255.toList == s.toList)) ( ∀ w275, Adv [b0] [] w254 w275 → w275.heap[b1]? = some (.cells #[.string s257, .int .i64 x258, .int .i64 x259] 151) → w275.heap[b2]? = some (.cells #[.int .i64 x260, .int .i64 x261, .int .i64 x262, .int .i64 x263, .slice a264 n265 c266, .slice a267 n268 c269] 27) → w275.heap[b3]? = some (.cells #[.int .i64 x270] 3) → w275.heap[b4]? = some (.cells #[.int .i64 x271] 3) → w275.heap[b5]? = some (.cells #[.int .i64 x272] 3) → (fun v w' => yGh wS w' s v ∧ Mod [] wS w') (.tuple #[(.agg #[.int .i64 0, .int .i64 0, .int .i64 0, .int .i64 0, .slice none 0 0, .slice none 0 0]), .int .i64 40]) w275) ( ∀ w276, Adv [b0] [] w254 w276 → w276.heap[b1]? = some (.cells #[.string s257, .int .i64 x258, .int .i64 x259] 151) → w276.heap[b2]? = some (.cells #[.int .i64 x260, .int .i64 x261, .int .i64 x262, .int .i64 x263, .slice a264 n265 c266, .slice a267 n268 c269] 27) → w276.heap[b3]? = some (.cells #[.int .i64 x270] 3) → w276.heap[b4]? = some (.cells #[.int .i64 x271] 3) → w276.heap[b5]? = some (.cells #[.int .i64 x272] 3) → (fun v w' => yGh wS w' s v ∧ Mod [] wS w') (.tuple #[(.agg #[.int .i64 x260, .int .i64 x261, .int .i64 x262, .int .i64 x263, .slice a264 n265 c266, .slice a267 n268 c269]), .int .i64 0]) w276))) := by
 have hA : RepOwn wX w0.heap.size x f p := ⟨H.fr, H.pr, hl.1, hl.2⟩
 refine (yuD hA.at).mono ?_
 rintro _ w1 ⟨rfl, M1⟩
 have H1 := H.keep0 M1
 have lt := H.lt
 refine ⟨_, _, rfl, yaE.of0 M1, _, _, _, H1.hr, _, _, _, _, _, _, _, _, _, _, H1.hx, _, H1.he, _, H1.hn, _, M1.keep0 h5, ?_⟩
 have no : ∀ {w'}, Adv [b0] [] w1 w' → (∀ y, ¬ yfZ s y) → yGh wS w' s (.tuple #[ye1.v ybY ybY, .int .i64 40]) ∧ Mod [] wS w' := fun {w'} A h => ⟨.inr ⟨h, rfl⟩, (N.go0 M1 (by simp)).go0 A.mod (by simpa using hb)⟩
 refine yaB (fun g => fun w2 A2 _ _ _ _ _ => no A2 fun y hy => ?_) fun g => ?_
 ·have := (hsp y hy).1; simp [this] at g
 refine yaB (fun g2 => fun w2 A2 _ _ _ _ _ => no A2 fun y hy => ?_) fun g2 => ?_
 ·have := (hsp y hy).2; subst this; simp [hy.1] at g2
 have g2 : yfR x = 0 := by simpa using g2
 rw [if_pos g2, yf2]
 refine yaB (fun g3 => fun w2 A2 _ _ _ _ _ => no A2 fun y hy => ?_) fun g3 => fun w2 A2 _ _ _ _ _ => ?_
 ·have := (hsp y hy).2; subst this; simp [hy.eq] at g3
 ·have g3 : bs (ydK x) = s := by simpa using g3
  exact ⟨.inl ⟨x, f, p, yfZ.of g2 g3.symm, rfl, ((hA.keep0 M1).keepB A2.mod (by simpa using lt.1)).rebase hB⟩, (N.go0 M1 (by simp)).go0 A2.mod (by simpa using hb)⟩
set_option maxHeartbeats 4000000 in
theorem yJJ {wS w0 wX : World} {b0 b1 b2 b3 b4 b5 : Nat} {s : BA} {a e : Int} {x : PRep} {f : Sl} {ev fv : Int} (H : RPS w0 wX b0 b1 b2 b3 b4 b5 s a e x f ybY ev fv) (h5 : wX.heap[b5]? = some (.cells #[.int .i64 0] 3)) (hp0 : x.parts = [])
  (N : Mod [] wS w0) (hb : wS.heap.size ≤ b0 ∧ wS.heap.size ≤ b1 ∧ wS.heap.size ≤ b2 ∧ wS.heap.size ≤ b3 ∧ wS.heap.size ≤ b4 ∧ wS.heap.size ≤ b5) (hs : s.size ≤ 900000) (hl : x.found.length ≤ 1000000)
  (hsp : ∀ y, yfZ s y → e = 0 ∧ a = (ydE y y.found.length).length ∧ x = ⟨y.e, y.off, y.n, y.gen, y.found, []⟩) :
  Calls pP 112 #[(.pointer (some ⟨b1, 0, none⟩)), (.pointer (some ⟨b5, 0, none⟩))] wX fun e w278 => e = .returned (.tuple #[]) ∧ ya2 [b1, b2, b3, b4, b5] [(b0, 27)] [b0] wX w278 ∧ ∃ (s279 : BA) (x280 x281 : Int), w278.heap[b1]? = some (.cells #[.string s279, .int .i64 x280, .int .i64 x281] 151) ∧ ∃ (x282 x283 x284 x285 : Int) (a286 : OA) (n287 c288 : Nat) (a289 : OA) (n290 c291 : Nat), w278.heap[b2]? = some (.cells #[.int .i64 x282, .int .i64 x283, .int .i64 x284, .int .i64 x285, .slice a286 n287 c288, .slice a289 n290 c291] 27) ∧ ∃ x292 : Int, w278.heap[b3]? = some (.cells #[.int .i64 x292] 3) ∧ ∃ x293 : Int, w278.heap[b4]? = some (.cells #[.int .i64 x293] 3) ∧ ∃ x294 : Int, w278.heap[b5]? = some (.cells #[.int .i64 x294] 3) ∧ yaK yg9 (yiK 390 [0, 0, 1, 0, 1, 1, 1, 1, 1, 1, 1, 1]) (yJH [1, 1, 1, 1, 1, 1, 1, 1, 0, 1, 0] [] (ya4 pP Tryz.f81 [] (fun v w' => yGh wS w' s v ∧ Mod [] wS w'))) (yfN s b0 b1 b2 b3 b4 b5 (0, s279, x280, x281, x282, x283, x284, x285, a286, n287, c288, a289, n290, c291, x292, x293, x294)) w278 := by
 have sB := N.size
 have nd := H.nd
 simp at nd
 have lt := H.lt
 have hss : s.data.toList.length = s.size := by simp
 refine (ybX (by omega) H.rd (off := 0) (x := 0) h5 rfl (by omega)).mono ?_
 rintro _ w1 ⟨rfl, hr1, hb1, M1⟩
 obtain ⟨pv, hpv⟩ : ∃ pv, pv = (ybJ s.data.toList (ycX a e) 0).2 := ⟨_, rfl⟩
 have hb1 : w1.heap[b5]? = some (.cells #[.int .i64 pv] 3) := by rw [hb1, hpv]; rfl
 obtain ⟨a1, e1, H1, hst1⟩ : ∃ a1 e1, RPS w0 w1 b0 b1 b2 b3 b4 b5 s a1 e1 x f ybY ev fv ∧ (ybJ s.data.toList (ycX a e) 0).1 = ycX a1 e1 := by
  obtain ⟨n, e', h1, h2, h3⟩ := hr1
  refine ⟨n, e', ⟨h1, M1.keep H.hx (by simp; omega), M1.keep H.he (by simp; omega), M1.keep H.hn (by simp; omega), H.fr.keep M1 fun ad ha hk => ?_, by rw [hp0]; exact Row.nil .., H.m.via M1 (by simp), H.lt, H.nd, n, rfl, h2⟩, ?_⟩
  ·have := H.fr.base ad ha; simp at hk; omega
  ·rw [h3]; unfold ycX; rw [Int.toNat_natCast]
 refine ⟨rfl, yaE.ofE M1 fun k hk hl he => by simp at hk he ⊢; omega, _, _, _, H1.hr, _, _, _, _, _, _, _, _, _, _, H1.hx, _, H1.he, _, H1.hn, _, hb1, ?_⟩
 have hsp1 : ∀ y, yfZ s y → e1 = 0 ∧ a1 = (ye9 y 0).length ∧ x = ⟨y.e, y.off, y.n, y.gen, y.found, []⟩ ∧ pv = y.parts.length := fun y hy => by
  obtain ⟨h1, h2, h3⟩ := hsp y hy
  have h4 := hy.np
  have h5 : ycX a e = some (ydE y y.found.length).length := by unfold ycX; rw [if_pos h1, h2, Int.toNat_natCast]
  rw [h5, h4] at hst1 hpv
  obtain ⟨n, hn1, hn2⟩ := H1.pos
  unfold ycX at hst1
  by_cases he : e1 = 0
  ·rw [if_pos he] at hst1
   simp only [Option.some.injEq] at hst1
   exact ⟨he, by omega, h3, hpv⟩
  ·rw [if_neg he] at hst1; cases hst1
 obtain ⟨ve, voff, vn, vgen, lf, lp⟩ := x
 have hp0 : lp = [] := hp0
 subst hp0
 refine yw5 (fun mm x16 s1 a e y0 y1 y2 y3 fa fn fc pa pn pc ev' fv' pv' w' => ∃ (i : Nat) (l : List PPart), x16 = i ∧ l.length = i ∧ i ≤ s.size + 1 ∧ (e = 0 → (i : Int) ≤ a) ∧ s1 = s ∧ y0 = ve ∧ y1 = voff ∧ y2 = vn ∧ y3 = vgen ∧ fa = f.a ∧ fn = f.n ∧ fc = f.c ∧ ev' = ev ∧ fv' = fv ∧ pv' = pv ∧ RPS w0 w' b0 b1 b2 b3 b4 b5 s a e ⟨ve, voff, vn, vgen, lf, l⟩ f ⟨pa, pn, pc⟩ ev fv ∧
  (∀ y, yfZ s y → e = 0 ∧ a = (ye9 y i).length ∧ l = y.parts.take i) ∧ mm = pv.toNat - i) pv.toNat
  ⟨0, [], rfl, rfl, by omega, fun h => by obtain ⟨n, h1, _⟩ := H1.pos; omega, rfl, rfl, rfl, rfl, rfl, rfl, rfl, rfl, rfl, rfl, rfl, H1, fun y hy => ⟨(hsp1 y hy).1, (hsp1 y hy).2.1, by simp⟩, by omega⟩ ?_
 rintro mm x16 s1 a2 e2 y0 y1 y2 y3 fa fn fc pa pn pc ev' fv' pv' w2 ⟨i, l, rfl, hli, his, hia, rfl, rfl, rfl, rfl, rfl, rfl, rfl, rfl, rfl, rfl, rfl, H2, hsp2, rfl⟩ _ _ _ _ h52
 have N2 : Mod [] wS w2 := (N.go0 H2.m (by simp; omega))
 have s2 := H2.m.size
 have ek : iw .i64 ((i : Int) + 1) = ((i + 1 : Nat) : Int) := by rw [yaH (by omega) (by omega)]; omega
 have fin : (∀ y, yfZ s1 y → l = y.parts) → _ := fun hd => yJI (a := a2) (pv := pv') H2 h52 N2 hb.1 ⟨hl, by show l.length ≤ _; omega⟩ sB fun y hy => ⟨(hsp2 y hy).1, by rw [hd y hy]; obtain ⟨h1, h2, h3, h4⟩ := hsp1 y hy; cases h3; rfl⟩
 refine yaC (fun hlt => ?_) fun hge => fin fun y hy => ?_
 rotate_left
 ·have h1 := (hsp1 y hy).2.2.2
  have h2 := (hsp2 y hy).2.2
  rw [h2, List.take_of_length_le (by omega)]
 refine yaB (fun g => ?_) fun g => fin fun y hy => ?_
 rotate_left
 ·have := (hsp2 y hy).1; simp [this] at g
 have g : e2 = 0 := by simpa using g
 intro b6 f6 w3 A3 _ _ _ _ _ hp3
 have l6 := A3.lt b6 (by simp)
 have s3 := A3.mod.size
 refine (yC7 (by omega) (H2.rd.keep0 A3.mod) hp3 (by omega)).mono ?_
 rintro _ w4 ⟨rfl, hr4, hp4, M4⟩
 have K4 : Mod [b1] w2 w4 := (A3.mod.trans M4).less fun k hk hl => by simp at hk ⊢; omega
 obtain ⟨a4, e4, H4, hst4⟩ := H2.go K4 hr4
 have s4 := M4.size
 generalize hyp : (yc4 s1.data.toList (ycX a2 e2)).2 = yp at hp4
 refine ⟨rfl, yaE.ofE M4 fun k hk hl he => by simp at hk he ⊢; omega, _, _, _, H4.hr, _, _, _, _, _, _, _, _, _, _, H4.hx, _, H4.he, _, H4.hn, _, K4.keep h52 (by simp; omega), _, _, hp4, ?_⟩
 have hrow : ∀ k ∈ ykQ pa, w0.heap.size ≤ k ∧ k < w2.heap.size := fun k hk => by
  have := ybM H2.pr k hk; exact ⟨this.1, this.2.1⟩
 refine yGg (f := ⟨pa, pn, pc⟩) (y := yp) H4.pr (by show l.length ≤ _; omega) (by have := H4.m.size; exact this) (fun b hb' hk => by have := hrow b hk; simp at hb'; omega) fun a' c' w5 hR5 M5 => ?_
 intro w6 A6 hr6 hx6 he6 hn6 h56 _
 have H6 : RPS w0 w6 b0 b1 b2 b3 b4 b5 s1 a4 e4 ⟨y0, y1, y2, y3, lf, l ++ [yp]⟩ f ⟨a', pn + 1, c'⟩ ev' fv' := by
  refine ⟨hr6, hx6, he6, hn6, ?_, hR5.keep A6.mod fun ad ha hk => ?_, (H4.m.via (M5.trans A6.mod) fun k hk hl => ?_), H4.lt, H4.nd, H4.pos⟩
  ·refine (H4.fr.keep M5 fun ad ha hk => ?_).keep A6.mod fun ad ha hk => ?_
   ·obtain ⟨_, cur, hc⟩ := H4.fr.block ad ha
    obtain ⟨_, _, cur2, hc2⟩ := ybM H4.pr _ hk
    rw [hc2] at hc; cases hc
   ·have := H4.fr.base ad ha; simp at hk; omega
  ·have := hR5.base ad ha; simp at hk; omega
  ·rcases List.mem_append.1 hk with hk | hk
   ·have := hrow k hk; omega
   ·simp at hk ⊢; omega
 refine yw4 (pv'.toNat - (i + 1)) (by omega) ⟨i + 1, l ++ [yp], ek, by simp [hli], ?_, fun he => ?_, rfl, rfl, rfl, rfl, rfl, rfl, rfl, rfl, rfl, rfl, rfl, H6, fun y hy => ?_, by omega⟩
 ·have := hia g
  obtain ⟨n, hn1, hn2⟩ := H2.pos
  omega
 ·
  have hst : ycX a4 e4 = some a4.toNat := by unfold ycX; rw [if_pos he]
  obtain ⟨n, hn1, hn2⟩ := H2.pos
  have h2 : ycX a2 e2 = some n := by unfold ycX; rw [if_pos g, hn1, Int.toNat_natCast]
  rw [hst, h2] at hst4
  unfold yc4 at hst4
  simp only at hst4
  have := hia g
  cases hq : (yfB s1.data.toList (some n) ⟨#[]⟩).1 with
  | none => rw [hq] at hst4; simp [ybJ] at hst4
  | some q =>
   have h5 := yAM hq
   rw [hq] at hst4
   have h6 := yBO hst4
   obtain ⟨n4, hn4, _⟩ := H4.pos
   omega
 ·obtain ⟨h1, h2, h3⟩ := hsp2 y hy
  have h4 := (hsp1 y hy).2.2.2
  obtain ⟨y0', hy0⟩ : ∃ z, y.parts[i]? = some z := ⟨_, List.getElem?_eq_getElem (by omega)⟩
  have h5 := hy.p hy0
  have h6 : ycX a2 e2 = some (ye9 y i).length := by unfold ycX; rw [if_pos h1, h2, Int.toNat_natCast]
  rw [h6, h5] at hst4 hyp
  obtain ⟨n4, hn4, _⟩ := H4.pos
  unfold ycX at hst4
  by_cases he : e4 = 0
  ·rw [if_pos he] at hst4
   simp only [Option.some.injEq] at hst4
   refine ⟨he, by omega, ?_⟩
   have hyp : y0' = yp := hyp
   rw [List.take_add_one, hy0, h3, hyp]; rfl
  ·rw [if_neg he] at hst4; cases hst4
theorem RPS.app {w0 w w1 w2 : World} {b0 b1 b2 b3 b4 b5 : Nat} {s : BA} {a e : Int} {x : PRep} {f p : Sl} {ev fv : Int} {y : PFound} {a' : OA} {n' c' : Nat} (H : RPS w0 w b0 b1 b2 b3 b4 b5 s a e x f p ev fv) (hp : p = ybY) (hx0 : x.parts = []) (hR : Row w1 w0.heap.size 55 5 yiM a' n' c' (x.found ++ [y])) (M : Mod (ykQ f.a) w w1) (A : Mod [b2] w1 w2)
  (hr : w2.heap[b1]? = some (.cells #[.string s, .int .i64 a, .int .i64 e] QT)) (hx : w2.heap[b2]? = some (.cells #[.int .i64 x.e, .int .i64 x.off, .int .i64 x.n, .int .i64 x.gen, .slice a' n' c', .slice p.a p.n p.c] 27))
  (he : w2.heap[b3]? = some (.cells #[.int .i64 ev] 3)) (hn : w2.heap[b4]? = some (.cells #[.int .i64 fv] 3)) :
  RPS w0 w2 b0 b1 b2 b3 b4 b5 s a e ⟨x.e, x.off, x.n, x.gen, x.found ++ [y], x.parts⟩ ⟨a', n', c'⟩ p ev fv := by
 have lt := H.lt
 have hrow : ∀ k ∈ ykQ f.a, w0.heap.size ≤ k := fun k hk => (ybM H.fr k hk).1
 refine ⟨hr, hx, he, hn, hR.keep A fun ad ha hk => ?_, by subst hp; rw [hx0]; exact Row.nil .., (H.m.via (M.trans A) fun k hk hl => ?_), H.lt, H.nd, H.pos⟩
 ·have := hR.base ad ha; simp at hk; omega
 ·rcases List.mem_append.1 hk with hk | hk
  ·have := hrow k hk; omega
  ·simp at hk ⊢; omega
set_option maxHeartbeats 8000000 in
theorem ysX {s : BA} (hs : s.size ≤ 900000) (w : World) :
  Calls pP 81 #[.string s] w fun e w' => ∃ v, e = .returned v ∧ yGh w w' s v ∧ Mod [] w w' := by
 refine yGd ?_
 intro b0 g0 b1 g1 b2 g2 b3 g3 b4 g4 b5 g5 w7 A7 h2 h3 h4
 have s7 := A7.mod.size
 have nd := A7.nd
 have lt : b0 < w7.heap.size ∧ b1 < w7.heap.size ∧ b2 < w7.heap.size ∧ b3 < w7.heap.size ∧ b4 < w7.heap.size ∧ b5 < w7.heap.size := ⟨A7.lt b0 (by simp), A7.lt b1 (by simp), A7.lt b2 (by simp), A7.lt b3 (by simp), A7.lt b4 (by simp), A7.lt b5 (by simp)⟩
 refine ydB fun b8 w9 c9 M9 f9 => ?_
 intro w10 A10 hr10 hx10 he10 hn10
 have s9 := M9.size
 have s10 := A10.mod.size
 have l8 := yaX c9
 have c10 := A10.mod.keep0 c9
 have N10 : Mod [] w w10 := (A7.mod.go0 M9 (by simp)).go0 A10.mod (by simp)
 have H0 : RPS w10 w10 b0 b1 b2 b3 b4 b5 s 0 0 ye1 ybY ybY 0 0 := ⟨hr10, hx10, he10, hn10, Row.nil .., Row.nil .., (Mod.refl _).less (by simp), by omega, nd, 0, rfl, by omega⟩
 refine yw2 (fun mm x28 s1 a e y0 y1 y2 y3 fa fn fc pa pn pc ev fv w' => ∃ k : Nat, x28 = k ∧ k ≤ 5 ∧ s1 = s ∧ y0 = 0 ∧ fa = none ∧ fn = 0 ∧ fc = 0 ∧ pa = none ∧ pn = 0 ∧ pc = 0 ∧ RPS w10 w' b0 b1 b2 b3 b4 b5 s a e ⟨y0, y1, y2, y3, [], []⟩ ybY ybY ev fv ∧
  (∀ x, yfZ s x → e = 0 ∧ a = (yiP x k).length ∧ [ev, y1, y2, y3, fv].take k = (hdI x).take k) ∧ mm = 5 - k) 5
  ⟨0, rfl, by omega, rfl, rfl, rfl, rfl, rfl, rfl, rfl, rfl, H0, fun x _ => ⟨rfl, by simp [yiP], rfl⟩, rfl⟩ ?_
 rintro mm x28 s1 a e y0 y1 y2 y3 fa fn fc pa pn pc ev fv w11 ⟨k, rfl, hk, rfl, rfl, rfl, rfl, rfl, rfl, rfl, rfl, H, hsp, rfl⟩ _ _ _ _
 have nd' := nd
 simp at nd'
 have hss : s1.data.toList.length = s1.size := by simp
 refine yaC (fun hlt => ?_) fun hge => ?_
 ·have hk5 : k < 5 := by omega
  have c11 := H.m.keep c10 (show b8 ∉ [b1, b2, b3, b4, b5] by simp; omega)
  have ek : iw .i64 ((k : Int) + 1) = ((k + 1 : Nat) : Int) := by rw [yaH (by omega) (by omega)]; omega
  have step : ∀ (x0 : Int) (x : PRep), yfZ s1 x → ∃ n, (hdI x)[k]? = some n ∧ ybJ s1.data.toList (ycX a e) x0 = (some (yiP x (k + 1)).length, n) := fun x0 x hx => by
   obtain ⟨h1, h2, h3⟩ := hsp x hx
   obtain ⟨n, hn⟩ : ∃ n, (hdI x)[k]? = some n := ⟨_, List.getElem?_eq_getElem (by simpa [hdI] using hk5)⟩
   refine ⟨n, hn, ?_⟩
   have := hx.hd hn
   unfold ycX
   rw [if_pos h1, h2, Int.toNat_natCast]
   exact yC8 this x0
  have done : ∀ {st : Option Nat} {v x0 : Int} {n : Nat} {e' z1 z2 z3 ev' fv' : Int}, ybJ s1.data.toList (ycX a e) x0 = (st, v) → st = (if e' = 0 then some n else none) → ([ev', z1, z2, z3, fv'].take (k + 1) = [ev, y1, y2, y3, fv].take k ++ [v]) →
    ∀ x, yfZ s1 x → e' = 0 ∧ ((n : Nat) : Int) = (yiP x (k + 1)).length ∧ [ev', z1, z2, z3, fv'].take (k + 1) = (hdI x).take (k + 1) := fun {st v x0 n e' z1 z2 z3 ev' fv'} hv hst ht x hx => by
   obtain ⟨m, hm, hm2⟩ := step x0 x hx
   obtain ⟨_, _, hm3⟩ := hsp x hx
   rw [hv] at hm2
   simp only [Prod.mk.injEq] at hm2
   obtain ⟨e1, e2⟩ := hm2
   rw [e1] at hst
   have he : e' = 0 := by
    by_cases he : e' = 0
    ·exact he
    ·rw [if_neg he] at hst; cases hst
   rw [if_pos he] at hst
   refine ⟨he, by simp only [Option.some.injEq] at hst; omega, ?_⟩
   rw [ht, hm3, e2, List.take_add_one, hm]; rfl
  rcases (by omega : k = 0 ∨ k = 1 ∨ k = 2 ∨ k = 3 ∨ k = 4) with rfl | rfl | rfl | rfl | rfl
  ·refine ⟨_, rfl, by omega, by omega, yeU (x := some ⟨b3, 0, none⟩) (by rw [ya3, yaZ c11]; rfl) ?_⟩
   refine (ybX (by omega) H.rd (off := 0) (x := ev) H.he rfl (by omega)).mono ?_
   rintro _ w12 ⟨rfl, hr, hb, M12⟩
   obtain ⟨n, e', h1, h2', h3'⟩ := hr
   have hb : w12.heap[b3]? = some (.cells #[.int .i64 (ybJ s1.data.toList (ycX a e) ev).2] 3) := by rw [hb]; rfl
   have H' : RPS w10 w12 b0 b1 b2 b3 b4 b5 s1 n e' ⟨0, y1, y2, y3, [], []⟩ ybY ybY (ybJ s1.data.toList (ycX a e) ev).2 fv := ⟨h1, M12.keep H.hx (by simp; omega), hb, M12.keep H.hn (by simp; omega), Row.nil .., Row.nil .., H.m.via M12 (by simp), H.lt, H.nd, n, rfl, h2'⟩
   exact ⟨rfl, yaE.ofE M12 fun k hk hl he => by simp at hk he ⊢; omega, _, _, _, h1, _, _, _, _, _, _, _, _, _, _, H'.hx, _, H'.he, _, H'.hn, yeO (5 - (0 + 1)) (by omega) ⟨0 + 1, ek, by omega, rfl, rfl, rfl, rfl, rfl, rfl, rfl, rfl, H', done rfl h3' rfl, rfl⟩⟩
  ·refine ⟨_, rfl, by omega, by omega, yeU (x := some ⟨b2, 1, none⟩) (by rw [ya3, yaZ c11]; rfl) ?_⟩
   refine (ybX (by omega) H.rd (off := 1) (x := y1) H.hx rfl (by omega)).mono ?_
   rintro _ w12 ⟨rfl, hr, hb, M12⟩
   obtain ⟨n, e', h1, h2', h3'⟩ := hr
   have H' : RPS w10 w12 b0 b1 b2 b3 b4 b5 s1 n e' ⟨0, (ybJ s1.data.toList (ycX a e) y1).2, y2, y3, [], []⟩ ybY ybY ev fv := ⟨h1, by rw [hb]; rfl, M12.keep H.he (by simp; omega), M12.keep H.hn (by simp; omega), Row.nil .., Row.nil .., H.m.via M12 (by simp), H.lt, H.nd, n, rfl, h2'⟩
   exact ⟨rfl, yaE.ofE M12 fun k hk hl he => by simp at hk he ⊢; omega, _, _, _, h1, _, _, _, _, _, _, _, _, _, _, H'.hx, _, H'.he, _, H'.hn, yeO (5 - (1 + 1)) (by omega) ⟨1 + 1, ek, by omega, rfl, rfl, rfl, rfl, rfl, rfl, rfl, rfl, H', done rfl h3' rfl, rfl⟩⟩
  ·refine ⟨_, rfl, by omega, by omega, yeU (x := some ⟨b2, 2, none⟩) (by rw [ya3, yaZ c11]; rfl) ?_⟩
   refine (ybX (by omega) H.rd (off := 2) (x := y2) H.hx rfl (by omega)).mono ?_
   rintro _ w12 ⟨rfl, hr, hb, M12⟩
   obtain ⟨n, e', h1, h2', h3'⟩ := hr
   have H' : RPS w10 w12 b0 b1 b2 b3 b4 b5 s1 n e' ⟨0, y1, (ybJ s1.data.toList (ycX a e) y2).2, y3, [], []⟩ ybY ybY ev fv := ⟨h1, by rw [hb]; rfl, M12.keep H.he (by simp; omega), M12.keep H.hn (by simp; omega), Row.nil .., Row.nil .., H.m.via M12 (by simp), H.lt, H.nd, n, rfl, h2'⟩
   exact ⟨rfl, yaE.ofE M12 fun k hk hl he => by simp at hk he ⊢; omega, _, _, _, h1, _, _, _, _, _, _, _, _, _, _, H'.hx, _, H'.he, _, H'.hn, yeO (5 - (2 + 1)) (by omega) ⟨2 + 1, ek, by omega, rfl, rfl, rfl, rfl, rfl, rfl, rfl, rfl, H', done rfl h3' rfl, rfl⟩⟩
  ·refine ⟨_, rfl, by omega, by omega, yeU (x := some ⟨b2, 3, none⟩) (by rw [ya3, yaZ c11]; rfl) ?_⟩
   refine (ybX (by omega) H.rd (off := 3) (x := y3) H.hx rfl (by omega)).mono ?_
   rintro _ w12 ⟨rfl, hr, hb, M12⟩
   obtain ⟨n, e', h1, h2', h3'⟩ := hr
   have H' : RPS w10 w12 b0 b1 b2 b3 b4 b5 s1 n e' ⟨0, y1, y2, (ybJ s1.data.toList (ycX a e) y3).2, [], []⟩ ybY ybY ev fv := ⟨h1, by rw [hb]; rfl, M12.keep H.he (by simp; omega), M12.keep H.hn (by simp; omega), Row.nil .., Row.nil .., H.m.via M12 (by simp), H.lt, H.nd, n, rfl, h2'⟩
   exact ⟨rfl, yaE.ofE M12 fun k hk hl he => by simp at hk he ⊢; omega, _, _, _, h1, _, _, _, _, _, _, _, _, _, _, H'.hx, _, H'.he, _, H'.hn, yeO (5 - (3 + 1)) (by omega) ⟨3 + 1, ek, by omega, rfl, rfl, rfl, rfl, rfl, rfl, rfl, rfl, H', done rfl h3' rfl, rfl⟩⟩
  ·refine ⟨_, rfl, by omega, by omega, yeU (x := some ⟨b4, 0, none⟩) (by rw [ya3, yaZ c11]; rfl) ?_⟩
   refine (ybX (by omega) H.rd (off := 0) (x := fv) H.hn rfl (by omega)).mono ?_
   rintro _ w12 ⟨rfl, hr, hb, M12⟩
   obtain ⟨n, e', h1, h2', h3'⟩ := hr
   have hb : w12.heap[b4]? = some (.cells #[.int .i64 (ybJ s1.data.toList (ycX a e) fv).2] 3) := by rw [hb]; rfl
   have H' : RPS w10 w12 b0 b1 b2 b3 b4 b5 s1 n e' ⟨0, y1, y2, y3, [], []⟩ ybY ybY ev (ybJ s1.data.toList (ycX a e) fv).2 := ⟨h1, M12.keep H.hx (by simp; omega), M12.keep H.he (by simp; omega), hb, Row.nil .., Row.nil .., H.m.via M12 (by simp), H.lt, H.nd, n, rfl, h2'⟩
   exact ⟨rfl, yaE.ofE M12 fun k hk hl he => by simp at hk he ⊢; omega, _, _, _, h1, _, _, _, _, _, _, _, _, _, _, H'.hx, _, H'.he, _, H'.hn, yeO (5 - (4 + 1)) (by omega) ⟨4 + 1, ek, by omega, rfl, rfl, rfl, rfl, rfl, rfl, rfl, rfl, H', done rfl h3' rfl, rfl⟩⟩
 have hk5 : k = 5 := by omega
 subst hk5
 intro w13 A13 hr13 hx13 he13 hn13
 have hb0 : w.heap.size ≤ b0 ∧ w.heap.size ≤ b1 ∧ w.heap.size ≤ b2 ∧ w.heap.size ≤ b3 ∧ w.heap.size ≤ b4 ∧ w.heap.size ≤ b5 := ⟨g0, g1, g2, g3, g4, g5⟩
 have H13 : RPS w10 w13 b0 b1 b2 b3 b4 b5 s1 a e ⟨ev, y1, y2, y3, [], []⟩ ybY ybY ev fv := ⟨hr13, hx13, he13, hn13, Row.nil .., Row.nil .., H.m.via A13.mod (by simp), H.lt, H.nd, H.pos⟩
 have hsp13 : ∀ x, yfZ s1 x → e = 0 ∧ a = (ydE x 0).length ∧ [ev, y1, y2, y3, fv] = hdI x := fun x hx => by
  obtain ⟨h1, h2, h3⟩ := hsp x hx
  rw [yBH] at h2
  exact ⟨h1, h2, by simpa [hdI] using h3⟩
 clear hsp H
 refine yw3 (fun mm x11 s2 a e z0 z1 z2 z3 fa fn fc pa pn pc ev' fv' w' => ∃ (i : Nat) (l : List PFound), x11 = i ∧ l.length = i ∧ i ≤ s1.size + 1 ∧ (e = 0 → (i : Int) ≤ a) ∧ s2 = s1 ∧ z0 = ev ∧ z1 = y1 ∧ z2 = y2 ∧ z3 = y3 ∧ pa = none ∧ pn = 0 ∧ pc = 0 ∧ ev' = ev ∧ fv' = fv ∧ RPS w10 w' b0 b1 b2 b3 b4 b5 s1 a e ⟨ev, y1, y2, y3, l, []⟩ ⟨fa, fn, fc⟩ ybY ev fv ∧
  (∀ x, yfZ s1 x → e = 0 ∧ a = (ydE x i).length ∧ l = x.found.take i) ∧ mm = fv.toNat - i) fv.toNat
  ⟨0, [], rfl, rfl, by omega, fun h => by obtain ⟨n, h1, _⟩ := H13.pos; omega, rfl, rfl, rfl, rfl, rfl, rfl, rfl, rfl, rfl, rfl, H13, fun x hx => ⟨(hsp13 x hx).1, (hsp13 x hx).2.1, by simp⟩, by omega⟩ ?_
 rintro mm x11 s2 a2 e2 z0 z1 z2 z3 fa fn fc pa pn pc ev' fv' w14 ⟨i, l, rfl, hli, his, hia, rfl, rfl, rfl, rfl, rfl, rfl, rfl, rfl, rfl, rfl, H, hsp, rfl⟩ _ _ _ _
 have s14 := H.m.size
 have hd13 : ∀ x, yfZ s2 x → ev' = x.e ∧ z1 = x.off ∧ z2 = x.n ∧ z3 = x.gen ∧ fv' = x.found.length := fun x hx => by
  have := (hsp13 x hx).2.2
  simpa [hdI] using this
 have ek : iw .i64 ((i : Int) + 1) = ((i + 1 : Nat) : Int) := by rw [yaH (by omega) (by omega)]; omega
 have out : ∀ {w15}, Adv [] [] w14 w15 → w15.heap[b5]? = some (.cells #[.int .i64 0] 3) → (∀ x, yfZ s2 x → i = x.found.length) → _ := fun {w15} A15 h5 hd => yJJ (wS := w) (wX := w15) (H.keep0 A15.mod) h5 rfl N10 hb0 hs (show l.length ≤ _ by omega) fun x hx => by
  obtain ⟨h1, h2, h3⟩ := hsp x hx
  obtain ⟨q1, q2, q3, q4, q5⟩ := hd13 x hx
  have h4 := hd x hx
  refine ⟨h1, by rw [h2, h4], ?_⟩
  rw [h3, h4, List.take_length, q1, q2, q3, q4]
 refine yaC (fun hlt => ?_) fun hge => ?_
 rotate_left
 ·intro w15 A15 _ _ _ _ h5
  refine out A15 h5 fun x hx => ?_
  obtain ⟨_, _, h3⟩ := hsp x hx
  have := congrArg List.length h3
  have h4 := (hd13 x hx).2.2.2.2
  rw [List.length_take] at this; omega
 refine yaB (fun g => ?_) fun g => ?_
 rotate_left
 ·intro w15 A15 _ _ _ _ h5
  refine out A15 h5 fun x hx => ?_
  have := (hsp x hx).1; simp [this] at g
 have g : e2 = 0 := by simpa using g
 intro b6 f6 w15 A15 _ _ _ _ hf15
 have l6 := A15.lt b6 (by simp)
 have s15 := A15.mod.size
 refine (ybX (by omega) (H.rd.keep0 A15.mod) (off := 0) (x := 0) hf15 rfl (by omega)).mono ?_
 rintro _ w16 ⟨rfl, hr16, hf16, M16⟩
 have s16 := M16.size
 have K16 : Mod [b1] w14 w16 := (A15.mod.trans M16).less fun k hk hl => by simp at hk ⊢; omega
 obtain ⟨a16, e16, H16, hst16⟩ := H.go K16 hr16
 obtain ⟨n16, rfl, hn16⟩ := H16.pos
 obtain ⟨off, hoff⟩ : ∃ off, off = (ybJ s2.data.toList (ycX a2 e2) 0).2 := ⟨_, rfl⟩
 have hf16 : w16.heap[b6]? = some (.cells #[.int .i64 off, .bool false, .string ByteArray.empty, .bool false, .string ByteArray.empty] 55) := by rw [hf16, hoff]; rfl
 have hsp16 : ∀ x, yfZ s2 x → ∃ y, x.found[i]? = some y ∧ e16 = 0 ∧ off = y.off ∧ yqF s2.data.toList n16 = some (y.r, (ydE x (i + 1)).length) := fun x hx => by
  obtain ⟨h1, h2, h3⟩ := hsp x hx
  have h4 := (hd13 x hx).2.2.2.2
  obtain ⟨y, hy⟩ : ∃ y, x.found[i]? = some y := ⟨_, List.getElem?_eq_getElem (by omega)⟩
  obtain ⟨h5, h6⟩ := hx.f hy
  have h7 : ycX a2 e2 = some (ydE x i).length := by unfold ycX; rw [if_pos h1, h2, Int.toNat_natCast]
  rw [h7, h5] at hst16 hoff
  unfold ycX at hst16
  by_cases he : e16 = 0
  ·rw [if_pos he, Int.toNat_natCast] at hst16
   simp only [Option.some.injEq] at hst16
   exact ⟨y, hy, he, hoff, by rw [← hst16]; exact h6⟩
  ·rw [if_neg he] at hst16; cases hst16
 have hup16 : e16 = 0 → (i : Int) + 1 ≤ n16 := fun he => by
  have h1 : ycX ((n16 : Nat) : Int) e16 = some n16 := by unfold ycX; rw [if_pos he, Int.toNat_natCast]
  obtain ⟨n2, hn2, hn3⟩ := H.pos
  have h2 : ycX a2 e2 = some n2 := by unfold ycX; rw [if_pos g, hn2, Int.toNat_natCast]
  rw [h1, h2] at hst16
  have h3 := yBO hst16
  have := hia g
  omega
 have hrow : ∀ k ∈ ykQ fa, w10.heap.size ≤ k ∧ k < w14.heap.size := fun k hk => by
  have := ybM H.fr k hk; exact ⟨this.1, this.2.1⟩
 refine ⟨rfl, yaE.ofE M16 fun k hk hl he => by simp at hk he ⊢; omega, _, _, _, H16.hr, _, _, _, _, _, _, _, _, _, _, H16.hx, _, H16.he, _, H16.hn, _, _, _, _, _, hf16, ?_, ?_⟩
 ·intro b9 f9 w17 A17 _ _ _ _ _
  have l9 := A17.lt b9 (by simp)
  have s17 := A17.mod.size
  refine (ymQ s2 n16 (by omega) hn16 w17).mono ?_
  rintro _ w18 ⟨_, rfl, ⟨r, to, e18, rfl, hrec⟩, M18⟩
  have s18 := M18.size
  have K18 : Mod [b1] w14 w18 := ((K16.trans A17.mod).trans M18).less (by simp)
  have H18 := (H16.keep0 A17.mod).keep0 M18
  have hf18 := M18.keep0 (A17.mod.keep0 hf16)
  refine ⟨_, _, _, _, _, _, rfl, yaE.of0 M18, _, _, _, H18.hr, _, _, _, _, _, _, _, _, _, _, H18.hx, _, H18.he, _, H18.hn, _, _, _, _, _, hf18, ?_⟩
  intro w19 A19 _ _ _ _ _
  have s19 := A19.mod.size
  have K19 : Mod [b1] w14 w19 := (K18.trans A19.mod).less fun k hk hl => by simp at hk ⊢; omega
  have hf19 := A19.mod.keep hf18 (show b6 ∉ [b9] by simp; omega)
  have hr19 : Rd QT s2 b1 (ycX ((n16 : Nat) : Int) e16) w19 := H18.rd.keep A19.mod (by simp; omega)
  refine (ydW hr19 (to := to) (e1 := e18) (by
   rcases hrec with ⟨_, h⟩ | ⟨_, h, _⟩
   ·have := ykB h; omega
   ·omega)).mono ?_
  rintro _ w20 ⟨rfl, M20, hr20⟩
  have s20 := M20.size
  have K20 : Mod [b1] w14 w20 := (K19.trans M20).less (by simp)
  have hf20 := M20.keep hf19 (show b6 ∉ [b1] by simp; omega)
  obtain ⟨a20, e20, H20, hst20⟩ := H.go K20 hr20
  refine ⟨_, rfl, yaE.ofE M20 fun k hk hl he => by simp at hk he ⊢; omega, _, _, _, H20.hr, _, _, _, _, _, _, _, _, _, _, H20.hx, _, H20.he, _, H20.hn, _, _, _, _, _, hf20, ?_⟩
  have hc20 : e20 = 0 → e16 = 0 ∧ e18 = 0 ∧ a20 = to ∧ (i : Int) + 1 ≤ a20 := fun he => by
   obtain ⟨n20, hn20, _⟩ := H20.pos
   have h1 : ycX a20 e20 = some n20 := by unfold ycX; rw [if_pos he, hn20, Int.toNat_natCast]
   rw [h1] at hst20
   by_cases hc : (ycX ((n16 : Nat) : Int) e16).isSome = true ∧ e18 = 0
   ·rw [if_pos hc] at hst20
    have h16 : e16 = 0 := by
     by_cases h : e16 = 0
     ·exact h
     ·have := hc.1; unfold ycX at this; rw [if_neg h] at this; cases this
    rcases hrec with ⟨_, h⟩ | ⟨h, _, _⟩
    ·have h2 := ykB h
     have h3 := hup16 h16
     simp only [Option.some.injEq] at hst20
     exact ⟨h16, hc.2, by omega, by omega⟩
    ·exact absurd hc.2 h
   ·rw [if_neg hc] at hst20; cases hst20
  have hsp20 : ∀ x, yfZ s2 x → e20 = 0 ∧ a20 = (ydE x (i + 1)).length ∧ e16 = 0 ∧ e18 = 0 ∧ l ++ [⟨off, r⟩] = x.found.take (i + 1) := fun x hx => by
   obtain ⟨y, hy, h16, h1, h2⟩ := hsp16 x hx
   rcases hrec with ⟨h3, h4⟩ | ⟨_, _, h4⟩
   ·rw [h2] at h4
    simp only [Option.some.injEq, Prod.mk.injEq] at h4
    have h5 : (ycX ((n16 : Nat) : Int) e16).isSome = true := by unfold ycX; rw [if_pos h16]; rfl
    rw [if_pos ⟨h5, h3⟩] at hst20
    obtain ⟨n20, hn20, _⟩ := H20.pos
    unfold ycX at hst20
    by_cases he : e20 = 0
    ·rw [if_pos he] at hst20
     simp only [Option.some.injEq] at hst20
     refine ⟨he, by omega, h16, h3, ?_⟩
     rw [List.take_add_one, hy, (hsp x hx).2.2, h1, ← h4.1]; rfl
    ·rw [if_neg he] at hst20; cases hst20
   ·rw [h2] at h4; cases h4
  refine yaB (fun gm => ?_) fun gm => ?_
  rotate_left
  ·
   refine yo5 (f := ⟨fa, fn, fc⟩) (y := ⟨off, ⟨false, ByteArray.empty, false, ByteArray.empty⟩⟩) H20.fr (show l.length ≤ _ by omega) H20.m.size (fun b hb' hk => by have := hrow b hk; simp at hb'; omega) fun a' c' w22 hR M22 => ?_
   intro w23 A23 hr hx he hn _
   have H23 := H20.app rfl rfl hR M22 A23.mod hr hx he hn
   refine yf0 (fv'.toNat - (i + 1)) (by omega) ⟨i + 1, l ++ [⟨off, ⟨false, ByteArray.empty, false, ByteArray.empty⟩⟩], ek, by simp [hli], ?_, fun he => (hc20 he).2.2.2, rfl, rfl, rfl, rfl, rfl, rfl, rfl, rfl, rfl, rfl, H23, fun x hx => ?_, by omega⟩
   ·have := hia g
    obtain ⟨n, hn1, hn2⟩ := H.pos
    omega
   ·obtain ⟨_, _, h16, h18, _⟩ := hsp20 x hx
    have : (ycX ((n16 : Nat) : Int) e16).isSome = true := by unfold ycX; rw [if_pos h16]; rfl
    rw [this, h18] at gm; cases gm
  ·intro w21 A21 hr21 hx21 he21 hn21 hf21
   have K21 : Mod [b1] w14 w21 := (K20.trans A21.mod).less fun k hk hl => by simp at hk ⊢; omega
   have s21 := A21.mod.size
   refine yo5 (f := ⟨fa, fn, fc⟩) (y := ⟨off, r⟩) (H.fr.keep K21 fun ad ha hk => by have := H.fr.base ad ha; simp at hk; omega) (show l.length ≤ _ by omega) (by have := H.m.size; omega) (fun b hb' hk => by have := hrow b hk; simp at hb'; omega) fun a' c' w22 hR M22 => ?_
   intro w23 A23 hr hx he hn _
   have H21 : RPS w10 w21 b0 b1 b2 b3 b4 b5 s2 a20 e20 ⟨ev', z1, z2, z3, l, []⟩ ⟨fa, fn, fc⟩ ybY ev' fv' := ⟨hr21, hx21, he21, hn21, H.fr.keep K21 fun ad ha hk => by have := H.fr.base ad ha; simp at hk; omega, Row.nil .., H.m.via K21 (by simp), H.lt, H.nd, H20.pos⟩
   have H23 := H21.app rfl rfl hR M22 A23.mod hr hx he hn
   refine yf0 (fv'.toNat - (i + 1)) (by omega) ⟨i + 1, l ++ [⟨off, r⟩], ek, by simp [hli], ?_, fun he => (hc20 he).2.2.2, rfl, rfl, rfl, rfl, rfl, rfl, rfl, rfl, rfl, rfl, H23, fun x hx => ⟨(hsp20 x hx).1, (hsp20 x hx).2.1, (hsp20 x hx).2.2.2.2⟩, by omega⟩
   have := hia g
   obtain ⟨n, hn1, hn2⟩ := H.pos
   omega
 ·intro w17 A17 _ _ _ _ _
  have s17 := A17.mod.size
  refine (ymQ s2 n16 (by omega) hn16 w17).mono ?_
  rintro _ w18 ⟨_, rfl, ⟨r, to, e18, rfl, hrec⟩, M18⟩
  have s18 := M18.size
  have K18 : Mod [b1] w14 w18 := ((K16.trans A17.mod).trans M18).less (by simp)
  have H18 := (H16.keep0 A17.mod).keep0 M18
  have hf18 := M18.keep0 (A17.mod.keep0 hf16)
  refine ⟨_, _, _, _, _, _, rfl, yaE.of0 M18, _, _, _, H18.hr, _, _, _, _, _, _, _, _, _, _, H18.hx, _, H18.he, _, H18.hn, _, _, _, _, _, hf18, ?_⟩
  intro b9 f9 w19 A19 _ _ _ _ _
  have l9 := A19.lt b9 (by simp)
  have s19 := A19.mod.size
  have K19 : Mod [b1] w14 w19 := (K18.trans A19.mod).less fun k hk hl => by simp at hk ⊢; omega
  have hf19 := A19.mod.keep0 hf18
  have hr19 : Rd QT s2 b1 (ycX ((n16 : Nat) : Int) e16) w19 := H18.rd.keep0 A19.mod
  refine (ydW hr19 (to := to) (e1 := e18) (by
   rcases hrec with ⟨_, h⟩ | ⟨_, h, _⟩
   ·have := ykB h; omega
   ·omega)).mono ?_
  rintro _ w20 ⟨rfl, M20, hr20⟩
  have s20 := M20.size
  have K20 : Mod [b1] w14 w20 := (K19.trans M20).less (by simp)
  have hf20 := M20.keep hf19 (show b6 ∉ [b1] by simp; omega)
  obtain ⟨a20, e20, H20, hst20⟩ := H.go K20 hr20
  refine ⟨_, rfl, yaE.ofE M20 fun k hk hl he => by simp at hk he ⊢; omega, _, _, _, H20.hr, _, _, _, _, _, _, _, _, _, _, H20.hx, _, H20.he, _, H20.hn, _, _, _, _, _, hf20, ?_⟩
  have hc20 : e20 = 0 → e16 = 0 ∧ e18 = 0 ∧ a20 = to ∧ (i : Int) + 1 ≤ a20 := fun he => by
   obtain ⟨n20, hn20, _⟩ := H20.pos
   have h1 : ycX a20 e20 = some n20 := by unfold ycX; rw [if_pos he, hn20, Int.toNat_natCast]
   rw [h1] at hst20
   by_cases hc : (ycX ((n16 : Nat) : Int) e16).isSome = true ∧ e18 = 0
   ·rw [if_pos hc] at hst20
    have h16 : e16 = 0 := by
     by_cases h : e16 = 0
     ·exact h
     ·have := hc.1; unfold ycX at this; rw [if_neg h] at this; cases this
    rcases hrec with ⟨_, h⟩ | ⟨h, _, _⟩
    ·have h2 := ykB h
     have h3 := hup16 h16
     simp only [Option.some.injEq] at hst20
     exact ⟨h16, hc.2, by omega, by omega⟩
    ·exact absurd hc.2 h
   ·rw [if_neg hc] at hst20; cases hst20
  have hsp20 : ∀ x, yfZ s2 x → e20 = 0 ∧ a20 = (ydE x (i + 1)).length ∧ e16 = 0 ∧ e18 = 0 ∧ l ++ [⟨off, r⟩] = x.found.take (i + 1) := fun x hx => by
   obtain ⟨y, hy, h16, h1, h2⟩ := hsp16 x hx
   rcases hrec with ⟨h3, h4⟩ | ⟨_, _, h4⟩
   ·rw [h2] at h4
    simp only [Option.some.injEq, Prod.mk.injEq] at h4
    have h5 : (ycX ((n16 : Nat) : Int) e16).isSome = true := by unfold ycX; rw [if_pos h16]; rfl
    rw [if_pos ⟨h5, h3⟩] at hst20
    obtain ⟨n20, hn20, _⟩ := H20.pos
    unfold ycX at hst20
    by_cases he : e20 = 0
    ·rw [if_pos he] at hst20
     simp only [Option.some.injEq] at hst20
     refine ⟨he, by omega, h16, h3, ?_⟩
     rw [List.take_add_one, hy, (hsp x hx).2.2, h1, ← h4.1]; rfl
    ·rw [if_neg he] at hst20; cases hst20
   ·rw [h2] at h4; cases h4
  refine yaB (fun gm => ?_) fun gm => ?_
  rotate_left
  ·
   refine yo5 (f := ⟨fa, fn, fc⟩) (y := ⟨off, ⟨false, ByteArray.empty, false, ByteArray.empty⟩⟩) H20.fr (show l.length ≤ _ by omega) H20.m.size (fun b hb' hk => by have := hrow b hk; simp at hb'; omega) fun a' c' w22 hR M22 => ?_
   intro w23 A23 hr hx he hn _
   have H23 := H20.app rfl rfl hR M22 A23.mod hr hx he hn
   refine yf0 (fv'.toNat - (i + 1)) (by omega) ⟨i + 1, l ++ [⟨off, ⟨false, ByteArray.empty, false, ByteArray.empty⟩⟩], ek, by simp [hli], ?_, fun he => (hc20 he).2.2.2, rfl, rfl, rfl, rfl, rfl, rfl, rfl, rfl, rfl, rfl, H23, fun x hx => ?_, by omega⟩
   ·have := hia g
    obtain ⟨n, hn1, hn2⟩ := H.pos
    omega
   ·obtain ⟨_, _, h16, h18, _⟩ := hsp20 x hx
    have : (ycX ((n16 : Nat) : Int) e16).isSome = true := by unfold ycX; rw [if_pos h16]; rfl
    rw [this, h18] at gm; cases gm
  ·intro w21 A21 hr21 hx21 he21 hn21 hf21
   have K21 : Mod [b1] w14 w21 := (K20.trans A21.mod).less fun k hk hl => by simp at hk ⊢; omega
   have s21 := A21.mod.size
   refine yo5 (f := ⟨fa, fn, fc⟩) (y := ⟨off, r⟩) (H.fr.keep K21 fun ad ha hk => by have := H.fr.base ad ha; simp at hk; omega) (show l.length ≤ _ by omega) (by have := H.m.size; omega) (fun b hb' hk => by have := hrow b hk; simp at hb'; omega) fun a' c' w22 hR M22 => ?_
   intro w23 A23 hr hx he hn _
   have H21 : RPS w10 w21 b0 b1 b2 b3 b4 b5 s2 a20 e20 ⟨ev', z1, z2, z3, l, []⟩ ⟨fa, fn, fc⟩ ybY ev' fv' := ⟨hr21, hx21, he21, hn21, H.fr.keep K21 fun ad ha hk => by have := H.fr.base ad ha; simp at hk; omega, Row.nil .., H.m.via K21 (by simp), H.lt, H.nd, H20.pos⟩
   have H23 := H21.app rfl rfl hR M22 A23.mod hr hx he hn
   refine yf0 (fv'.toNat - (i + 1)) (by omega) ⟨i + 1, l ++ [⟨off, r⟩], ek, by simp [hli], ?_, fun he => (hc20 he).2.2.2, rfl, rfl, rfl, rfl, rfl, rfl, rfl, rfl, rfl, rfl, H23, fun x hx => ⟨(hsp20 x hx).1, (hsp20 x hx).2.1, (hsp20 x hx).2.2.2.2⟩, by omega⟩
   have := hia g
   obtain ⟨n, hn1, hn2⟩ := H.pos
   omega
theorem yGi {n : Int} (h : num n = true) : iw .u64 n = ((n.toNat : Nat) : Int) := by
 have := ye8 h
 obtain ⟨k, rfl⟩ := Int.eq_ofNat_of_zero_le this.1
 rw [yd8 (by omega), Int.toNat_natCast]
theorem ykN {l : List Int} {k : Nat} {n : Int} (h : l[k]? = some n) : (l.take (k + 1)).flatMap ykR = (l.take k).flatMap ykR ++ yaJ n.toNat := ybB h
set_option maxHeartbeats 4000000 in
theorem yo6 {w : World} {m : PMail} {s f p : Sl} (h : MailAt w m s f p) (hlc : m.calls.length ≤ 100000) :
  Calls pP 10 #[m.v s f p] w fun e w' => e = .returned (.tuple #[.string (if ybT m = 0 then yeL m else bs []), .int .i64 (ybT m)]) ∧ Mod [] w w' := by
 refine yaP (yF7 ?_)
 intro b1 f1 w2 A2
 have l1 := A2.lt b1 (by simp)
 refine (ygM ((h.keep0 A2.mod).w hlc)).mono ?_
 rintro _ w3 ⟨rfl, M3⟩
 have s3 := M3.size
 have N3 := A2.mod.go0 M3 (by simp)
 refine ⟨_, rfl, yaE.of0 M3, yaB (fun g => ?_) fun g => ?_⟩
 ·have g : yb5 m ≠ 0 := by simpa using g
  have e : ybT m = yb5 m := by rw [ybT, if_pos g]
  rw [e, if_neg g]; exact ⟨rfl, N3⟩
 have g : yb5 m = 0 := by simpa using g
 obtain ⟨_, hn, ht, hr⟩ := ycV g
 have hE : ybT m = if (ybL m).length > 1048576 then 2 else 0 := by rw [ybT, if_neg (by simpa using g)]
 intro b5 f5 w6 A6 h6
 have l5 := A6.lt b5 (by simp)
 refine (yqD b1 w6).mono ?_
 rintro _ w7 ⟨rfl, M7⟩
 refine ⟨_, _, _, _, _, _, _, _, _, _, rfl, yaE.of0 M7, _, _, _, _, _, _, _, _, _, _, _, _, _, _, _, _, _, _, _, _, _, _, _, M7.keep0 h6, ?_⟩
 intro w8 A8 h8 hb8
 have s6 := A6.mod.size
 have s7 := M7.size
 have s8 := A8.mod.size
 have N8 : Mod [] w w8 := ((N3.go0 A6.mod (by simp)).go0 M7 (by simp)).go0 A8.mod (by simp)
 have hB0 : Sb w3.heap.size b5 [] w8 := Sb.fresh f5 hb8
 have hsb : yb3 w8 1 (fun x : Int => [.int .i64 x]) (some ⟨b1, 0, none⟩) 10 (yaR m) := ⟨rfl, fun i x hx => ⟨_, rfl, fun j v hv => by
  have hj : j = 0 := by have := (List.getElem?_eq_some_iff.1 hv).1; simp at this; omega
  subst hj
  simp at hv; subst hv
  have := yeJ (s := s) (f := f) (p := p) h8 hx
  simpa [ya3, add_zero] using this⟩⟩
 refine ywZ (fun mm x19 k0 k1 k2 k3 k4 k5 k6 k7 k8 k9 sa sn sc r0 r1 r2 r3 fa fn fc pa pn pc p1 a1 n1 c1 w' => ∃ k : Nat, x19 = k ∧ k ≤ 10 ∧ k0 = m.kind ∧ k1 = m.fr ∧ k2 = m.to ∧ k3 = m.view ∧ k4 = m.normal ∧ k5 = m.last ∧ k6 = m.commit ∧ k7 = m.nonce ∧ k8 = m.base ∧ k9 = m.n ∧ sa = s.a ∧ sn = s.n ∧ sc = s.c ∧ r0 = m.r.e ∧ r1 = m.r.off ∧ r2 = m.r.n ∧ r3 = m.r.gen ∧ fa = f.a ∧ fn = f.n ∧ fc = f.c ∧ pa = p.a ∧ pn = p.n ∧ pc = p.c ∧ Sb w3.heap.size b5 (((yaR m).take k).flatMap ykR) w' ∧ Wr w3.heap.size b5 w8 w' ∧ mm = 10 - k) 10
  ⟨0, rfl, by omega, rfl, rfl, rfl, rfl, rfl, rfl, rfl, rfl, rfl, rfl, rfl, rfl, rfl, rfl, rfl, rfl, rfl, rfl, rfl, rfl, rfl, rfl, rfl, by simpa using hB0, Wr.of0 (Mod.refl _) (by omega), rfl⟩ ?_
 rintro mm x19 k0 k1 k2 k3 k4 k5 k6 k7 k8 k9 sa sn sc r0 r1 r2 r3 fa fn fc pa pn pc p1 a1 n1 c1 w9 ⟨k, rfl, hk, rfl, rfl, rfl, rfl, rfl, rfl, rfl, rfl, rfl, rfl, rfl, rfl, rfl, rfl, rfl, rfl, rfl, rfl, rfl, rfl, rfl, rfl, rfl, hB9, W9, rfl⟩ h9 hb9
 have lk := yeN hn k
 have lk1 := yeN hn (k + 1)
 have s9 := W9.bel.size
 have N9 : Mod [] w w9 := W9.mod N8 (by have := N3.size; omega)
 have sz3 : w3.heap.size ≤ w9.heap.size := by omega
 have ne : b1 ≠ b5 := by omega
 have M0 : ∀ {w'}, Wr w3.heap.size b5 w8 w' → Mod [] w w' := fun W => W.mod N8 (by have := N3.size; omega)
 refine yaC (fun hlt => ?_) fun hge => ?_
 ·have hk' : k < 10 := by omega
  obtain ⟨x, hx⟩ : ∃ x, (yaR m)[k]? = some x := ⟨_, List.getElem?_eq_getElem (by simpa [yaR] using hk')⟩
  have hc := yeJ (s := s) (f := f) (p := p) h9 hx
  have hx1 := yfY hn hx
  refine ⟨_, yFr b1 hk', yi2 (yaF hc ?_)⟩
  rw [yGi hx1]
  refine (yjV x.toNat (yeM hx1).1 w9).mono ?_
  rintro _ w10 ⟨rfl, M10⟩
  obtain ⟨q1, q2, q3, q4, hq⟩ := (hB9.keep0 M10).cells
  refine ⟨_, rfl, _, _, _, _, _, _, _, _, _, _, _, _, _, _, _, _, _, _, _, _, _, _, _, M10.keep0 h9, _, _, _, _, hq, ?_⟩
  have ls := yeM hx1
  have lv := (yaL x.toNat ls.1).2
  have s10 := M10.size
  refine (yAz (hB9.keep0 M10) (l2 := yaJ x.toNat) (by omega) (by omega)).mono ?_
  rintro _ w11 ⟨rfl, hB11, W11⟩
  obtain ⟨t1, t2, t3, t4, ht1⟩ := hB11.cells
  have W9' : Wr w3.heap.size b5 w8 w11 := (W9.trans (Wr.of0 M10 (by omega))).trans W11
  refine ⟨_, _, rfl, _, _, _, _, _, _, _, _, _, _, _, _, _, _, _, _, _, _, _, _, _, _, _, W11.keep (M10.keep0 h9) ne (by decide), _, _, _, _, ht1, ?_⟩
  refine ywY (10 - (k + 1)) (by omega) ⟨k + 1, by rw [yaH (by omega) (by omega)]; omega, by omega, rfl, rfl, rfl, rfl, rfl, rfl, rfl, rfl, rfl, rfl, rfl, rfl, rfl, rfl, rfl, rfl, rfl, rfl, rfl, rfl, rfl, rfl, rfl, ?_, W9', rfl⟩
  rw [ykN hx]; exact hB11
 ·have hk' : k = 10 := by omega
  subst hk'
  have e10 : (yaR m).take 10 = yaR m := List.take_of_length_le (by simp [yaR])
  rw [e10] at hB9 lk
  obtain ⟨ll, hll, hop, hcs⟩ := h.calls
  have hl : ll.length ≤ 1000000 := by have := congrArg List.length hcs; simp at *; omega
  refine (ysR (s := s) (ll := ll) ⟨hll.keep0 N9, fun q hq => (hop q hq).keep0 N9⟩ hl).mono ?_
  rw [hcs, ht, if_pos rfl]
  rintro _ w10 ⟨rfl, M10⟩
  obtain ⟨q1, q2, q3, q4, hq⟩ := (hB9.keep0 M10).cells
  refine ⟨_, _, rfl, _, _, _, _, _, _, _, _, _, _, _, _, _, _, _, _, _, _, _, _, _, _, _, M10.keep0 h9, _, _, _, _, hq, ?_⟩
  have N10 := N9.go0 M10 (by simp)
  refine (yuD (h.rep.keep0 N10)).mono ?_
  rw [hr, if_pos rfl]
  rintro _ w11 ⟨rfl, M11⟩
  obtain ⟨t1, t2, t3, t4, ht1⟩ := ((hB9.keep0 M10).keep0 M11).cells
  refine ⟨_, _, rfl, _, _, _, _, _, _, _, _, _, _, _, _, _, _, _, _, _, _, _, _, _, _, _, M11.keep0 (M10.keep0 h9), _, _, _, _, ht1, ?_⟩
  have hne : (yaR m).flatMap ykR ≠ [] := fun e => by
   have := (yaL m.kind.toNat (by have := ye8 (yfY hn (k := 0) (n := m.kind) rfl); omega)).1
   have e2 := congrArg List.length e
   simp only [yaR, List.flatMap_cons, List.length_append, List.length_nil] at e2
   unfold ykR at e2
   omega
  have s10 := M10.size
  have s11 := M11.size
  refine (yFg ((hB9.keep0 M10).keep0 M11) hne).mono ?_
  rintro _ w12 ⟨rfl, hB12, W12⟩
  have s12 := W12.bel.size
  obtain ⟨u1, u2, u3, u4, hu1⟩ := hB12.cells
  have h12 := W12.keep (M11.keep0 (M10.keep0 h9)) ne (by decide)
  refine ⟨_, rfl, _, _, _, _, _, _, _, _, _, _, _, _, _, _, _, _, _, _, _, _, _, _, _, h12, _, _, _, _, hu1, ?_⟩
  have lt := yg7 ht
  have lr : (ydK m.r).length ≤ 60000 := (RepGood.of hr).len3 m.r.parts.length
  have W8 : Wr w3.heap.size b5 w8 w12 := ((W9.trans (Wr.of0 M10 (by omega))).trans (Wr.of0 M11 (by omega))).trans W12
  refine (ycO (bs (ybK m.calls)) (by rw [yaD]; omega) w12).mono ?_
  rintro _ w13 ⟨rfl, M13⟩
  obtain ⟨v1, v2, v3, v4, hv1⟩ := (hB12.keep0 M13).cells
  have p1 := (yaW (bs (ybK m.calls)) (by rw [yaD]; omega)).2
  have p2 := (yaW (bs (ydK m.r)) (by rw [yaD]; omega)).2
  rw [yaD] at p1 p2
  refine ⟨_, rfl, _, _, _, _, _, _, _, _, _, _, _, _, _, _, _, _, _, _, _, _, _, _, _, M13.keep0 h12, _, _, _, _, hv1, by rw [yaD, yaD]; omega, ?_⟩
  rw [ya9]
  refine (ycO (bs (ydK m.r)) (by rw [yaD]; omega) w13).mono ?_
  rintro _ w14 ⟨rfl, M14⟩
  obtain ⟨y1, y2, y3, y4, hy1⟩ := ((hB12.keep0 M13).keep0 M14).cells
  refine ⟨_, rfl, _, _, _, _, _, _, _, _, _, _, _, _, _, _, _, _, _, _, _, _, _, _, _, M14.keep0 (M13.keep0 h12), _, _, _, _, hy1, by rw [yaD, yaD, List.length_append]; omega, ?_⟩
  rw [ya9]
  have eB : (yaR m).flatMap ykR ++ ybU (bs (ybK m.calls)) ++ ybU (bs (ydK m.r)) = ybL m := rfl
  rw [eB]
  have lB := ykK g
  have N14 : Mod [] w w14 := ((M0 W8).go0 M13 (by simp)).go0 M14 (by simp)
  refine yaC (fun hbig => ?_) fun hbig => ?_
  ·rw [yaD] at hbig
   have e : ybT m = 2 := by rw [hE, if_pos (by omega)]
   rw [e]; exact ⟨rfl, N14⟩
  ·rw [yaD] at hbig
   have e : ybT m = 0 := by rw [hE, if_neg (by omega)]
   refine (ytK (bs (ybL m)) (by rw [yaD]; omega) w14).mono ?_
   rintro _ w15 ⟨rfl, M15⟩
   obtain ⟨z1, z2, z3, z4, hz1⟩ := (((hB12.keep0 M13).keep0 M14).keep0 M15).cells
   refine ⟨_, rfl, _, _, _, _, _, _, _, _, _, _, _, _, _, _, _, _, _, _, _, _, _, _, _, M15.keep0 (M14.keep0 (M13.keep0 h12)), _, _, _, _, hz1, ?_⟩
   rw [e, if_pos rfl]; exact ⟨rfl, N14.go0 M15 (by simp)⟩
set_option maxHeartbeats 4000000 in
theorem yBP {w : World} {m : PMail} {s f p : Sl} (h : MailAt w m s f p) (hlc : m.calls.length ≤ 100000) :
  Calls pP 11 #[m.v s f p] w fun e w' => e = .returned (.tuple #[.string (if ybT m = 0 then yeL m else bs []), .int .i64 (ybT m)]) ∧ Mod [] w w' := by
 refine yaP (yBD ?_)
 intro b1 f1 w2 A2
 refine (ykJ (h.keep0 A2.mod) hlc).mono ?_
 rintro _ w3 ⟨rfl, M3⟩
 have N3 := A2.mod.go0 M3 (by simp)
 refine ⟨_, rfl, yaE.of0 M3, yaB (fun g => ?_) fun g => ?_⟩
 ·have g : yb5 m ≠ 0 := by simpa using g
  have e : ybT m = yb5 m := by rw [ybT, if_pos g]
  rw [e, if_neg g]; exact ⟨rfl, N3⟩
 have g : yb5 m = 0 := by simpa using g
 obtain ⟨_, hn, ht, hr⟩ := ycV g
 have hE : ybT m = if (ybL m).length > 1048576 then 2 else 0 := by rw [ybT, if_neg (by simpa using g)]
 refine (yhV m s f p).mono ?_
 rintro _ w4 ⟨_, rfl, c4, rfl, h4, M4⟩
 refine ⟨_, _, _, rfl, yaE.of0 M4, ?_⟩
 have N4 := N3.go0 M4 (by simp)
 refine ymP (fun mm s5 x7 w' => ∃ k : Nat, x7 = k ∧ k ≤ 10 ∧ s5 = bs (((yaR m).take k).flatMap ykR) ∧ Mod [] w4 w' ∧ mm = 10 - k) 10 ⟨0, rfl, by omega, by simp [yDG], Mod.refl _, rfl⟩ ?_
 rintro mm s5 x7 w5 ⟨k, rfl, hk, rfl, M5, rfl⟩
 have lk := yeN hn k
 have N5 := N4.go0 M5 (by simp)
 refine yaC (fun hlt => ?_) fun hge => ?_
 ·have hk' : k < 10 := by omega
  obtain ⟨x, hx⟩ : ∃ x, (yaR m)[k]? = some x := ⟨_, List.getElem?_eq_getElem (by simpa [yaR] using hk')⟩
  have hx1 := yfY hn hx
  have ls := yeM hx1
  have lv := (yaL x.toNat ls.1).2
  refine (h4.keep0 M5).ix hx fun q hq => yaF (x := x) (by simpa [add_zero] using hq 0 _ rfl) ?_
  rw [yGi hx1]
  refine (yb1 ls.1 w5).mono ?_
  rintro _ w6 ⟨rfl, M6⟩
  refine ⟨_, rfl, yaE.of0 M6, by rw [yaD, yaD]; omega, ?_⟩
  rw [ya9]
  exact ymO (10 - (k + 1)) (by omega) ⟨k + 1, by rw [yaH (by omega) (by omega)]; omega, by omega, by rw [ykN hx], M5.go0 M6 (by simp), rfl⟩
 ·have hk' : k = 10 := by omega
  subst hk'
  have e10 : (yaR m).take 10 = yaR m := List.take_of_length_le (by simp [yaR])
  rw [e10] at lk ⊢
  obtain ⟨ll, hll, hop, hcs⟩ := h.calls
  have hl : ll.length ≤ 1000000 := by have := congrArg List.length hcs; simp at *; omega
  refine (ymL (s := s) (ll := ll) ⟨hll.keep0 N5, fun q hq => (hop q hq).keep0 N5⟩ hl).mono ?_
  rw [hcs, ht, if_pos rfl]
  rintro _ w6 ⟨rfl, M6⟩
  have N6 := N5.go0 M6 (by simp)
  refine ⟨_, _, rfl, yaE.of0 M6, ?_⟩
  refine (yfX (h.rep.keep0 N6)).mono ?_
  rw [hr, if_pos rfl]
  rintro _ w7 ⟨rfl, M7⟩
  refine ⟨_, _, rfl, yaE.of0 M7, ?_⟩
  have lt := yg7 ht
  have lr : (ydK m.r).length ≤ 60000 := (RepGood.of hr).len3 m.r.parts.length
  refine (ybG (bs (ybK m.calls)) (by rw [yaD]; omega) w7).mono ?_
  rintro _ w8 ⟨rfl, M8⟩
  refine ⟨_, rfl, yaE.of0 M8, ?_⟩
  refine (ybG (bs (ydK m.r)) (by rw [yaD]; omega) w8).mono ?_
  rintro _ w9 ⟨rfl, M9⟩
  have p1 := (yaW (bs (ybK m.calls)) (by rw [yaD]; omega)).2
  have p2 := (yaW (bs (ydK m.r)) (by rw [yaD]; omega)).2
  rw [yaD] at p1 p2
  refine ⟨_, rfl, yaE.of0 M9, by rw [yaD, yaD]; omega, ?_⟩
  rw [ya9]
  refine ⟨by rw [yaD, yaD, List.length_append]; omega, ?_⟩
  rw [ya9]
  have eB : (yaR m).flatMap ykR ++ (ybU (bs (ybK m.calls)) ++ ybU (bs (ydK m.r))) = ybL m := by rw [← List.append_assoc]; rfl
  rw [eB]
  have lB := ykK g
  have N9 : Mod [] w w9 := ((N6.go0 M7 (by simp)).go0 M8 (by simp)).go0 M9 (by simp)
  refine yaC (fun hbig => ?_) fun hbig => ?_
  ·rw [yaD] at hbig
   have e : ybT m = 2 := by rw [hE, if_pos (by omega)]
   rw [e]; exact ⟨rfl, N9⟩
  ·rw [yaD] at hbig
   have e : ybT m = 0 := by rw [hE, if_neg (by omega)]
   refine (ykH (bs (ybL m)) (by rw [yaD]; omega) w9).mono ?_
   rintro _ w10 ⟨rfl, M10⟩
   refine ⟨_, rfl, yaE.of0 M10, ?_⟩
   rw [e, if_pos rfl]; exact ⟨rfl, N9.go0 M10 (by simp)⟩
theorem yJO.out {a : Nat} {o : Option (Nat × Nat)} {v : Value} (h : yJO a o v) : ∃ (n : Nat) (b e : Int), v = .tuple #[.int .u64 (n : Nat), .int .i64 b, .int .i64 e] ∧ ((e = 0 ∧ ∃ m : Nat, b = ((a + m : Nat) : Int) ∧ o = some (n, m)) ∨ (e ≠ 0 ∧ o = none)) := by
 cases o with
 | none => obtain ⟨e, he, rfl⟩ := h; exact ⟨0, _, _, rfl, .inr ⟨he, rfl⟩⟩
 | some p => obtain ⟨x, b⟩ := p; exact ⟨_, _, _, h, .inl ⟨rfl, b, rfl, rfl⟩⟩
theorem yCv.out {a : Nat} {o : Option (BA × Nat)} {v : Value} (h : yCv a o v) : ∃ (n : BA) (b e : Int), v = .tuple #[.string n, .int .i64 b, .int .i64 e] ∧ ((e = 0 ∧ ∃ m : Nat, b = ((a + m : Nat) : Int) ∧ o = some (n, m)) ∨ (e ≠ 0 ∧ o = none ∧ n = ⟨#[]⟩ ∧ b = 0)) := by
 cases o with
 | none => obtain ⟨e, he, rfl⟩ := h; exact ⟨_, _, _, rfl, .inr ⟨he, rfl, rfl, rfl⟩⟩
 | some p => obtain ⟨x, b⟩ := p; exact ⟨_, _, _, h, .inl ⟨rfl, b, rfl, rfl⟩⟩
def yfC (s : BA) (x : PMail) : Prop := ybT x = 0 ∧ s.data.toList = ybL x
theorem yfC.num {s : BA} {x : PMail} (h : yfC s x) {k : Nat} {n : Int} (hn : (yaR x)[k]? = some n) : vg 0 (s.data.toList.drop (yiQ x k)) = some (n.toNat, yiQ x (k + 1) - yiQ x k) ∧ yiQ x k ≤ yiQ x (k + 1) ∧ num n = true := by
 obtain ⟨h1, _⟩ := ycI h.1
 obtain ⟨_, h2, _, _⟩ := ycV h1
 have h3 := yC5 h2 hn
 rw [← h.2] at h3
 unfold yfA at h3
 obtain ⟨p, hp, h4⟩ := Option.map_eq_some_iff.1 h3
 simp only [Prod.mk.injEq] at h4
 refine ⟨?_, by omega, yfY h2 hn⟩
 rw [hp]
 congr 1
 exact Prod.ext h4.1 (by omega)
theorem yfC.txt {s : BA} {x : PMail} (h : yfC s x) : ∃ m1 m2, tg 1048576 (s.data.toList.drop (yiQ x 10)) = some (bs (ybK x.calls), m1) ∧ tg 1048576 (s.data.toList.drop (yiQ x 10 + m1)) = some (bs (ydK x.r), m2) := by
 obtain ⟨h1, h2⟩ := yC6 h.1
 rw [← h.2] at h1 h2
 unfold yl9 at h1 h2
 obtain ⟨p, hp, h3⟩ := Option.map_eq_some_iff.1 h1
 obtain ⟨q, hq, h4⟩ := Option.map_eq_some_iff.1 h2
 simp only [Prod.mk.injEq] at h3 h4
 refine ⟨p.2, q.2, ?_, ?_⟩
 ·rw [hp]; congr 1; exact Prod.ext h3.1 rfl
 ·rw [h3.2, hq]; congr 1; exact Prod.ext h4.1 rfl
theorem yw8 {s : BA} {x y : PMail} (hx : yfC s x) (hy : yfC s y) : x = y := by
 have hd : ∀ k, k ≤ 10 → yiQ x k = yiQ y k ∧ (yaR x).take k = (yaR y).take k := by
  intro k
  induction k with
  | zero => intro _; exact ⟨rfl, rfl⟩
  | succ k ih =>
   intro hk
   obtain ⟨i1, i2⟩ := ih (by omega)
   obtain ⟨a, ha⟩ : ∃ a, (yaR x)[k]? = some a := ⟨_, List.getElem?_eq_getElem (by simp [yaR]; omega)⟩
   obtain ⟨b, hb⟩ : ∃ b, (yaR y)[k]? = some b := ⟨_, List.getElem?_eq_getElem (by simp [yaR]; omega)⟩
   obtain ⟨h1, h2, h3⟩ := hx.num ha
   obtain ⟨h4, h5, h6⟩ := hy.num hb
   rw [i1, h4] at h1
   simp only [Option.some.injEq, Prod.mk.injEq] at h1
   have h3 := ye8 h3
   have h6 := ye8 h6
   have e : a = b := by omega
   exact ⟨by omega, by rw [List.take_add_one, List.take_add_one, ha, hb, i2, e]⟩
 obtain ⟨h1, h2⟩ := hd 10 (Nat.le_refl _)
 rw [List.take_of_length_le (by simp [yaR]), List.take_of_length_le (by simp [yaR])] at h2
 obtain ⟨m1, m2, h3, h4⟩ := hx.txt
 obtain ⟨n1, n2, h5, h6⟩ := hy.txt
 rw [h1, h5] at h3
 simp only [Option.some.injEq, Prod.mk.injEq] at h3
 rw [h1, ← h3.2, h6] at h4
 simp only [Option.some.injEq, Prod.mk.injEq] at h4
 obtain ⟨_, _, tx, rx⟩ := ycV (ycI hx.1).1
 obtain ⟨_, _, ty, ry⟩ := ycV (ycI hy.1).1
 have e1 : y.calls = x.calls := by
  have p1 := yeK ty
  rw [h3.1, yeK tx] at p1
  exact (Option.some.inj p1).symm
 have e2 := yu9 ry rx (yj1 h4.1)
 obtain ⟨a1, a2, a3, a4, a5, a6, a7, a8, a9, a10, a11, a12⟩ := x
 obtain ⟨b1, b2, b3, b4, b5, b6, b7, b8, b9, b10, b11, b12⟩ := y
 simp [yaR] at h2
 simp only [PMail.mk.injEq]
 refine ⟨?_, ?_, ?_, ?_, ?_, ?_, ?_, ?_, ?_, ?_, e1.symm, e2.symm⟩ <;> omega
set_option maxHeartbeats 8000000 in
theorem yC9 {s : BA} (hs : s.size ≤ 900000) (w : World) :
  Calls pP 42 #[.string s] w fun e w' => ∃ v, e = .returned v ∧ ∃ (m : PMail) (s1 f1 p1 : Sl), v = m.v s1 f1 p1 ∧ MailOwn w' w.heap.size m s1 f1 p1 ∧ m.calls.length ≤ 100000 ∧ (∀ x, yfC s x → m = x) ∧ Mod [] w w' := by
 have hss : s.data.toList.length = s.size := by simp
 refine yGe ?_
 intro b1 f1 b2 f2 w3 A3 h3
 have l1 := A3.lt b1 (by simp)
 have l2 := A3.lt b2 (by simp)
 have nd : b1 ≠ b2 := by have := A3.nd; simp at this; exact fun h => this h.symm
 have s3 := A3.mod.size
 refine (yqD b2 w3).mono ?_
 rintro _ w4 ⟨rfl, M4⟩
 have s4 := M4.size
 have h4 := M4.keep0 h3
 refine ⟨_, _, _, _, _, _, _, _, _, _, rfl, yaE.of0 M4, _, _, _, _, _, _, _, _, _, _, _, _, _, _, _, _, _, _, _, _, _, _, _, h4, ?_⟩
 have N4 : Mod [] w w4 := A3.mod.go0 M4 (by simp)
 have z0 : ∀ {w' : World}, Mod [] w w' → (∀ x, ¬ yfC s x) → ∃ (m : PMail) (s1 f1 p1 : Sl), Value.agg #[.int .i64 0, .int .i64 0, .int .i64 0, .int .i64 0, .int .i64 0, .int .i64 0, .int .i64 0, .int .i64 0, .int .i64 0, .int .i64 0, .slice none 0 0, .int .i64 0, .int .i64 0, .int .i64 0, .int .i64 0, .slice none 0 0, .slice none 0 0] = m.v s1 f1 p1 ∧ MailOwn w' w.heap.size m s1 f1 p1 ∧ m.calls.length ≤ 100000 ∧ (∀ x, yfC s x → m = x) ∧ Mod [] w w' := fun {w'} N hn =>
  ⟨ynN, ybY, ybY, ybY, rfl, ⟨⟨[], Row.nil .., by simp, rfl⟩, ⟨Row.nil .., Row.nil .., by simp [ynN, ye1], by simp [ynN, ye1]⟩⟩, by simp [ynN], fun x hx => absurd hx (hn x), N⟩
 refine yw7 (fun mm x4 x16 k0 k1 k2 k3 k4 k5 k6 k7 k8 k9 sa sn sc r0 r1 r2 r3 fa fn fc pa pn pc w' => ∃ a k : Nat, x4 = a ∧ x16 = k ∧ k ≤ 10 ∧ a ≤ s.size ∧ sa = none ∧ sn = 0 ∧ sc = 0 ∧ r0 = 0 ∧ r1 = 0 ∧ r2 = 0 ∧ r3 = 0 ∧ fa = none ∧ fn = 0 ∧ fc = 0 ∧ pa = none ∧ pn = 0 ∧ pc = 0 ∧ Mod [b2] w4 w' ∧ (∀ x, yfC s x → a = yiQ x k ∧ ([k0, k1, k2, k3, k4, k5, k6, k7, k8, k9] : List Int).take k = (yaR x).take k) ∧ mm = 10 - k) 10
  ⟨0, 0, rfl, rfl, by omega, by omega, rfl, rfl, rfl, rfl, rfl, rfl, rfl, rfl, rfl, rfl, rfl, rfl, rfl, (Mod.refl _).less (by simp), fun x _ => ⟨by simp [yiQ], rfl⟩, rfl⟩ ?_
 rintro mm x4 x16 k0 k1 k2 k3 k4 k5 k6 k7 k8 k9 sa sn sc r0 r1 r2 r3 fa fn fc pa pn pc w5 ⟨a, k, rfl, rfl, hk, ha, rfl, rfl, rfl, rfl, rfl, rfl, rfl, rfl, rfl, rfl, rfl, rfl, rfl, M5, hsp, rfl⟩ h5
 have s5 := M5.size
 have N5 : Mod [] w w5 := N4.go0 M5 (by simpa using f2)
 refine yaC (fun hlt => ?_) fun hge => ?_
 ·have hk' : k < 10 := by omega
  refine ⟨_, yFr b2 hk', ?_⟩
  refine (ygH s a (by omega) ha w5).mono ?_
  rintro _ w6 ⟨v, rfl, hv, rfl⟩
  obtain ⟨n, b, e, rfl, hg⟩ := hv.out
  refine ⟨_, _, _, rfl, yaE.of0 (Mod.refl _), _, _, _, _, _, _, _, _, _, _, _, _, _, _, _, _, _, _, _, _, _, _, _, h5, ?_⟩
  have hnum : ∀ x, yfC s x → ∃ y : Int, (yaR x)[k]? = some y ∧ n = y.toNat ∧ e = 0 ∧ b = ((yiQ x (k + 1) : Nat) : Int) ∧ num y = true := fun x hx => by
   obtain ⟨h1, h2⟩ := hsp x hx
   obtain ⟨y, hy⟩ : ∃ y, (yaR x)[k]? = some y := ⟨_, List.getElem?_eq_getElem (by simpa [yaR] using hk')⟩
   obtain ⟨h6, h7, h8⟩ := hx.num hy
   rw [← h1] at h6
   rcases hg with ⟨g1, m, g2, g3⟩ | ⟨_, g3⟩
   ·rw [h6] at g3
    simp only [Option.some.injEq, Prod.mk.injEq] at g3
    exact ⟨y, hy, g3.1.symm, g1, by omega, h8⟩
   ·rw [h6] at g3; cases g3
  refine yaB (fun g => fun w7 A7 _ => z0 (N5.go0 A7.mod (by simpa using f1)) fun x hx => ?_) fun g => ?_
  ·obtain ⟨y, _, _, he, _⟩ := hnum x hx
   simp [he] at g
  have g : e = 0 := by simpa using g
  refine yaC (fun gb => fun w7 A7 _ => z0 (N5.go0 A7.mod (by simpa using f1)) fun x hx => ?_) fun gb => ?_
  ·obtain ⟨y, _, h6, _, _, h7⟩ := hnum x hx
   have := ye8 h7
   omega
  rcases hg with ⟨_, m, hb, hvg⟩ | ⟨g3, _⟩
  rotate_left
  ·exact absurd g g3
  have hml := yp0 _ hvg
  rw [List.length_drop, hss] at hml
  obtain ⟨v, hv⟩ : ∃ v, v = iw .i64 (n : Int) := ⟨_, rfl⟩
  have hvn : v = n := by rw [hv, yaH (by omega) (by omega)]
  rw [← hv]
  refine yi2 (ydR h5 rfl (by simp; omega) fun w7 h7 M7 => ?_)
  have h7' : w7.heap[b2]? = some (.cells #[.int .i64 (if k = 0 then v else k0), .int .i64 (if k = 1 then v else k1), .int .i64 (if k = 2 then v else k2), .int .i64 (if k = 3 then v else k3), .int .i64 (if k = 4 then v else k4), .int .i64 (if k = 5 then v else k5), .int .i64 (if k = 6 then v else k6), .int .i64 (if k = 7 then v else k7), .int .i64 (if k = 8 then v else k8), .int .i64 (if k = 9 then v else k9), .slice none 0 0, .int .i64 0, .int .i64 0, .int .i64 0, .int .i64 0, .slice none 0 0, .slice none 0 0] 29) := by
   rw [h7]
   rcases (by omega : k = 0 ∨ k = 1 ∨ k = 2 ∨ k = 3 ∨ k = 4 ∨ k = 5 ∨ k = 6 ∨ k = 7 ∨ k = 8 ∨ k = 9) with rfl | rfl | rfl | rfl | rfl | rfl | rfl | rfl | rfl | rfl <;> rfl
  refine ⟨yaE.ofE M7 fun k hk hl he => by simp at hk he ⊢; omega, _, _, _, _, _, _, _, _, _, _, _, _, _, _, _, _, _, _, _, _, _, _, _, h7', ?_⟩
  rw [hb]
  refine yw6 (10 - (k + 1)) (by omega) ⟨a + m, k + 1, rfl, by rw [yaH (by omega) (by omega)]; omega, by omega, by omega, rfl, rfl, rfl, rfl, rfl, rfl, rfl, rfl, rfl, rfl, rfl, rfl, rfl, M5.via M7 (by simp), fun x hx => ?_, rfl⟩
  obtain ⟨y, hy, h6, _, h8, h9⟩ := hnum x hx
  have := ye8 h9
  refine ⟨by omega, ?_⟩
  rw [List.take_add_one (l := yaR x), hy, ← (hsp x hx).2, show y = v by omega]
  rcases (by omega : k = 0 ∨ k = 1 ∨ k = 2 ∨ k = 3 ∨ k = 4 ∨ k = 5 ∨ k = 6 ∨ k = 7 ∨ k = 8 ∨ k = 9) with rfl | rfl | rfl | rfl | rfl | rfl | rfl | rfl | rfl | rfl <;> rfl
 ·have hk' : k = 10 := by omega
  subst hk'
  refine (ydN s a 1048576 (by omega) ha (by omega) w5).mono ?_
  rintro _ w6 ⟨v, rfl, hv, rfl⟩
  obtain ⟨t, b, e, rfl, hg⟩ := hv.out
  refine ⟨_, _, _, rfl, yaE.of0 (Mod.refl _), _, _, _, _, _, _, _, _, _, _, _, _, _, _, _, _, _, _, _, _, _, _, _, h5, ?_⟩
  have ht1 : ∀ x, yfC s x → e = 0 ∧ t = bs (ybK x.calls) ∧ ∃ m2, tg 1048576 (s.data.toList.drop b.toNat) = some (bs (ydK x.r), m2) := fun x hx => by
   obtain ⟨m1, m2, h1, h2⟩ := hx.txt
   rw [← (hsp x hx).1] at h1 h2
   rcases hg with ⟨g1, m, g2, g3⟩ | ⟨_, g3, _⟩
   ·rw [h1] at g3
    simp only [Option.some.injEq, Prod.mk.injEq] at g3
    refine ⟨g1, g3.1.symm, m2, ?_⟩
    rw [g2, ← g3.2, Int.toNat_natCast]; exact h2
   ·rw [h1] at g3; cases g3
  refine yaB (fun g => fun w7 A7 _ => z0 (N5.go0 A7.mod (by simpa using f1)) fun x hx => by simp [(ht1 x hx).1] at g) fun g => ?_
  have g : e = 0 := by simpa using g
  rcases hg with ⟨_, m, hb, htg⟩ | ⟨g3, _⟩
  rotate_left
  ·exact absurd g g3
  have hml := ylL htg
  rw [List.length_drop, hss] at hml
  subst hb
  refine (ydN s (a + m) 1048576 (by omega) (by omega) (by omega) w6).mono ?_
  rintro _ w7 ⟨v, rfl, hv, rfl⟩
  obtain ⟨t2, b', e2, rfl, hg2⟩ := hv.out
  refine ⟨_, _, _, rfl, yaE.of0 (Mod.refl _), _, _, _, _, _, _, _, _, _, _, _, _, _, _, _, _, _, _, _, _, _, _, _, h5, ?_⟩
  have ht2 : ∀ x, yfC s x → e2 = 0 ∧ t2 = bs (ydK x.r) := fun x hx => by
   obtain ⟨_, _, m2, h2⟩ := ht1 x hx
   rw [Int.toNat_natCast] at h2
   rcases hg2 with ⟨g1, m', g2, g3⟩ | ⟨_, g3, _⟩
   ·rw [h2] at g3
    simp only [Option.some.injEq, Prod.mk.injEq] at g3
    exact ⟨g1, g3.1.symm⟩
   ·rw [h2] at g3; cases g3
  refine yaB (fun g => fun w8 A8 _ => z0 (N5.go0 A8.mod (by simpa using f1)) fun x hx => by simp [(ht2 x hx).1] at g) fun g2 => ?_
  have g2 : e2 = 0 := by simpa using g2
  rcases hg2 with ⟨_, m', _, htg2⟩ | ⟨g3, _⟩
  rotate_left
  ·exact absurd g2 g3
  have hml2 := ylL htg2
  rw [List.length_drop, hss] at hml2
  refine (yAW (s := t) (by omega) w7).mono ?_
  rintro _ w8 ⟨v, rfl, hv, M8⟩
  have s8 := M8.size
  have hpc : ∃ (xs : List PCall) (sl : Sl) (e8 : Int), v = .tuple #[.slice sl.a sl.n sl.c, .int .i64 e8] ∧ ybI w8 w7.heap.size sl xs ∧ xs.length ≤ 100000 ∧ ∀ x, yfC s x → xs = x.calls := by
   cases hp : yd6 t with
   | none =>
    rw [hp] at hv
    refine ⟨[], ybY, 162, hv, ⟨[], Row.nil .., by simp, rfl⟩, by simp, fun x hx => ?_⟩
    obtain ⟨h1, _⟩ := ycI hx.1
    obtain ⟨_, _, h2, _⟩ := ycV h1
    rw [(ht1 x hx).2.1, yeK h2] at hp; cases hp
   | some xs =>
    rw [hp] at hv
    obtain ⟨sl, rfl, hc⟩ := hv
    have h6 := (yv9.1 hp).1
    refine ⟨xs, sl, 0, rfl, hc, by have := (ykG h6).1; omega, fun x hx => ?_⟩
    obtain ⟨h1, _⟩ := ycI hx.1
    obtain ⟨_, _, h2, _⟩ := ycV h1
    rw [(ht1 x hx).2.1, yeK h2] at hp
    exact (Option.some.inj hp).symm
  obtain ⟨xs, sl, e8, rfl, hC, hxl, hxs⟩ := hpc
  have h8 := M8.keep0 h5
  refine ⟨_, _, _, _, rfl, yaE.of0 M8, _, _, _, _, _, _, _, _, _, _, _, _, _, _, _, _, _, _, _, _, _, _, _, h8, ?_⟩
  intro w9 A9 h9
  have s9 := A9.mod.size
  refine (ysX (s := t2) (by omega) w9).mono ?_
  rintro _ w10 ⟨v, rfl, hv, M10⟩
  have s10 := M10.size
  have hpr : ∃ (r : PRep) (fl pl : Sl) (e10 : Int), v = .tuple #[r.v fl pl, .int .i64 e10] ∧ RepOwn w10 w9.heap.size r fl pl ∧ ∀ x, yfC s x → r = x.r := by
   rcases hv with ⟨r, fl, pl, h1, rfl, h2⟩ | ⟨h1, rfl⟩
   ·refine ⟨r, fl, pl, 0, rfl, h2, fun x hx => ?_⟩
    obtain ⟨h3, _⟩ := ycI hx.1
    obtain ⟨_, _, _, h4⟩ := ycV h3
    have h5 := h1.eq
    rw [(ht2 x hx).2] at h5
    exact (yu9 h4 h1.1 (yj1 h5)).symm
   ·refine ⟨ye1, ybY, ybY, 40, rfl, ⟨Row.nil .., Row.nil .., by simp [ye1], by simp [ye1]⟩, fun x hx => ?_⟩
    obtain ⟨h3, _⟩ := ycI hx.1
    obtain ⟨_, _, _, h4⟩ := ycV h3
    exact absurd (yfZ.of h4 (ht2 x hx).2) (h1 _)
  obtain ⟨r, fl, pl, e10, rfl, hR, hrx⟩ := hpr
  have h10 := M10.keep0 h9
  refine ⟨_, _, _, _, _, _, _, _, _, _, _, rfl, yaE.of0 M10, _, _, _, _, _, _, _, _, _, _, _, _, _, _, _, _, _, _, _, _, _, _, _, h10, ?_⟩
  intro w11 A11 h11
  have lb : b1 < w7.heap.size ∧ b2 < w7.heap.size := by omega
  refine ⟨⟨k0, k1, k2, k3, k4, k5, k6, k7, k8, k9, xs, r⟩, sl, fl, pl, rfl, ⟨?_, ?_⟩, hxl, fun x hx => ?_, ?_⟩
  ·exact (((hC.keepB A9.mod (by simp; omega)).keep0 M10).keepB A11.mod (by simp; omega)).rebase (by omega)
  ·exact (hR.keepB A11.mod (by simp; omega)).rebase (by omega)
  ·have h6 := (hsp x hx).2
   have h7 := hxs x hx
   have h8 := hrx x hx
   obtain ⟨x1, x2, x3, x4, x5, x6, x7, x8, x9, x10, xc, xr⟩ := x
   simp [yaR] at h6
   simp only [PMail.mk.injEq]
   refine ⟨?_, ?_, ?_, ?_, ?_, ?_, ?_, ?_, ?_, ?_, h7, h8⟩ <;> omega
  ·exact (((N5.go0 M8 (by simp)).go0 A9.mod (by simpa using f2)).go0 M10 (by simp)).go0 A11.mod (by simp; omega)
def yJK (w0 w : World) (base : Nat) (s : BA) (v : Value) : Prop :=
 (∃ (m : PMail) (s1 f1 p1 : Sl), ybT m = 0 ∧ s = yeL m ∧ v = .tuple #[m.v s1 f1 p1, .int .i64 0] ∧ MailOwn w base m s1 f1 p1 ∧ m.calls.length ≤ 100000) ∨ ((∀ m, ybT m = 0 → s ≠ yeL m) ∧ v = .tuple #[ynN.v ybY ybY ybY, .int .i64 180])
theorem yBQ {s : BA} (hs : s.size ≤ 900000) (w : World) :
  Calls pP 17 #[.string s] w fun e w' => ∃ v, e = .returned v ∧ yJK w w' w.heap.size s v ∧ Mod [] w w' := by
 have hss : s.data.toList.length = s.size := by simp
 refine yGf ?_
 intro b1 f1 w2 A2
 have s2 := A2.mod.size
 refine (yp2 s 0 1048576 (by omega) (by omega) (by omega) w2).mono ?_
 rintro _ w3 ⟨v, rfl, hv, M3⟩
 have s3 := M3.size
 rw [List.drop_zero] at hv
 obtain ⟨t, b, e, rfl, hg⟩ := hv.out
 refine ⟨_, _, _, rfl, yaE.of0 M3, ?_⟩
 have htl : t.size ≤ 900000 := by
  rcases hg with ⟨_, m, _, g3⟩ | ⟨_, _, g4, _⟩
  ·have := yDJ g3; omega
  ·rw [g4]; show 0 ≤ _; omega
 have hx : ∀ x, ybT x = 0 → s = yeL x → e = 0 ∧ yfC t x := fun x h1 h2 => by
  have h3 := yGc h1
  rw [← h2] at h3
  rcases hg with ⟨g1, m, _, g3⟩ | ⟨_, g3, _⟩
  ·rw [h3] at g3
   simp only [Option.some.injEq, Prod.mk.injEq] at g3
   exact ⟨g1, h1, by rw [← g3.1, yd9]⟩
  ·rw [h3] at g3; cases g3
 refine (yC9 htl w3).mono ?_
 rintro _ w4 ⟨_, rfl, m, s1, f1', p1, rfl, hO, hlc, hm, M4⟩
 have s4 := M4.size
 refine ⟨_, _, _, _, _, _, _, _, _, _, _, _, _, _, _, _, _, _, _, _, _, _, _, rfl, yaE.of0 M4, ?_⟩
 intro b5 f5 w6 A6
 have s6 := A6.mod.size
 refine (yo6 ((hO.keep0 A6.mod).at) hlc).mono ?_
 rintro _ w7 ⟨rfl, M7⟩
 have s7 := M7.size
 refine ⟨_, _, rfl, yaE.of0 M7, ?_⟩
 have N7 : Mod [] w w7 := (((A2.mod.go0 M3 (by simp)).go0 M4 (by simp)).go0 A6.mod (by simp)).go0 M7 (by simp)
 have no : ∀ {w'}, Adv [b1] [] w7 w' → (∀ x, ybT x = 0 → s ≠ yeL x) → yJK w w' w.heap.size s (.tuple #[ynN.v ybY ybY ybY, .int .i64 180]) ∧ Mod [] w w' := fun {w'} A h => ⟨.inr ⟨h, rfl⟩, N7.go0 A.mod (by simpa using f1)⟩
 refine yaB (fun g => fun w8 A8 => no A8 fun x h1 h2 => ?_) fun g => ?_
 ·have := (hx x h1 h2).1; simp [this] at g
 refine yaB (fun g2 => fun w8 A8 => no A8 fun x h1 h2 => ?_) fun g2 => ?_
 ·have := hm x (hx x h1 h2).2; subst this; simp [h1] at g2
 have g2 : ybT m = 0 := by simpa using g2
 rw [if_pos g2, yf2]
 refine yaB (fun g3 => fun w8 A8 => no A8 fun x h1 h2 => ?_) fun g3 => fun w8 A8 => ?_
 ·have := hm x (hx x h1 h2).2; subst this; simp [h2] at g3
 ·have g3 : yeL m = s := by simpa using g3
  have l1 : b1 < w2.heap.size := A2.lt b1 (by simp)
  exact ⟨.inl ⟨m, s1, f1', p1, g2, g3.symm, rfl, ((((hO.keep0 A6.mod).keep0 M7).keepB A8.mod (by simp; omega)).rebase (by omega)), hlc⟩, N7.go0 A8.mod (by simpa using f1)⟩
section
variable {R : VWP} {w w0 : World} {m : Nat} {i0 i1 i2 i3 i4 i5 i6 i7 i8 i9 j0 j1 j2 j3 j4 j5 j6 j7 j8 j9 k0 k1 k2 k3 k4 k5 k6 k7 k8 k9 l0 l1 l2 l3 l4 l5 l6 l7 l8 l9 : Int} {s0 s1 s2 s3 s4 s5 s6 s7 s8 s9 t0 t1 t2 t3 t4 t5 t6 t7 t8 t9 : BA} {n0 n1 n2 n3 n4 n5 n6 n7 n8 n9 o0 o1 o2 o3 o4 o5 o6 o7 o8 o9 p0 p1 p2 p3 p4 p5 p6 p7 p8 p9 : Nat} {q0 q1 q2 q3 q4 q5 q6 q7 q8 q9 r0 r1 r2 r3 r4 r5 r6 r7 r8 r9 : OA} {B0 B1 B2 B3 B4 B5 B6 B7 B8 B9 : Bool} {M0 M1 M2 M3 : Option Nat} {V0 V1 V2 V3 V4 V5 : Value} {A0 A1 A2 : Addr}
def yo7 : LA := ⟨[0, 0, 1, 0, 1, 1, 1, 1], [1, 2, 3, 4], [(1, 0, 0), (2, 1, 0), (3, 2, 0)], 3, []⟩
def yi6 : LA := ⟨[0, 0, 1, 0, 1, 1, 1, 1, 1], [1, 2, 3, 6], [(1, 0, 0), (2, 1, 0), (3, 2, 0)], 3, []⟩
def yo8 : List LA := [yo7, yi6]
abbrev yqQ := dnF pP yo8 (code Tryz.f21)
abbrev yKU := yaO pP yo8 (code Tryz.f21)
abbrev yqR (p : List Nat) (K : List Kh) (R : VWP) := yaO pP yo8 (code Tryz.f21) p K (ya4 pP Tryz.f21 [] R)
def yiB (bm0 : Nat) (a9 b0 b1 b2 : Int) (a0 : OA) (a6 a3 : Nat) (a1 : OA) (a7 a4 bm1 bm2 : Nat) (b3 b4 b5 b6 : Int) : Int × (OA) × Nat × Nat → List Value × List TB := fun (b7, a2, a8, a5) => ([(.pointer (some ⟨bm0, 0, none⟩)), (.pointer (some ⟨bm1, 0, none⟩)), (.pointer (some ⟨bm2, 0, none⟩)), .int .i64 b7], [⟨bm0, 27, [.int .i64 a9, .int .i64 b0, .int .i64 b1, .int .i64 b2, .slice a0 a6 a3, .slice a1 a7 a4], false⟩, ⟨bm1, 27, [.int .i64 0, .int .i64 0, .int .i64 0, .int .i64 0, .slice none 0 0, .slice none 0 0], false⟩, ⟨bm2, 27, [.int .i64 b3, .int .i64 b4, .int .i64 b5, .int .i64 b6, .slice a2 a8 a5, .slice none 0 0], false⟩])
def ygN (bm0 : Nat) (b2 b3 b4 b5 : Int) (a0 : OA) (a8 a4 : Nat) (a1 : OA) (a9 a5 bm1 bm2 : Nat) (b6 b7 b8 b9 : Int) (a2 : OA) (b0 a6 : Nat) : Int × (OA) × Nat × Nat → List Value × List TB := fun (c0, a3, b1, a7) => ([(.pointer (some ⟨bm0, 0, none⟩)), (.pointer (some ⟨bm1, 0, none⟩)), (.pointer (some ⟨bm2, 0, none⟩)), .int .i64 c0], [⟨bm0, 27, [.int .i64 b2, .int .i64 b3, .int .i64 b4, .int .i64 b5, .slice a0 a8 a4, .slice a1 a9 a5], false⟩, ⟨bm1, 27, [.int .i64 0, .int .i64 0, .int .i64 0, .int .i64 0, .slice none 0 0, .slice none 0 0], false⟩, ⟨bm2, 27, [.int .i64 b6, .int .i64 b7, .int .i64 b8, .int .i64 b9, .slice a2 b0 a6, .slice a3 b1 a7], false⟩])
abbrev yBR (bm0 : Nat) (a6 a7 a8 a9 : Int) (a0 : OA) (a4 a2 : Nat) (a1 : OA) (a5 a3 bm1 bm2 : Nat) (b0 b1 b2 b3 : Int) (I : Nat → Int → OA → Nat → Nat → World → Prop) (m : Nat) : Kh := KG (yiB bm0 a6 a7 a8 a9 a0 a4 a2 a1 a5 a3 bm1 bm2 b0 b1 b2 b3) (U4 I) m
theorem yw9 {I : Nat → Int → OA → Nat → Nat → World → Prop} (m' : Nat) (h1 : m' < m) (h2 : I m' i8 q2 n7 n8 w) : KS (yBR n0 i0 i1 i2 i3 q0 n1 n2 q1 n3 n4 n5 n6 i4 i5 i6 i7 I m) (yiB n0 i0 i1 i2 i3 q0 n1 n2 q1 n3 n4 n5 n6 i4 i5 i6 i7 (i8, q2, n7, n8)) w := ⟨m', h1, _, rfl, rfl, h2⟩
theorem yxA {a1 : OA} {a2 : OA} {b8 : OA} (I : Nat → Int → OA → Nat → Nat → World → Prop) (m0 : Nat) (h0 : I m0 i8 b8 n7 n8 w0)
 (hr : ∀ m b7 a3 a8 a6 w, I m b7 a3 a8 a6 w →
 brB (decide (b7 < (n1 : Int))) (
 brB (decide (b7 < 70)) (
 ixA a1 n1 b7 5 fun q4 =>
 yaI .i64 w q4 fun x5 => yaT w (Addr.add q4 1) fun t6 => yaQ w (Addr.add q4 2) fun s7 => yaT w (Addr.add q4 3) fun t8 => yaQ w (Addr.add q4 4) fun s9 =>
 ∀ c1, w.heap.size ≤ c1 →
 slS s7 0 (if 80 < (s7.size : Int) then 80 else (s7.size : Int)) fun d1 =>
 slS s9 0 (if 600 < (s9.size : Int) then 600 else (s9.size : Int)) fun d2 =>
 ∀ c3, Adv [] [c1] w c3 →
 al c3 (.cells (Z6 x5 t6 d1 t8 d2) 55) fun c8 c4 =>
 yc6 pP (Builtin.append_ #[24, 24] 24 #[.slice a3 a8 a6, (.slice (some ⟨c8, 0, none⟩) 1 1)]) c4 fun c7 d0 c9 c5 => yaE [n0, n5, n6, c1] c4 c5 ∧
 ∀ c6, Adv [n6] [] c5 c6 →
 KS (yBR n0 i0 i1 i2 i3 a1 n1 n2 a2 n3 n4 n5 n6 i4 i5 i6 i7 I m) (yiB n0 i0 i1 i2 i3 a1 n1 n2 a2 n3 n4 n5 n6 i4 i5 i6 i7 ((iw .i64 (b7 + 1)), c7, d0, c9)) c6)
 (
 yaK yi6 (yqQ 393 [0, 0, 1, 0, 1, 1, 1, 1, 1]) (yqR [1, 1, 1, 1, 1, 0, 1, 0] [] R) (ygN n0 i0 i1 i2 i3 a1 n1 n2 a2 n3 n4 n5 n6 i4 i5 i6 i7 a3 a8 a6 (0, none, 0, 0)) w))
 (
 yaK yi6 (yqQ 393 [0, 0, 1, 0, 1, 1, 1, 1, 1]) (yqR [1, 1, 1, 1, 1, 0, 1, 0] [] R) (ygN n0 i0 i1 i2 i3 a1 n1 n2 a2 n3 n4 n5 n6 i4 i5 i6 i7 a3 a8 a6 (0, none, 0, 0)) w)) :
 yaK yo7 (yqQ 394 [0, 0, 1, 0, 1, 1, 1, 1]) (yqR [1, 1, 1, 1, 0, 1, 0] [] R) (yiB n0 i0 i1 i2 i3 a1 n1 n2 a2 n3 n4 n5 n6 i4 i5 i6 i7 (i8, b8, n7, n8)) w0 :=
 lrule (yiB n0 i0 i1 i2 i3 a1 n1 n2 a2 n3 n4 n5 n6 i4 i5 i6 i7) (U4 I) h0 (by rintro m ⟨b7, a3, a8, a6⟩ w h; exact ⟨by kernel_rfl, by kernel_rfl, fun js => Eq.mpr (by kernel_rfl) (hr m b7 a3 a8 a6 w h)⟩)
abbrev yBS (bm0 : Nat) (a9 b0 b1 b2 : Int) (a0 : OA) (a6 a3 : Nat) (a1 : OA) (a7 a4 bm1 bm2 : Nat) (b3 b4 b5 b6 : Int) (a2 : OA) (a8 a5 : Nat) (I : Nat → Int → OA → Nat → Nat → World → Prop) (m : Nat) : Kh := KG (ygN bm0 a9 b0 b1 b2 a0 a6 a3 a1 a7 a4 bm1 bm2 b3 b4 b5 b6 a2 a8 a5) (U4 I) m
theorem ymR {I : Nat → Int → OA → Nat → Nat → World → Prop} (m' : Nat) (h1 : m' < m) (h2 : I m' i8 q3 n9 o0 w) : KS (yBS n0 i0 i1 i2 i3 q0 n1 n2 q1 n3 n4 n5 n6 i4 i5 i6 i7 q2 n7 n8 I m) (ygN n0 i0 i1 i2 i3 q0 n1 n2 q1 n3 n4 n5 n6 i4 i5 i6 i7 q2 n7 n8 (i8, q3, n9, o0)) w := ⟨m', h1, _, rfl, rfl, h2⟩
theorem ymS (I : Nat → Int → OA → Nat → Nat → World → Prop) (m0 : Nat) (h0 : I m0 i8 q3 n9 o0 w0)
 (hr : ∀ m c0 a1 a6 a3 w, I m c0 a1 a6 a3 w →
 brB (decide (c0 < (n3 : Int))) (
 brB (decide (c0 < 70)) (
 ixA q1 n3 c0 2 fun c7 =>
 yaQ w c7 fun c5 => yaI .i64 w (Addr.add c7 1) fun d9 =>
 ∀ c4, w.heap.size ≤ c4 →
 slS c5 0 (if 40 < (c5.size : Int) then 40 else (c5.size : Int)) fun d8 =>
 ∀ c8, Adv [] [c4] w c8 →
 al c8 (.cells #[.string d8, .int .i64 d9] 43) fun d5 c9 =>
 yc6 pP (Builtin.append_ #[25, 25] 25 #[.slice a1 a6 a3, (.slice (some ⟨d5, 0, none⟩) 1 1)]) c9 fun d4 d7 d6 d0 => yaE [n0, n5, n6, c4] c9 d0 ∧
 ∀ d1, Adv [n6] [] d0 d1 →
 KS (yBS n0 i0 i1 i2 i3 q0 n1 n2 q1 n3 n4 n5 n6 i4 i5 i6 i7 q2 n7 n8 I m) (ygN n0 i0 i1 i2 i3 q0 n1 n2 q1 n3 n4 n5 n6 i4 i5 i6 i7 q2 n7 n8 ((iw .i64 (c0 + 1)), d4, d7, d6)) d1)
 (
 ∀ d2, Adv [n5] [] w d2 →
 R (.agg (Z3 i4 i5 i6 i7 q2 n7 n8 a1 a6 a3)) d2))
 (
 ∀ d3, Adv [n5] [] w d3 →
 R (.agg (Z3 i4 i5 i6 i7 q2 n7 n8 a1 a6 a3)) d3)) :
 yaK yi6 (yqQ 393 [0, 0, 1, 0, 1, 1, 1, 1, 1]) (yqR [1, 1, 1, 1, 1, 0, 1, 0] [] R) (ygN n0 i0 i1 i2 i3 q0 n1 n2 q1 n3 n4 n5 n6 i4 i5 i6 i7 q2 n7 n8 (i8, q3, n9, o0)) w0 :=
 lrule (ygN n0 i0 i1 i2 i3 q0 n1 n2 q1 n3 n4 n5 n6 i4 i5 i6 i7 q2 n7 n8) (U4 I) h0 (by rintro m ⟨c0, a1, a6, a3⟩ w h; exact ⟨by kernel_rfl, by kernel_rfl, fun js => Eq.mpr (by kernel_rfl) (hr m c0 a1 a6 a3 w h)⟩)
theorem yGj (h :
 ∀ b1, w.heap.size ≤ b1 →
 ∀ b2, w.heap.size ≤ b2 →
 ∀ b3, w.heap.size ≤ b3 →
 ∀ b0, Adv [] [b3, b2, b1] w b0 →
 yaK yo7 (yqQ 394 [0, 0, 1, 0, 1, 1, 1, 1]) (yqR [1, 1, 1, 1, 0, 1, 0] [] R) (yiB b1 i0 i1 i2 i3 q0 n0 n1 q1 n2 n3 b2 b3 i0 i1 i2 i3 (0, none, 0, 0)) b0) :
 CR pP 21 #[(.agg (Z3 i0 i1 i2 i3 q0 n0 n1 q1 n2 n3))] w R :=
 yaA Tryz.wide_mixed (an := yo8) Tryz.func21 rfl rfl (by kernel_rfl) rfl (Eq.mpr (by kernel_rfl) h)
end
def yi7 (n : Nat) (s : BA) : BA := s.extract 0 (min s.size n)
theorem yqS (n : Nat) (s : BA) : (yi7 n s).size = min s.size n := by unfold yi7; rw [ByteArray.size_extract]; omega
theorem yGk {n : Nat} {s : BA} (h : s.size ≤ n) : yi7 n s = s := by
 unfold yi7; rw [Nat.min_eq_left h]; exact ByteArray.extract_zero_size
theorem yhA (n : Nat) (s : BA) : yi7 n (yi7 n s) = yi7 n s := yGk (by rw [yqS]; omega)
theorem yeB {s : BA} {m : Int} {n : Nat} {F : BA → Prop} (hm : m = (n : Nat)) (hF : F (yi7 n s)) : slS s 0 (if m < (s.size : Int) then m else (s.size : Int)) F := by
 subst hm
 refine ⟨by omega, by split <;> omega, by split <;> omega, ?_⟩
 have e : (if (n : Int) < (s.size : Int) then (n : Int) else (s.size : Int)).toNat = min s.size n := by split <;> omega
 rw [e]; exact hF
theorem yeP {α β : Type} {f : α → β} {l : List α} {k : Nat} {x : α} (hx : l[k]? = some x) : (l.take (k + 1)).map f = (l.take k).map f ++ [f x] := by
 rw [List.take_add_one, hx]; simp
theorem ydY {α : Type} {l : List α} {k : Nat} (n : Nat) (hk : k ≤ n) (h : ¬ (k < l.length ∧ k < n)) (hk2 : k ≤ l.length) : l.take k = l.take n := by
 by_cases h1 : k = n
 ·rw [h1]
 ·rw [List.take_of_length_le (by omega), List.take_of_length_le (by omega)]
def yB1 (r : PRec) : PRec := ⟨r.hk, yi7 80 r.key, r.tomb, yi7 600 r.val⟩
def yqZ (b : PBatch) : PBatch := ⟨b.prod, b.epoch, b.seq, (b.recs.take 20).map yB1⟩
def yxB (o : POp) : POp := ⟨o.kind, ⟨yi7 40 o.part.t, o.part.n⟩, o.n, o.off, yqZ o.b, yi7 40 o.g, yi7 40 o.m, o.gen, o.robin, (o.topics.take 12).map (yi7 40)⟩
def yEG (c : PCall) : PCall := ⟨c.c, c.n, yxB c.op⟩
def yo9 (xs : List PCall) : List PCall := (xs.take 12).map yEG
def yDa (x : PFound) : PFound := ⟨x.off, ⟨x.r.hk, yi7 80 x.r.key, x.r.tomb, yi7 600 x.r.val⟩⟩
def yxL (x : PPart) : PPart := ⟨yi7 40 x.t, x.n⟩
def ycF (r : PRep) : PRep := ⟨r.e, r.off, r.n, r.gen, (r.found.take 70).map yDa, (r.parts.take 70).map yxL⟩
theorem yc9 {α : Type} {f : α → α} {n : Nat} (hf : ∀ x, f (f x) = f x) (l : List α) : ((((l.take n).map f).take n).map f) = (l.take n).map f := by
 rw [← List.map_take, List.take_take, Nat.min_self, List.map_map]
 congr 1
 funext x; exact hf x
theorem yDb (r : PRec) : yB1 (yB1 r) = yB1 r := by simp [yB1, yhA]
theorem yDc (b : PBatch) : yqZ (yqZ b) = yqZ b := by
 show (⟨b.prod, b.epoch, b.seq, _⟩ : PBatch) = ⟨b.prod, b.epoch, b.seq, _⟩
 rw [show (yqZ b).recs = (b.recs.take 20).map yB1 from rfl, yc9 yDb]
theorem yDd (o : POp) : yxB (yxB o) = yxB o := by
 have h1 := yDc o.b
 have h2 := yc9 (n := 12) (yhA 40) o.topics
 simp only [yxB, yhA, h1, h2]
theorem yDe (c : PCall) : yEG (yEG c) = yEG c := by simp [yEG, yDd]
theorem yBT (xs : List PCall) : yo9 (yo9 xs) = yo9 xs := yc9 yDe xs
theorem yDf (x : PFound) : yDa (yDa x) = yDa x := by simp [yDa, yhA]
theorem yDg (x : PPart) : yxL (yxL x) = yxL x := by simp [yxL, yhA]
theorem yxC (r : PRep) : ycF (ycF r) = ycF r := by
 have h1 := yc9 (n := 70) yDf r.found
 have h2 := yc9 (n := 70) yDg r.parts
 simp only [ycF, h1, h2]
theorem yDh (r : PRec) (w : World) : Calls pP 116 #[r.v] w fun e w' => e = .returned (yB1 r).v ∧ Mod [] w w' := by
 refine yaP (yFZ ?_)
 intro b1 f1 b2 f2
 refine yeB (n := 80) rfl (yeB (n := 600) rfl ?_)
 intro w3 A3
 exact ⟨rfl, A3.mod⟩
theorem yBU {w : World} {b : PBatch} {rs : Sl} (h : yb3 w 4 ye7 rs.a rs.n b.recs) (hw : rs.n ≤ maxLen) :
  Calls pP 86 #[b.v rs] w fun e w' => ∃ v, e = .returned v ∧ ∃ rs' : Sl, v = (yqZ b).v rs' ∧ Row w' w.heap.size 53 4 ye7 rs'.a rs'.n rs'.c (yqZ b).recs ∧ Mod [] w w' := by
 refine yF0 ?_
 intro b1 f1 b2 f2 b3 f3 w1 A1
 have l1 := A1.lt b1 (by simp)
 have l2 := A1.lt b2 (by simp)
 have l3 := A1.lt b3 (by simp)
 have s1 := A1.mod.size
 have hn := h.1
 refine ywL (fun mm x a n c w' => ∃ k : Nat, x = k ∧ k ≤ b.recs.length ∧ k ≤ 20 ∧ Row w' w1.heap.size 53 4 ye7 a n c ((b.recs.take k).map yB1) ∧ Mod [] w w' ∧ w1.heap.size ≤ w'.heap.size ∧ mm = b.recs.length - k) b.recs.length
  ⟨0, rfl, by omega, by omega, Row.nil .., A1.mod, Nat.le_refl _, rfl⟩ ?_
 rintro mm x a n c w2 ⟨k, rfl, hk, hk2, hRow, N2, s2, rfl⟩
 have hlk : ((b.recs.take k).map yB1).length = k := by rw [List.length_map, List.length_take]; omega
 have fin : ∀ {w'}, ¬ (k < b.recs.length ∧ k < 20) → Adv [b2] [] w2 w' → ∃ rs' : Sl, Value.agg #[.int .i64 b.prod, .int .i64 b.epoch, .int .i64 b.seq, .slice a n c] = (yqZ b).v rs' ∧ Row w' w.heap.size 53 4 ye7 rs'.a rs'.n rs'.c (yqZ b).recs ∧ Mod [] w w' := fun {w'} hne A => by
  rw [ydY 20 hk2 hne hk] at hRow
  exact ⟨⟨a, n, c⟩, rfl, (hRow.keep A.mod fun ad ha hk => by have := hRow.base ad ha; simp at hk; omega).rebase s1, N2.go0 A.mod (by simpa using f2)⟩
 refine yaC (fun hlt => ?_) fun hge => fun w3 A3 => fin (by omega) A3
 refine yaC (fun hlt2 => ?_) fun hge => fun w3 A3 => fin (by omega) A3
 obtain ⟨r, hr⟩ : ∃ r, b.recs[k]? = some r := ⟨_, List.getElem?_eq_getElem (by omega)⟩
 refine (h.keep0 N2).ixW hr fun q hq => ?_
 intro w3 A3
 have hq := hq w3 A3.mod
 refine yaN (x := r.hk) (by simpa [add_zero] using hq 0 _ rfl) (yaG (hq 1 _ rfl) (yaN (hq 2 _ rfl) (yaG (hq 3 _ rfl) ?_)))
 refine (yDh r w3).mono ?_
 rintro e w4 ⟨rfl, M4⟩
 refine ⟨_, _, _, _, rfl, yaE.of0 M4, rfl, ?_⟩
 refine ydB fun b5 w5 c5 M5 f5 => ?_
 have K5 : Mod [] w2 w5 := (A3.mod.go0 M4 (by simp)).go0 M5 (by simp)
 have s5 := K5.size
 obtain ⟨i0, hi, hz0, hz1, hz2⟩ := info_parts yFc
 refine yb0 (x := yB1 r) (hRow.keep0 K5) Tryz.underlying44 hi hz0 hz1 hz2 rfl (by decide) c5 rfl (ynH _) (by omega) (by unfold maxLen; omega) (by omega) fun a' c' w6 hR6 hM6 => ?_
 have M6 := hM6 _ (ydC a)
 have hrow := ybM hRow
 refine ⟨yaE.of M6 fun b hb _ hb' => ?_, ?_⟩
 ·have := hrow b hb'; simp at hb; omega
 intro w7 A7
 unfold maxLen at hw
 refine ywK (b.recs.length - (k + 1)) (by omega) ⟨k + 1, by rw [yaH (by omega) (by omega)]; omega, by omega, by omega, Row.keep (by rw [yeP hr]; exact hR6) A7.mod fun ad ha hk => ?_, ?_, by have := M6.size; have := A7.mod.size; omega, rfl⟩
 ·have := hR6.base ad ha; simp at hk; omega
 ·refine ((N2.go0 K5 (by simp)).go0 M6 fun i hi => ?_).go0 A7.mod (by simpa using f3)
  have := hrow i hi; omega
theorem yGl {w : World} {o : POp} {rs ts : Sl} (h : OpRd w o rs ts) :
  Calls pP 52 #[o.v rs ts] w fun e w' => ∃ v, e = .returned v ∧ ∃ rs' ts' : Sl, v = (yxB o).v rs' ts' ∧ OpOwn w' w.heap.size (yxB o) rs' ts' ∧ Mod [] w w' := by
 refine yF1 ?_
 intro b1 f1 b2 f2 b3 f3
 refine yeB (n := 40) rfl (yeB (n := 40) rfl (yeB (n := 40) rfl ?_))
 intro w1 A1
 have l1 := A1.lt b1 (by simp)
 have l2 := A1.lt b2 (by simp)
 have l3 := A1.lt b3 (by simp)
 have s1 := A1.mod.size
 have hn := h.topics.1
 have hw := h.wt
 unfold maxLen at hw
 refine (yBU (b := o.b) (rs := rs) (h.recs.keep0 A1.mod) h.wr).mono ?_
 rintro e w2 ⟨_, rfl, rs', rfl, hB, M2⟩
 have s2 := M2.size
 refine ⟨_, _, _, _, _, _, rfl, yaE.of0 M2, ?_⟩
 intro w3 A3
 have s3 := A3.mod.size
 have hB3 : Row w3 w1.heap.size 53 4 ye7 rs'.a rs'.n rs'.c (yqZ o.b).recs := hB.keep A3.mod fun ad ha hk => by have := hB.base ad ha; simp at hk; omega
 have N3 := (A1.mod.go0 M2 (by simp)).go0 A3.mod (by simpa using f3)
 refine ywN (fun mm x a n c w' => ∃ k : Nat, x = k ∧ k ≤ o.topics.length ∧ k ≤ 12 ∧ Row w' w1.heap.size 9 1 yiO a n c ((o.topics.take k).map (yi7 40)) ∧ Row w' w1.heap.size 53 4 ye7 rs'.a rs'.n rs'.c (yqZ o.b).recs ∧ Mod [] w w' ∧ w1.heap.size ≤ w'.heap.size ∧ mm = o.topics.length - k) o.topics.length
  ⟨0, rfl, by omega, by omega, Row.nil .., hB3, N3, by omega, rfl⟩ ?_
 rintro mm x a n c w4 ⟨k, rfl, hk, hk2, hRow, hB4, N4, s4, rfl⟩
 have hlk : ((o.topics.take k).map (yi7 40)).length = k := by rw [List.length_map, List.length_take]; omega
 have fin : ∀ {w'}, ¬ (k < o.topics.length ∧ k < 12) → Adv [b2] [] w4 w' → ∃ rs'' ts' : Sl, Value.agg #[.int .i64 o.kind, .string (yi7 40 o.part.t), .int .i64 o.part.n, .int .i64 o.n, .int .i64 o.off, .int .i64 (yqZ o.b).prod, .int .i64 (yqZ o.b).epoch, .int .i64 (yqZ o.b).seq, .slice rs'.a rs'.n rs'.c, .string (yi7 40 o.g), .string (yi7 40 o.m), .int .i64 o.gen, .bool o.robin, .slice a n c] = (yxB o).v rs'' ts' ∧ OpOwn w' w.heap.size (yxB o) rs'' ts' ∧ Mod [] w w' := fun {w'} hne A => by
  rw [ydY 12 hk2 hne hk] at hRow
  exact ⟨rs', ⟨a, n, c⟩, rfl, ⟨(hB4.keep A.mod fun ad ha hk => by have := hB4.base ad ha; simp at hk; omega).rebase s1, (hRow.keep A.mod fun ad ha hk => by have := hRow.base ad ha; simp at hk; omega).rebase s1, by simp [yxB, yqZ]; omega, by simp [yxB]; omega⟩, N4.go0 A.mod (by simpa using f2)⟩
 refine yaC (fun hlt => ?_) fun hge => fun w5 A5 => fin (by omega) A5
 refine yaC (fun hlt2 => ?_) fun hge => fun w5 A5 => fin (by omega) A5
 obtain ⟨t, ht⟩ : ∃ t, o.topics[k]? = some t := ⟨_, List.getElem?_eq_getElem (by omega)⟩
 refine (h.topics.keep0 N4).ixW ht fun q hq => ?_
 intro w5 A5
 refine yaG (x := t) (by simpa [add_zero] using hq w5 A5.mod 0 _ rfl) ?_
 refine (h.topics.keep0 N4).ixW ht fun q hq => ?_
 refine yaG (x := t) (by simpa [add_zero] using hq w5 A5.mod 0 _ rfl) ?_
 refine yeB (n := 40) rfl ?_
 refine ydB fun b6 w6 c6 M6 f6 => ?_
 have K6 : Mod [] w4 w6 := A5.mod.go0 M6 (by simp)
 have s6 := K6.size
 obtain ⟨i0, hi, hz0, hz1, hz2⟩ := info_parts yFd
 refine yb0 (enc := yiO) (x := yi7 40 t) (hRow.keep0 K6) Tryz.underlying47 hi hz0 hz1 hz2 rfl (by decide) c6 rfl (ynI _) (by omega) (by unfold maxLen; omega) (by omega) fun a' c' w7 hR7 hM7 => ?_
 have M7 := hM7 _ (ydC a)
 have s7 := M7.size
 have hrow := ybM hRow
 refine ⟨yaE.of M7 fun b hb _ hb' => ?_, ?_⟩
 ·have := hrow b hb'; simp at hb; omega
 intro w8 A8
 have s8 := A8.mod.size
 have hB7 : Row w7 w1.heap.size 53 4 ye7 rs'.a rs'.n rs'.c (yqZ o.b).recs := (hB4.keep0 K6).keep M7 fun ad ha hk => by
  obtain ⟨_, cur, hc⟩ := hB4.block ad ha
  obtain ⟨_, _, cur2, hc2⟩ := hrow _ hk
  rw [hc2] at hc; cases hc
 refine ywM (o.topics.length - (k + 1)) (by omega) ⟨k + 1, by rw [yaH (by omega) (by omega)]; omega, by omega, by omega, Row.keep (by rw [yeP ht]; exact hR7) A8.mod fun ad ha hk => ?_, hB7.keep A8.mod fun ad ha hk => ?_, ?_, by omega, rfl⟩
 ·have := hR7.base ad ha; simp at hk; omega
 ·have := hB7.base ad ha; simp at hk; omega
 ·refine ((N4.go0 K6 (by simp)).go0 M7 fun i hi => ?_).go0 A8.mod (by simpa using f3)
  have := hrow i hi; omega
theorem yDi {w : World} {a : OA} {n c : Nat} {ll : List CV} (h : yb3 w 16 CV.cs a n ll) (hO : ∀ q ∈ ll, OpRd w q.x.op q.rs q.ts) (hw : n ≤ maxLen) :
  Calls pP 20 #[.slice a n c] w fun e w' => ∃ v, e = .returned v ∧ ∃ s' : Sl, v = .slice s'.a s'.n s'.c ∧ ybI w' w.heap.size s' (yo9 (ll.map (·.x))) ∧ Mod [] w w' := by
 have hn := h.1
 unfold maxLen at hw
 refine yF2 ?_
 refine ydB fun b1 w1 c1 M1 f1 => ?_
 have s1 := M1.size
 refine ywP (fun mm a3 n3 c3 x w' => ∃ (k : Nat) (l : List CV), x = k ∧ k ≤ ll.length ∧ k ≤ 12 ∧ l.map (·.x) = ((ll.map (·.x)).take k).map yEG ∧ Row w' w.heap.size 51 16 CV.cs a3 n3 c3 l ∧ (∀ q ∈ l, OpOwn w' w.heap.size q.x.op q.rs q.ts) ∧ Mod [] w w' ∧ mm = ll.length - k) ll.length
  ⟨0, [], rfl, by omega, by omega, by simp, Row.fresh c1 f1, by simp, M1, rfl⟩ ?_
 rintro mm a3 n3 c3 x w2 ⟨k, l, rfl, hk, hk2, hlx, hRow, hOw, M2, rfl⟩
 have hlk : l.length = k := by have := congrArg List.length hlx; simp at this; omega
 have fin : ¬ (k < (ll.map (·.x)).length ∧ k < 12) → ∃ s' : Sl, Value.slice a3 n3 c3 = .slice s'.a s'.n s'.c ∧ ybI w2 w.heap.size s' (yo9 (ll.map (·.x))) ∧ Mod [] w w2 := fun hne => ⟨⟨a3, n3, c3⟩, rfl, ⟨l, hRow, hOw, by rw [hlx, yo9, ydY 12 hk2 hne (by simpa using hk)]⟩, M2⟩
 have s2 := M2.size
 refine yaC (fun hlt => ?_) fun hge => fin (by simp; omega)
 refine yaC (fun hlt2 => ?_) fun hge => fin (by simp; omega)
 obtain ⟨q, hq⟩ : ∃ q, ll[k]? = some q := ⟨_, List.getElem?_eq_getElem (by omega)⟩
 refine (h.keep0 M2).ixW hq fun ad had => ?_
 intro w3 A3
 have s3 := A3.mod.size
 have N3 := M2.go0 A3.mod (by simp)
 refine yaF (x := q.x.c) (by simpa [add_zero] using had w3 A3.mod 0 _ rfl) ?_
 refine (h.keep0 N3).ixW hq fun ad2 had2 => yaF (x := q.x.n) (had2 w3 (Mod.refl _) 1 _ rfl) ?_
 refine (h.keep0 N3).ixW hq fun ad3 had3 => ?_
 have hc := had3 w3 (Mod.refl _)
 refine yoC (yi4 hc) ?_
 refine (yGl ((hO q (List.mem_of_getElem? hq)).keep0 N3)).mono ?_
 rintro _ w4 ⟨_, rfl, rs', ts', rfl, hO', M4⟩
 have s4 := M4.size
 refine ⟨_, _, _, _, _, _, _, _, _, _, _, _, _, _, _, _, _, _, rfl, ?_, ?_, ?_⟩
 ·exact yaF (x := q.x.n) (had2 w4 M4 1 _ rfl) rfl
 ·exact yaF (x := q.x.c) (by simpa [add_zero] using had w4 (A3.mod.go0 M4 (by simp)) 0 _ rfl) rfl
 refine ydB fun b7 w7 c7 M7 f7 => ?_
 have s7 := M7.size
 have K7 : Mod [] w2 w7 := (A3.mod.go0 M4 (by simp)).go0 M7 (by simp)
 obtain ⟨i0, hi, hz0, hz1, hz2⟩ := info_parts ynO
 refine yb0 (x := (⟨⟨q.x.c, q.x.n, yxB q.x.op⟩, rs', ts'⟩ : CV)) (hRow.keep0 K7) Tryz.underlying22 hi hz0 hz1 hz2 rfl (by decide) c7 rfl (CV.cs_one _) (by omega) (by unfold maxLen; omega) (by omega) fun a' c' w8 hR8 hM8 => ?_
 have M8 := hM8 _ (ydC a3)
 have hrow := ybM hRow
 have kp : ∀ {o rs ts}, OpOwn w7 w.heap.size o rs ts → OpOwn w8 w.heap.size o rs ts := fun hh => hh.keep M8 fun k hk cs T hc => by
  obtain ⟨_, _, cur, hcur⟩ := hrow k hk
  rw [K7.keep0 hcur] at hc; cases hc; decide
 refine ywO (ll.length - (k + 1)) (by omega) ⟨k + 1, _, by rw [yaH (by omega) (by omega)]; omega, by omega, by omega, by rw [yeP (show (ll.map (·.x))[k]? = some q.x by rw [List.getElem?_map, hq]; rfl), List.map_append, hlx]; rfl, hR8, fun y hy => ?_, (M2.go0 K7 (by simp)).go0 M8 fun i hi => (hrow i hi).1, rfl⟩
 rcases List.mem_append.1 hy with hy | hy
 ·exact kp ((hOw y hy).keep0 K7)
 ·simp at hy; subst hy; exact kp ((hO'.keep0 M7).rebase (by omega))
set_option maxHeartbeats 1000000 in
theorem yqT {w : World} {r : PRep} {f p : Sl} (h : RepRd w r f p) :
  Calls pP 21 #[r.v f p] w fun e w' => ∃ v, e = .returned v ∧ ∃ f' p' : Sl, v = (ycF r).v f' p' ∧ RepOwn w' w.heap.size (ycF r) f' p' ∧ Mod [] w w' := by
 refine yGj ?_
 intro b1 f1 b2 f2 b3 f3 w1 A1
 have l1 : ∀ b ∈ [b3, b2, b1], b < w1.heap.size := A1.lt
 have l3 := l1 b3 (by simp)
 have l2 := l1 b2 (by simp)
 have l1 := l1 b1 (by simp)
 have s1 := A1.mod.size
 refine yxA (fun mm x a n c w' => ∃ k : Nat, x = k ∧ k ≤ 70 ∧ k ≤ r.found.length ∧ Row w' w1.heap.size 55 5 yiM a n c ((r.found.take k).map yDa) ∧ Mod [] w w' ∧ w1.heap.size ≤ w'.heap.size ∧ mm = 70 - k) 70 ⟨0, rfl, by omega, by omega, Row.nil .., A1.mod, Nat.le_refl _, rfl⟩ ?_
 rintro mm x a1 n1 c1 w2 ⟨k, rfl, hk, hkf, hR, M2, hs2, rfl⟩
 have hl1 : ((r.found.take k).map yDa).length = k := by rw [List.length_map, List.length_take]; omega
 have e4 := h.found.1
 have e5 := h.parts.1
 refine yaC (fun hlt => ?_) fun hge => ?_
 ·refine yaC (fun hlt4 => ?_) fun hge => ?_
  ·obtain ⟨y, hy⟩ : ∃ y, r.found[k]? = some y := ⟨_, List.getElem?_eq_getElem (by have := h.found.1; omega)⟩
   have hym := h.sf y (List.mem_of_getElem? hy)
   unfold maxLen at hym
   refine (h.keep0 M2).found.ix hy fun q hq => yaF (x := y.off) (by simpa [add_zero] using hq 0 _ rfl) (yaN (hq 1 _ rfl) (yaG (hq 2 _ rfl) (yaN (hq 3 _ rfl) (yaG (hq 4 _ rfl) ?_))))
   intro b6 f6
   refine yeB (n := 80) rfl (yeB (n := 600) rfl ?_)
   intro w6 A6
   have l6 := A6.lt b6 (by simp)
   have s6 := A6.mod.size
   refine ydB fun b7 w7 c7 M7 f7 => ?_
   have s7 := M7.size
   obtain ⟨i0, hi0, hz0, hz1, hz2⟩ := info_parts yEX
   refine yb0 (x := yDa y) ((hR.keep0 A6.mod).keep0 M7) Tryz.underlying24 hi0 hz0 hz1 hz2 rfl (by decide) c7 rfl (ynE _) (by omega) (by unfold maxLen; omega) (by omega) fun a' c' w8 hR8 hM8 => ?_
   have M8 := hM8 _ (ydC a1)
   have hrow : ∀ k ∈ ykQ a1, w1.heap.size ≤ k ∧ k < w2.heap.size := by
    cases a1 with
    | none => simp [ykQ]
    | some ad => intro k hk; simp [ykQ] at hk; subst hk; obtain ⟨h1, cur, h2⟩ := hR.block ad rfl; exact ⟨h1, yaX h2⟩
   refine ⟨yaE.of M8 fun b hb _ hb' => ?_, ?_⟩
   ·have := hrow b hb'; simp at hb; omega
   intro w9 A9
   have N7 : Mod [] w2 w7 := A6.mod.go0 M7 (by simp)
   have N8 : Mod [] w w8 := (M2.go0 N7 (by simp)).go0 M8 fun i hi => by have := hrow i hi; omega
   have s8 := M8.size
   have s9 := A9.mod.size
   refine yw9 (70 - (k + 1)) (by omega) ⟨k + 1, by rw [yaH (by omega) (by omega)]; omega, by omega, by have := (List.getElem?_eq_some_iff.1 hy).1; omega, Row.keep (by rw [yeP hy]; exact hR8) A9.mod fun ad ha hk' => ?_, N8.go0 A9.mod (by simp; omega), by omega, rfl⟩
   have := hR8.base ad ha; simp at hk'; omega
  ·have hRf : Row w2 w1.heap.size 55 5 yiM a1 n1 c1 (ycF r).found := by
    have := ydY (l := r.found) 70 hk (by omega) hkf
    rw [this] at hR; exact hR
   clear hR
   refine ymS (fun mm x a n c w' => ∃ k : Nat, x = k ∧ k ≤ 70 ∧ k ≤ r.parts.length ∧ Row w' w1.heap.size 43 2 yjW a n c ((r.parts.take k).map yxL) ∧ Row w' w1.heap.size 55 5 yiM a1 n1 c1 (ycF r).found ∧ Mod [] w w' ∧ w1.heap.size ≤ w'.heap.size ∧ mm = 70 - k) 70 ⟨0, rfl, by omega, by omega, Row.nil .., hRf, M2, hs2, rfl⟩ ?_
   rintro mm x a n c w3 ⟨k, rfl, hk, hkp, hP, hR, M3, hs3, rfl⟩
   have hl : ((r.parts.take k).map yxL).length = k := by rw [List.length_map, List.length_take]; omega
   have fin : ¬ (k < r.parts.length ∧ k < 70) → ∀ w4, Adv [b2] [] w3 w4 → ∃ f' p' : Sl, Value.agg #[.int .i64 r.e, .int .i64 r.off, .int .i64 r.n, .int .i64 r.gen, .slice a1 n1 c1, .slice a n c] = (ycF r).v f' p' ∧ RepOwn w4 w.heap.size (ycF r) f' p' ∧ Mod [] w w4 := fun hne w4 A4 => by
    rw [ydY 70 hk hne hkp] at hP
    refine ⟨⟨a1, n1, c1⟩, ⟨a, n, c⟩, rfl, ⟨?_, ?_, by simp [ycF]; omega, by simp [ycF]; omega⟩, M3.go0 A4.mod (by simp; omega)⟩
    ·refine (hR.keep A4.mod fun ad ha hk' => ?_).rebase (by omega)
     have := hR.base ad ha; simp at hk'; omega
    ·refine (hP.keep A4.mod fun ad ha hk' => ?_).rebase (by omega)
     have := hP.base ad ha; simp at hk'; omega
   refine yaC (fun hlt => ?_) fun hge => fin (by omega)
   refine yaC (fun hlt4 => ?_) fun hge => fin (by omega)
   obtain ⟨y, hy⟩ : ∃ y, r.parts[k]? = some y := ⟨_, List.getElem?_eq_getElem (by have := h.parts.1; omega)⟩
   have hym := h.sp y (List.mem_of_getElem? hy)
   unfold maxLen at hym
   refine (h.keep0 M3).parts.ix hy fun q hq => yaG (x := y.t) (by simpa [add_zero] using hq 0 _ rfl) (yaF (hq 1 _ rfl) ?_)
   intro b6 f6
   refine yeB (n := 40) rfl ?_
   intro w6 A6
   have l6 := A6.lt b6 (by simp)
   have s6 := A6.mod.size
   refine ydB fun b7 w7 c7 M7 f7 => ?_
   have s7 := M7.size
   obtain ⟨i0, hi0, hz0, hz1, hz2⟩ := info_parts yCt
   refine yb0 (x := yxL y) ((hP.keep0 A6.mod).keep0 M7) Tryz.underlying25 hi0 hz0 hz1 hz2 rfl (by decide) c7 rfl (yi0 _) (by omega) (by unfold maxLen; omega) (by omega) fun a' c' w8 hR8 hM8 => ?_
   have M8 := hM8 _ (ydC a)
   have hrow : ∀ k ∈ ykQ a, w1.heap.size ≤ k ∧ k < w3.heap.size ∧ ∃ cur, w3.heap[k]? = some (.cells cur 43) := by
    cases a with
    | none => simp [ykQ]
    | some ad => intro k hk; simp [ykQ] at hk; subst hk; obtain ⟨h1, cur, h2⟩ := hP.block ad rfl; exact ⟨h1, yaX h2, cur, h2⟩
   refine ⟨yaE.of M8 fun b hb _ hb' => ?_, ?_⟩
   ·have := hrow b hb'; simp at hb; omega
   intro w9 A9
   have N7 : Mod [] w3 w7 := A6.mod.go0 M7 (by simp)
   have N8 : Mod [] w w8 := (M3.go0 N7 (by simp)).go0 M8 fun i hi => by have := hrow i hi; omega
   have s8 := M8.size
   have s9 := A9.mod.size
   refine ymR (70 - (k + 1)) (by omega) ⟨k + 1, by rw [yaH (by omega) (by omega)]; omega, by omega, by have := (List.getElem?_eq_some_iff.1 hy).1; omega, Row.keep (by rw [yeP hy]; exact hR8) A9.mod fun ad ha hk' => ?_, ?_, N8.go0 A9.mod (by simp; omega), by omega, rfl⟩
   ·have := hR8.base ad ha; simp at hk'; omega
   ·have h7 := hR.keep0 N7
    refine (h7.keep M8 fun ad ha hk' => ?_).keep A9.mod fun ad ha hk' => ?_
    ·obtain ⟨_, _, cur, hc⟩ := hrow _ hk'
     obtain ⟨_, cur', hc'⟩ := hR.block ad ha
     rw [hc] at hc'; cases hc'
    ·have := hR.base ad ha; simp at hk'; omega
 ·have hRf : Row w2 w1.heap.size 55 5 yiM a1 n1 c1 (ycF r).found := by
   have := ydY (l := r.found) 70 hk (by omega) hkf
   rw [this] at hR; exact hR
  clear hR
  refine ymS (fun mm x a n c w' => ∃ k : Nat, x = k ∧ k ≤ 70 ∧ k ≤ r.parts.length ∧ Row w' w1.heap.size 43 2 yjW a n c ((r.parts.take k).map yxL) ∧ Row w' w1.heap.size 55 5 yiM a1 n1 c1 (ycF r).found ∧ Mod [] w w' ∧ w1.heap.size ≤ w'.heap.size ∧ mm = 70 - k) 70 ⟨0, rfl, by omega, by omega, Row.nil .., hRf, M2, hs2, rfl⟩ ?_
  rintro mm x a n c w3 ⟨k, rfl, hk, hkp, hP, hR, M3, hs3, rfl⟩
  have hl : ((r.parts.take k).map yxL).length = k := by rw [List.length_map, List.length_take]; omega
  have fin : ¬ (k < r.parts.length ∧ k < 70) → ∀ w4, Adv [b2] [] w3 w4 → ∃ f' p' : Sl, Value.agg #[.int .i64 r.e, .int .i64 r.off, .int .i64 r.n, .int .i64 r.gen, .slice a1 n1 c1, .slice a n c] = (ycF r).v f' p' ∧ RepOwn w4 w.heap.size (ycF r) f' p' ∧ Mod [] w w4 := fun hne w4 A4 => by
   rw [ydY 70 hk hne hkp] at hP
   refine ⟨⟨a1, n1, c1⟩, ⟨a, n, c⟩, rfl, ⟨?_, ?_, by simp [ycF]; omega, by simp [ycF]; omega⟩, M3.go0 A4.mod (by simp; omega)⟩
   ·refine (hR.keep A4.mod fun ad ha hk' => ?_).rebase (by omega)
    have := hR.base ad ha; simp at hk'; omega
   ·refine (hP.keep A4.mod fun ad ha hk' => ?_).rebase (by omega)
    have := hP.base ad ha; simp at hk'; omega
  refine yaC (fun hlt => ?_) fun hge => fin (by omega)
  refine yaC (fun hlt4 => ?_) fun hge => fin (by omega)
  obtain ⟨y, hy⟩ : ∃ y, r.parts[k]? = some y := ⟨_, List.getElem?_eq_getElem (by have := h.parts.1; omega)⟩
  have hym := h.sp y (List.mem_of_getElem? hy)
  unfold maxLen at hym
  refine (h.keep0 M3).parts.ix hy fun q hq => yaG (x := y.t) (by simpa [add_zero] using hq 0 _ rfl) (yaF (hq 1 _ rfl) ?_)
  intro b6 f6
  refine yeB (n := 40) rfl ?_
  intro w6 A6
  have l6 := A6.lt b6 (by simp)
  have s6 := A6.mod.size
  refine ydB fun b7 w7 c7 M7 f7 => ?_
  have s7 := M7.size
  obtain ⟨i0, hi0, hz0, hz1, hz2⟩ := info_parts yCt
  refine yb0 (x := yxL y) ((hP.keep0 A6.mod).keep0 M7) Tryz.underlying25 hi0 hz0 hz1 hz2 rfl (by decide) c7 rfl (yi0 _) (by omega) (by unfold maxLen; omega) (by omega) fun a' c' w8 hR8 hM8 => ?_
  have M8 := hM8 _ (ydC a)
  have hrow : ∀ k ∈ ykQ a, w1.heap.size ≤ k ∧ k < w3.heap.size ∧ ∃ cur, w3.heap[k]? = some (.cells cur 43) := by
   cases a with
   | none => simp [ykQ]
   | some ad => intro k hk; simp [ykQ] at hk; subst hk; obtain ⟨h1, cur, h2⟩ := hP.block ad rfl; exact ⟨h1, yaX h2, cur, h2⟩
  refine ⟨yaE.of M8 fun b hb _ hb' => ?_, ?_⟩
  ·have := hrow b hb'; simp at hb; omega
  intro w9 A9
  have N7 : Mod [] w3 w7 := A6.mod.go0 M7 (by simp)
  have N8 : Mod [] w w8 := (M3.go0 N7 (by simp)).go0 M8 fun i hi => by have := hrow i hi; omega
  have s8 := M8.size
  have s9 := A9.mod.size
  refine ymR (70 - (k + 1)) (by omega) ⟨k + 1, by rw [yaH (by omega) (by omega)]; omega, by omega, by have := (List.getElem?_eq_some_iff.1 hy).1; omega, Row.keep (by rw [yeP hy]; exact hR8) A9.mod fun ad ha hk' => ?_, ?_, N8.go0 A9.mod (by simp; omega), by omega, rfl⟩
  ·have := hR8.base ad ha; simp at hk'; omega
  ·have h7 := hR.keep0 N7
   refine (h7.keep M8 fun ad ha hk' => ?_).keep A9.mod fun ad ha hk' => ?_
   ·obtain ⟨_, _, cur, hc⟩ := hrow _ hk'
    obtain ⟨_, cur', hc'⟩ := hR.block ad ha
    rw [hc] at hc'; cases hc'
   ·have := hR.base ad ha; simp at hk'; omega
def yB2 (m : PMail) : PMail := ⟨m.kind, m.fr, m.to, m.view, m.normal, m.last, m.commit, m.nonce, m.base, m.n, yo9 m.calls, ycF m.r⟩
theorem MailRd.keep0 {w w' : World} {m : PMail} {s f p : Sl} (h : MailRd w m s f p) (M : Mod [] w w') : MailRd w' m s f p := by
 obtain ⟨⟨ll, h1, h2, h3⟩, h4, h5⟩ := h
 exact ⟨⟨ll, h1.keep0 M, fun q hq => (h2 q hq).keep0 M, h3⟩, h4, h5.keep0 M⟩
theorem ysY {w : World} {m : PMail} {s f p : Sl} (h : MailRd w m s f p) :
  Calls pP 9 #[m.v s f p] w fun e w' => ∃ v, e = .returned v ∧ ∃ s' f' p' : Sl, v = (yB2 m).v s' f' p' ∧ MailOwn w' w.heap.size (yB2 m) s' f' p' ∧ Mod [] w w' := by
 refine yF9 ?_
 intro b1 f1 b2 f2 b3 f3 w4 A4
 have l1 := A4.lt b1 (by simp)
 have l2 := A4.lt b2 (by simp)
 have l3 := A4.lt b3 (by simp)
 have s4 := A4.mod.size
 obtain ⟨ll, h1, h2, h3⟩ := (h.keep0 A4.mod).calls
 refine (yDi h1 h2 h.ws).mono ?_
 rintro _ w5 ⟨_, rfl, s', rfl, hC, M5⟩
 rw [h3] at hC
 have s5 := M5.size
 refine ⟨_, _, _, rfl, yaE.of0 M5, ?_⟩
 intro w9 A9
 have s9 := A9.mod.size
 have N9 : Mod [] w w9 := (A4.mod.go0 M5 (by simp)).go0 A9.mod (by simpa using f3)
 refine (yqT (h.keep0 N9).rep).mono ?_
 rintro _ w10 ⟨_, rfl, f', p', rfl, hR, M10⟩
 have s10 := M10.size
 refine ⟨_, _, _, _, _, _, _, _, _, _, rfl, yaE.of0 M10, ?_⟩
 intro w21 A21
 refine ⟨s', f', p', rfl, ⟨((hC.keepB A9.mod (by simp; omega)).keep0 M10).keepB A21.mod (by simp; omega) |>.rebase s4, (hR.keepB A21.mod (by simp; omega)).rebase (by omega)⟩, (N9.go0 M10 (by simp)).go0 A21.mod (by simp; omega)⟩
theorem yDj (m : PMail) : yB2 (yB2 m) = yB2 m := by
 have h1 := yBT m.calls
 have h2 := yxC m.r
 simp only [yB2, h1, h2]
theorem ydL (n : Nat) (hn : n ≤ 1000) (s : BA) : (yi7 n s).size ≤ maxLen := by rw [yqS]; unfold maxLen; omega
theorem yJL {w : World} {B : Nat} {m : PMail} {s f p : Sl} (h : MailOwn w B (yB2 m) s f p) : MailRd w (yB2 m) s f p := by
 obtain ⟨ll, hR, hO, hx⟩ := h.calls
 have hn := hR.1
 have hl : ll.length ≤ 12 := by
  have := congrArg List.length hx
  rw [List.length_map] at this
  show ll.length ≤ 12
  rw [this]; show ((m.calls.take 12).map yEG).length ≤ 12
  rw [List.length_map, List.length_take]; omega
 have hrn := (h.rep.found).1
 have hpn := (h.rep.parts).1
 have hfl : (ycF m.r).found.length ≤ 70 := by show ((m.r.found.take 70).map yDa).length ≤ 70; rw [List.length_map, List.length_take]; omega
 have hpl : (ycF m.r).parts.length ≤ 70 := by show ((m.r.parts.take 70).map yxL).length ≤ 70; rw [List.length_map, List.length_take]; omega
 refine ⟨⟨ll, hR.sl CV.cs_len, fun q hq => ?_, hx⟩, by unfold maxLen; omega, ⟨h.rep.found.sl yiW, h.rep.parts.sl yiX, ?_, ?_, ?_, ?_⟩⟩
 ·have hq2 : q.x ∈ yo9 m.calls := by rw [show yo9 m.calls = (yB2 m).calls from rfl, ← hx]; exact List.mem_map.2 ⟨q, hq, rfl⟩
  obtain ⟨c, hc, he⟩ := List.mem_map.1 hq2
  have ho : q.x.op = yxB c.op := by rw [← he]; rfl
  have hw := hO q hq
  have lr := hw.at.recs.1
  have lt := hw.at.topics.1
  have hl1 := hw.lr
  have hl2 := hw.lt
  refine ⟨hw.at.recs, hw.at.topics, by unfold maxLen; omega, by unfold maxLen; omega, ?_, ?_, ?_, ?_, ?_⟩
  ·intro r hr
   rw [ho] at hr
   obtain ⟨r0, _, rfl⟩ := List.mem_map.1 hr
   exact ⟨ydL 80 (by omega) _, ydL 600 (by omega) _⟩
  ·intro t ht
   rw [ho] at ht
   obtain ⟨t0, _, rfl⟩ := List.mem_map.1 ht
   exact ydL 40 (by omega) _
  ·rw [ho]; exact ydL 40 (by omega) _
  ·rw [ho]; exact ydL 40 (by omega) _
  ·rw [ho]; exact ydL 40 (by omega) _
 ·have : f.n = (ycF m.r).found.length := hrn
  unfold maxLen; omega
 ·have : p.n = (ycF m.r).parts.length := hpn
  unfold maxLen; omega
 ·intro y hy
  obtain ⟨y0, _, rfl⟩ := List.mem_map.1 hy
  exact ⟨ydL 80 (by omega) _, ydL 600 (by omega) _⟩
 ·intro y hy
  obtain ⟨y0, _, rfl⟩ := List.mem_map.1 hy
  exact ydL 40 (by omega) _
theorem yBV {w : World} {s : Sl} {xs : List PCall} (h : ye2 w s xs) (hc : xs = []) : s.n = 0 := by
 obtain ⟨ll, h1, _, h3⟩ := h
 rw [hc] at h3
 have : ll = [] := by simpa using h3
 rw [h1.1, this]; rfl
theorem ykO {s : Sl} (hn : s.n = 0) (w : World) :
  Calls pP 32 #[.slice s.a s.n s.c] w fun e w' => e = .returned (.tuple #[.string (bs (yaJ 0)), .int .i64 0]) ∧ Mod [] w w' := by
 obtain ⟨a, n, c⟩ := s
 have hn : n = 0 := hn
 subst hn
 refine yaP (yBx ?_)
 refine yaC (fun g => absurd g (by show ¬ ((0 : Nat) : Int) > 4096; omega)) fun _ => ?_
 have chk : Calls pP 63 #[.slice a 0 c] w fun e w' => e = .returned (.int .i64 0) ∧ w' = w := by
  refine yaP (yBt ?_)
  refine ymI (fun mm x w' => x = 0 ∧ w' = w) 0 ⟨rfl, rfl⟩ ?_
  rintro mm x w' ⟨rfl, rfl⟩
  refine yaC (fun g => absurd g (by decide)) fun _ => ?_
  refine ymJ (fun mm x w2 => x = 0 ∧ w2 = w') 0 ⟨rfl, rfl⟩ ?_
  rintro mm x w2 ⟨rfl, rfl⟩
  exact yaC (fun g => absurd g (by decide)) fun _ => ⟨rfl, rfl⟩
 refine chk.mono ?_
 rintro _ w1 ⟨rfl, rfl⟩
 refine ⟨_, rfl, yaB (fun g => absurd g (by decide)) fun _ => ?_⟩
 refine (yb1 (n := 0) (by omega) w1).mono ?_
 rintro _ w2 ⟨rfl, M2⟩
 refine ⟨_, rfl, ?_⟩
 refine ymK (fun mm t x w' => x = 0 ∧ t = bs (yaJ 0) ∧ w' = w2) 0 ⟨rfl, rfl, rfl⟩ ?_
 rintro mm t x w3 ⟨rfl, rfl, rfl⟩
 exact yaC (fun g => absurd g (by show ¬ ((0 : Int) < ((0 : Nat) : Int)); omega)) fun _ => ⟨rfl, M2⟩
theorem yqU {w : World} {m : PMail} {s f p : Sl} (h : MailAt w m s f p) (hc : m.calls = []) :
  Calls pP 13 #[m.v s f p] w fun e w' => e = .returned (.int .i64 (yb5 m)) ∧ Mod [] w w' := by
 refine yaP (yBB ?_)
 intro b1 f1
 refine yaC (fun g1 => fun w2 A2 => ⟨by rw [yb5, if_pos (.inl g1)], A2.mod⟩) fun g1 => ?_
 refine yaC (fun g2 => fun w2 A2 => ⟨by rw [yb5, if_pos (.inr (by omega))], A2.mod⟩) fun g2 => ?_
 have hE : yb5 m = if ((yaR m).all num) = false then 1 else if yb8 m.calls ≠ 0 then yb8 m.calls else yfR m.r := by rw [yb5, if_neg (by omega)]
 intro w4 A4
 refine (yhV m s f p).mono ?_
 rintro e w5 ⟨_, rfl, c5, rfl, h5, M5⟩
 have N5 := A4.mod.go0 M5 (by simp)
 refine ⟨_, _, _, rfl, yaE.of0 M5, ?_⟩
 refine ymN (fun mm x w' => ∃ k : Nat, x = k ∧ k ≤ 10 ∧ ((yaR m).take k).all num = true ∧ mm = 10 - k ∧ Mod [] w5 w') 10 ⟨0, rfl, by omega, by simp, rfl, Mod.refl _⟩ ?_
 rintro mm x w6 ⟨k, rfl, hk, hal, rfl, M6⟩
 have N6 := N5.go0 M6 (by simp)
 refine yaC (fun hlt => ?_) fun hge => ?_
 ·have hk' : k < 10 := by omega
  obtain ⟨x, hx⟩ : ∃ x, (yaR m)[k]? = some x := ⟨_, List.getElem?_eq_getElem (by simpa [yaR] using hk')⟩
  refine (h5.keep0 M6).ix hx fun q hq => yaF (x := x) (by simpa [add_zero] using hq 0 _ rfl) ?_
  refine (ycM x w6).mono ?_
  rintro _ w7 ⟨rfl, rfl⟩
  refine ⟨_, rfl, yaE.of0 (Mod.refl _), yaB (fun g3 => ⟨?_, N6⟩) fun g3 => ?_⟩
  ·rw [hE, if_pos]
   apply Bool.eq_false_iff.2
   intro hh
   have := List.all_eq_true.1 hh x (List.mem_of_getElem? hx)
   rw [this] at g3; cases g3
  ·exact ymM (10 - (k + 1)) (by omega) ⟨k + 1, by rw [yaH (by omega) (by omega)]; omega, by omega, by rw [yb6 hx, hal, yhJ g3]; rfl, rfl, M6⟩
 ·have hk' : k = 10 := by omega
  subst hk'
  rw [List.take_of_length_le (by simp [yaR])] at hal
  rw [hal, if_neg (by decide)] at hE
  have ht : yb8 m.calls = 0 := by rw [hc]; decide
  refine (ykO (s := s) (yBV h.calls hc) w6).mono ?_
  rintro e w7 ⟨rfl, M7⟩
  have N7 := N6.go0 M7 (by simp)
  refine ⟨_, _, rfl, yaE.of0 M7, yaB (fun g => ?_) fun g => ?_⟩
  ·simp at g
  rw [if_neg (by simpa using ht)] at hE
  refine (yfX (h.rep.keep0 N7)).mono ?_
  rintro e w8 ⟨rfl, M8⟩
  exact ⟨_, _, rfl, yaE.of0 M8, by rw [hE], N7.go0 M8 (by simp)⟩
set_option maxHeartbeats 4000000 in
theorem yxD {w : World} {m : PMail} {s f p : Sl} (h : MailAt w m s f p) (hc : m.calls = []) :
  Calls pP 11 #[m.v s f p] w fun e w' => e = .returned (.tuple #[.string (if ybT m = 0 then yeL m else bs []), .int .i64 (ybT m)]) ∧ Mod [] w w' := by
 refine yaP (yBD ?_)
 intro b1 f1 w2 A2
 refine (yqU (h.keep0 A2.mod) hc).mono ?_
 rintro _ w3 ⟨rfl, M3⟩
 have N3 := A2.mod.go0 M3 (by simp)
 refine ⟨_, rfl, yaE.of0 M3, yaB (fun g => ?_) fun g => ?_⟩
 ·have g : yb5 m ≠ 0 := by simpa using g
  have e : ybT m = yb5 m := by rw [ybT, if_pos g]
  rw [e, if_neg g]; exact ⟨rfl, N3⟩
 have g : yb5 m = 0 := by simpa using g
 obtain ⟨_, hn, ht, hr⟩ := ycV g
 have hE : ybT m = if (ybL m).length > 1048576 then 2 else 0 := by rw [ybT, if_neg (by simpa using g)]
 refine (yhV m s f p).mono ?_
 rintro _ w4 ⟨_, rfl, c4, rfl, h4, M4⟩
 refine ⟨_, _, _, rfl, yaE.of0 M4, ?_⟩
 have N4 := N3.go0 M4 (by simp)
 refine ymP (fun mm s5 x7 w' => ∃ k : Nat, x7 = k ∧ k ≤ 10 ∧ s5 = bs (((yaR m).take k).flatMap ykR) ∧ Mod [] w4 w' ∧ mm = 10 - k) 10 ⟨0, rfl, by omega, by simp [yDG], Mod.refl _, rfl⟩ ?_
 rintro mm s5 x7 w5 ⟨k, rfl, hk, rfl, M5, rfl⟩
 have lk := yeN hn k
 have N5 := N4.go0 M5 (by simp)
 refine yaC (fun hlt => ?_) fun hge => ?_
 ·have hk' : k < 10 := by omega
  obtain ⟨x, hx⟩ : ∃ x, (yaR m)[k]? = some x := ⟨_, List.getElem?_eq_getElem (by simpa [yaR] using hk')⟩
  have hx1 := yfY hn hx
  have ls := yeM hx1
  have lv := (yaL x.toNat ls.1).2
  refine (h4.keep0 M5).ix hx fun q hq => yaF (x := x) (by simpa [add_zero] using hq 0 _ rfl) ?_
  rw [yGi hx1]
  refine (yb1 ls.1 w5).mono ?_
  rintro _ w6 ⟨rfl, M6⟩
  refine ⟨_, rfl, yaE.of0 M6, by rw [yaD, yaD]; omega, ?_⟩
  rw [ya9]
  exact ymO (10 - (k + 1)) (by omega) ⟨k + 1, by rw [yaH (by omega) (by omega)]; omega, by omega, by rw [ykN hx], M5.go0 M6 (by simp), rfl⟩
 ·have hk' : k = 10 := by omega
  subst hk'
  have e10 : (yaR m).take 10 = yaR m := List.take_of_length_le (by simp [yaR])
  rw [e10] at lk ⊢
  refine (ykO (s := s) (yBV h.calls hc) w5).mono ?_
  rw [show bs (yaJ 0) = bs (ybK m.calls) by rw [hc]; simp [ybK]]
  rintro _ w6 ⟨rfl, M6⟩
  have N6 := N5.go0 M6 (by simp)
  refine ⟨_, _, rfl, yaE.of0 M6, ?_⟩
  refine (yfX (h.rep.keep0 N6)).mono ?_
  rw [hr, if_pos rfl]
  rintro _ w7 ⟨rfl, M7⟩
  refine ⟨_, _, rfl, yaE.of0 M7, ?_⟩
  have lt := yg7 ht
  have lr : (ydK m.r).length ≤ 60000 := (RepGood.of hr).len3 m.r.parts.length
  refine (ybG (bs (ybK m.calls)) (by rw [yaD]; omega) w7).mono ?_
  rintro _ w8 ⟨rfl, M8⟩
  refine ⟨_, rfl, yaE.of0 M8, ?_⟩
  refine (ybG (bs (ydK m.r)) (by rw [yaD]; omega) w8).mono ?_
  rintro _ w9 ⟨rfl, M9⟩
  have p1 := (yaW (bs (ybK m.calls)) (by rw [yaD]; omega)).2
  have p2 := (yaW (bs (ydK m.r)) (by rw [yaD]; omega)).2
  rw [yaD] at p1 p2
  refine ⟨_, rfl, yaE.of0 M9, by rw [yaD, yaD]; omega, ?_⟩
  rw [ya9]
  refine ⟨by rw [yaD, yaD, List.length_append]; omega, ?_⟩
  rw [ya9]
  have eB : (yaR m).flatMap ykR ++ (ybU (bs (ybK m.calls)) ++ ybU (bs (ydK m.r))) = ybL m := by rw [← List.append_assoc]; rfl
  rw [eB]
  have lB := ykK g
  have N9 : Mod [] w w9 := ((N6.go0 M7 (by simp)).go0 M8 (by simp)).go0 M9 (by simp)
  refine yaC (fun hbig => ?_) fun hbig => ?_
  ·rw [yaD] at hbig
   have e : ybT m = 2 := by rw [hE, if_pos (by omega)]
   rw [e]; exact ⟨rfl, N9⟩
  ·rw [yaD] at hbig
   have e : ybT m = 0 := by rw [hE, if_neg (by omega)]
   refine (ykH (bs (ybL m)) (by rw [yaD]; omega) w9).mono ?_
   rintro _ w10 ⟨rfl, M10⟩
   refine ⟨_, rfl, yaE.of0 M10, ?_⟩
   rw [e, if_pos rfl]; exact ⟨rfl, N9.go0 M10 (by simp)⟩
theorem yKV {w : World} {b bm k : Nat} (h : w.heap[bm]? = some (.cells #[.pointer (some ⟨b, 0, none⟩), .pointer (some ⟨b, 1, none⟩), .pointer (some ⟨b, 2, none⟩), .pointer (some ⟨b, 3, none⟩), .pointer (some ⟨b, 4, none⟩), .pointer (some ⟨b, 5, none⟩), .pointer (some ⟨b, 6, none⟩), .pointer (some ⟨b, 7, none⟩), .pointer (some ⟨b, 8, none⟩), .pointer (some ⟨b, 9, none⟩)] 63)) (hk : k < 10) : w.cell? (Addr.add ⟨bm, 0, none⟩ (Int.toNat (k : Nat) * 1)) = some (.pointer (some ⟨b, k, none⟩)) := by
 rw [ya3, yaZ h]
 rcases (by omega : k = 0 ∨ k = 1 ∨ k = 2 ∨ k = 3 ∨ k = 4 ∨ k = 5 ∨ k = 6 ∨ k = 7 ∨ k = 8 ∨ k = 9) with rfl | rfl | rfl | rfl | rfl | rfl | rfl | rfl | rfl | rfl <;> rfl
theorem yGm {m m' : PMail} : m = m' ↔ yaR m = yaR m' ∧ m.calls = m'.calls ∧ m.r = m'.r := by
 obtain ⟨a1, a2, a3, a4, a5, a6, a7, a8, a9, a10, a11, a12⟩ := m
 obtain ⟨b1, b2, b3, b4, b5, b6, b7, b8, b9, b10, b11, b12⟩ := m'
 simp [yaR, and_assoc]
set_option maxHeartbeats 4000000 in
theorem ypA {w : World} {m m' : PMail} {s f p s' f' p' : Sl} (h : MailAt w m s f p) (h' : MailAt w m' s' f' p') (hl : m.calls.length ≤ 1000000) :
  Calls pP 14 #[m.v s f p, m'.v s' f' p'] w fun e w' => e = .returned (.bool (decide (m = m'))) ∧ Mod [] w w' := by
 refine yaP (yF8 ?_)
 intro b1 f1 b2 f2 w3 A3 h31
 have nd : b1 ≠ b2 := by have := A3.nd; simp at this; exact fun h => this h.symm
 have s3 := A3.mod.size
 have l1 := A3.lt b1 (by simp)
 have l2 := A3.lt b2 (by simp)
 refine (yqD b1 w3).mono ?_
 rintro _ w4 ⟨rfl, M4⟩
 refine ⟨_, _, _, _, _, _, _, _, _, _, rfl, yaE.of0 M4, _, _, _, _, _, _, _, _, _, _, _, _, _, _, _, _, _, _, _, _, _, _, _, M4.keep0 h31, ?_⟩
 intro w5 A5 h51 h52
 refine (yqD b2 w5).mono ?_
 rintro _ w6 ⟨rfl, M6⟩
 refine ⟨_, _, _, _, _, _, _, _, _, _, rfl, _, _, _, _, _, _, _, _, _, _, _, _, _, _, _, _, _, _, _, _, _, _, _, M6.keep0 h51, _, _, _, _, _, _, _, _, _, _, _, _, _, _, _, _, _, _, _, _, _, _, _, M6.keep0 h52, ?_⟩
 intro b3 f3 b4 f4 w7 A7 h71 h72 h73 h74
 have N7 : Mod [] w w7 := (((A3.mod.go0 M4 (by simp)).go0 A5.mod (by simp)).go0 M6 (by simp)).go0 A7.mod (by simp)
 have no : ∀ {w'}, m ≠ m' → Mod [] w w' → (Value.bool false = Value.bool (decide (m = m')) ∧ Mod [] w w') := fun hn M => ⟨congrArg Value.bool (decide_eq_false hn).symm, M⟩
 refine yw1 (fun mm x w' => ∃ k : Nat, x = k ∧ k ≤ 10 ∧ (yaR m).take k = (yaR m').take k ∧ Mod [] w7 w' ∧ mm = 10 - k) 10 ⟨0, rfl, by omega, by simp, Mod.refl _, rfl⟩ ?_
 rintro mm x w8 ⟨k, rfl, hk, ht, M8, rfl⟩ h81 h82 h83 h84
 have N8 := N7.go0 M8 (by simp)
 refine yaC (fun hlt => ?_) fun hge => ?_
 ·have hk : k < 10 := by omega
  obtain ⟨x, hx⟩ : ∃ x, (yaR m)[k]? = some x := ⟨_, List.getElem?_eq_getElem (by simpa [yaR] using hk)⟩
  obtain ⟨y, hy⟩ : ∃ y, (yaR m')[k]? = some y := ⟨_, List.getElem?_eq_getElem (by simpa [yaR] using hk)⟩
  refine ⟨by omega, by omega, yeU (yKV h83 hk) (yi2 (yaF (yeJ (s := s) (f := f) (p := p) h81 hx) ⟨by omega, by omega, yeU (yKV h84 hk) (yi2 (yaF (yeJ (s := s') (f := f') (p := p') h82 hy) ?_))⟩))⟩
  refine yaB (fun g => fun w9 A9 _ _ _ _ => no (fun e => ?_) (N8.go0 A9.mod (by simp))) fun g => fun w9 A9 _ _ _ _ => ?_
  ·subst e
   rw [hx] at hy
   have := Option.some.inj hy
   simp [this] at g
  ·have g : x = y := by simpa using g
   subst g
   exact yw0 (10 - (k + 1)) (by omega) ⟨k + 1, by rw [yaH (by omega) (by omega)]; omega, by omega, ycB ht hx hy, M8.go0 A9.mod (by simp), rfl⟩
 ·have hk : k = 10 := by omega
  subst hk
  rw [List.take_of_length_le (by simp [yaR]), List.take_of_length_le (by simp [yaR])] at ht
  obtain ⟨la, hA, gA, eA⟩ := h.calls
  obtain ⟨lb, hB, gB, eB⟩ := h'.calls
  have hll : la.length ≤ 1000000 := by have := congrArg List.length eA; simp at this; omega
  refine (yCU (s := s) (t := s') (la := la) (lb := lb) ⟨hA.keep0 N8, fun q hq => (gA q hq).keep0 N8⟩ ⟨hB.keep0 N8, fun q hq => (gB q hq).keep0 N8⟩ hll).mono ?_
  rw [eA, eB]
  rintro _ w9 ⟨rfl, M9⟩
  have N9 := N8.go0 M9 (by simp)
  refine ⟨_, rfl, _, _, _, _, _, _, _, _, _, _, _, _, _, _, _, _, _, _, _, _, _, _, _, M9.keep0 h81, _, _, _, _, _, _, _, _, _, _, _, _, _, _, _, _, _, _, _, _, _, _, _, M9.keep0 h82, _, _, _, _, _, _, _, _, _, _, M9.keep0 h83, _, _, _, _, _, _, _, _, _, _, M9.keep0 h84, ?_⟩
  refine yaB (fun g => ?_) fun g => no (fun e => by simp [e] at g) N9
  have g : m.calls = m'.calls := by simpa using g
  refine (yCs (h.rep.keep0 N9) (h'.rep.keep0 N9)).mono ?_
  rintro _ w10 ⟨rfl, M10⟩
  refine ⟨_, rfl, _, _, _, _, _, _, _, _, _, _, _, _, _, _, _, _, _, _, _, _, _, _, _, M10.keep0 (M9.keep0 h81), _, _, _, _, _, _, _, _, _, _, _, _, _, _, _, _, _, _, _, _, _, _, _, M10.keep0 (M9.keep0 h82), _, _, _, _, _, _, _, _, _, _, M10.keep0 (M9.keep0 h83), _, _, _, _, _, _, _, _, _, _, M10.keep0 (M9.keep0 h84), ?_, N9.go0 M10 (by simp)⟩
  congr 1
  apply Bool.eq_iff_iff.2
  simp [yGm, ht, g]
def ykP : PMail := ⟨4, 0, 1, 2, 0, 0, 5, 0, 0, 0, [], ye1⟩
theorem yxE {x y : PMail} (hx : ybT x = 0) (hy : ybT y = 0) {r : List UInt8} (hr : r ≠ []) : bs (ydG (bs (ybL x)) ++ r) ≠ yeL y := fun h => by
 have h := yj1 h
 obtain ⟨_, l1⟩ := ycI hx
 obtain ⟨_, l2⟩ := ycI hy
 have c1 := ylM (lim := 1048576) (bs (ybL x)) r (by rw [yaD]; omega) (by rw [yaD]; omega)
 have c2 := ylM (lim := 1048576) (bs (ybL y)) [] (by rw [yaD]; omega) (by rw [yaD]; omega)
 rw [List.append_nil] at c2
 rw [h, c2] at c1
 simp only [Option.some.injEq, Prod.mk.injEq] at c1
 have e := yj1 c1.1
 rw [e] at h
 have := congrArg List.length h
 rw [List.length_append] at this
 exact hr (List.eq_nil_of_length_eq_zero (by omega))
theorem yxF {m : PMail} (hn : (yaR m).all num = true) (hk : 0 ≤ m.kind ∧ m.kind < 12) (hc : m.calls = []) (hr : m.r = ye1) : ybT m = 0 ∧ (ybL m).length ≤ 100000 := by
 have ht : yb8 m.calls = 0 := by rw [hc]; decide
 have hre : yfR m.r = 0 := by rw [hr]; decide
 have hE : yb5 m = 0 := by
  rw [yb5, if_neg (by omega), if_neg (by rw [hn]; decide), if_neg (by simpa using ht), hre]
 have l1 := yeN hn 10
 rw [List.take_of_length_le (by rw [yg8]; omega)] at l1
 have l2 : (ybK m.calls).length ≤ 10 := by
  rw [hc]
  have := (yaL 0 (by omega)).2
  simpa [ybK] using this
 have l3 : (ydK m.r).length ≤ 60000 := (RepGood.of hre).len3 m.r.parts.length
 have p2 := (yaW (bs (ybK m.calls)) (by rw [yaD]; omega)).2
 have p3 := (yaW (bs (ydK m.r)) (by rw [yaD]; omega)).2
 rw [yaD] at p2 p3
 have hl : (ybL m).length ≤ 100000 := by unfold ybL; rw [List.length_append, List.length_append]; omega
 exact ⟨by rw [ybT, if_neg (by simpa using hE), if_neg (by omega)], hl⟩
theorem yxG {m : PMail} (hl : (ybL m).length ≤ 1048576) : (yeL m).size ≤ (ybL m).length + 14 := by
 unfold yeL
 rw [yaD, yhK]
 have := (yaW (bs (ybL m)) (by rw [yaD]; omega)).2
 rw [yaD] at this; omega
theorem yvA (w : World) (m : PMail) (hc : m.calls = []) (hr : m.r = ye1) : MailAt w m ybY ybY ybY :=
 ⟨by rw [hc]; exact ⟨[], (Row.nil w 0 51 16 CV.cs).sl CV.cs_len, by simp, rfl⟩, by rw [hr]; exact ⟨(Row.nil w 0 55 5 yiM).sl yiW, (Row.nil w 0 43 2 yjW).sl yiX, by simp [ye1], by simp [ye1]⟩⟩
set_option maxHeartbeats 4000000 in
theorem yxH (w : World) : Calls pP 16 #[] w fun e w' => e = .returned (.bool true) ∧ Mod [] w w' := by
 refine yaP (yGa ?_)
 obtain ⟨hE, hL⟩ := yxF (m := ykP) (by decide) (by decide) rfl rfl
 have hsz := yxG (m := ykP) (by omega)
 have cat : ∀ w', MailAt w' ykP ybY ybY ybY := fun w' => yvA w' ykP rfl rfl
 intro b1 f1 w2 A2
 refine (yo6 (cat w2) (by simp [ykP])).mono ?_
 rintro _ w3 ⟨rfl, M3⟩
 refine ⟨_, _, rfl, yaE.of0 M3, ?_⟩
 rw [hE, if_pos rfl]
 have N3 := A2.mod.go0 M3 (by simp)
 refine (yBQ (s := yeL ykP) (by omega) w3).mono ?_
 rintro _ w4 ⟨v, rfl, hv, M4⟩
 have hv : ∃ s1 f1 p1 : Sl, v = .tuple #[ykP.v s1 f1 p1, .int .i64 0] ∧ MailOwn w4 w3.heap.size ykP s1 f1 p1 := by
  rcases hv with ⟨m, s1, f1, p1, h1, h2, rfl, h3, _⟩ | ⟨h, _⟩
  ·have he : ykP = m := by
    have hm := yBG hE h1 h2
    have X : yfC (bs (ybL ykP)) ykP := ⟨hE, yd9 _⟩
    have Y : yfC (bs (ybL ykP)) m := ⟨h1, by rw [yd9, hm]⟩
    exact yw8 X Y
   subst he
   exact ⟨s1, f1, p1, rfl, h3⟩
  ·exact absurd rfl (h ykP hE)
 obtain ⟨s4, f4, p4, rfl, O4⟩ := hv
 refine ⟨_, _, _, _, _, _, _, _, _, _, _, _, _, _, _, _, _, _, _, _, _, _, _, _, rfl, yaE.of0 M4, ?_⟩
 have N4 := N3.go0 M4 (by simp)
 intro b5 f5
 refine ⟨by show (yeL ykP).size + 1 ≤ _; omega, ?_⟩
 intro w6 A6
 have ex : yeL ykP ++ (⟨#[120]⟩ : BA) = bs (ydG (bs (ybL ykP)) ++ [120]) := by
  rw [yeL, ← ya9]; rfl
 refine (yBQ (s := yeL ykP ++ (⟨#[120]⟩ : BA)) (by rw [ByteArray.size_append]; show _ + 1 ≤ _; omega) w6).mono ?_
 rintro _ w7 ⟨v, rfl, hv, M7⟩
 have hv : v = .tuple #[ynN.v ybY ybY ybY, .int .i64 180] := by
  rcases hv with ⟨m, s1, f1, p1, h1, h2, _⟩ | ⟨_, h⟩
  ·rw [ex] at h2
   exact absurd h2 (yxE hE h1 (by simp))
  ·exact h
 subst hv
 refine ⟨_, _, _, _, _, _, _, _, _, _, _, _, _, _, _, _, _, _, _, _, _, _, _, _, rfl, yaE.of0 M7, ?_⟩
 have N7 := (N4.go0 A6.mod (by simp)).go0 M7 (by simp)
 intro b8 f8 w8 A8
 have hbad : ybT (⟨12, 0, 0, 0, 0, 0, 0, 0, 0, 0, [], ye1⟩ : PMail) = 180 := by
  have : yb5 (⟨12, 0, 0, 0, 0, 0, 0, 0, 0, 0, [], ye1⟩ : PMail) = 180 := by rw [yb5, if_pos (.inr (by decide))]
  rw [ybT, if_pos (by rw [this]; decide), this]
 refine (yo6 (yvA w8 ⟨12, 0, 0, 0, 0, 0, 0, 0, 0, 0, [], ye1⟩ rfl rfl) (by simp)).mono ?_
 rintro _ w9 ⟨rfl, M9⟩
 refine ⟨_, _, rfl, yaE.of0 M9, ?_⟩
 rw [hbad]
 have N9 := (N7.go0 A8.mod (by simp)).go0 M9 (by simp)
 refine (yxD (cat w9) rfl).mono ?_
 rintro _ w10 ⟨rfl, M10⟩
 refine ⟨_, _, rfl, yaE.of0 M10, ?_⟩
 rw [hE, if_pos rfl]
 refine (yIX (cat w10) (by simp [ykP])).mono ?_
 rintro _ w11 ⟨_, rfl, s11, f11, p11, rfl, O11, M11⟩
 refine ⟨_, _, _, _, _, _, _, _, _, _, _, _, _, _, _, _, _, _, _, _, _, _, _, rfl, yaE.of0 M11, ?_⟩
 have N11 := (N9.go0 M10 (by simp)).go0 M11 (by simp)
 intro b12 f12
 refine brT rfl (brT (by rw [yf2]; simp) (brT rfl (brT rfl ?_)))
 intro w12 A12
 have K12 : Mod [] w4 w12 := (((((((A6.mod.trans M7).trans A8.mod).trans M9).trans M10).trans M11).trans A12.mod).less (by simp))
 have O12 := O4.keep0 K12
 refine (yi5 (cat w12) O12.at (by simp [ykP])).mono ?_
 rintro _ w13 ⟨rfl, M13⟩
 refine ⟨_, rfl, yaE.of0 M13, brT (by simp) (brT rfl (brT rfl ?_))⟩
 refine (ypA (cat w13) (O12.keep0 M13).at (by simp [ykP])).mono ?_
 rintro _ w14 ⟨rfl, M14⟩
 refine ⟨_, rfl, yaE.of0 M14, brT (by simp) ?_⟩
 refine (ypA (cat w14) (yvA w14 ynN rfl rfl) (by simp [ykP])).mono ?_
 rintro _ w15 ⟨rfl, M15⟩
 refine ⟨_, rfl, yaE.of0 M15, brT (by simp [ykP, ynN]) ?_⟩
 have O15 := (((O11.keep0 A12.mod).keep0 M13).keep0 M14).keep0 M15
 refine (yi5 O15.at (cat w15) (by simp [ykP])).mono ?_
 rintro _ w16 ⟨rfl, M16⟩
 refine ⟨_, rfl, yaE.of0 M16, brT (by simp) ?_⟩
 have hneg : yb5 (⟨0, 0, 0, -1, 0, 0, 0, 0, 0, 0, [], ye1⟩ : PMail) = 1 := by
  rw [yb5, if_neg (by decide), if_pos (by decide)]
 refine (ygM ((yvA w16 ⟨0, 0, 0, -1, 0, 0, 0, 0, 0, 0, [], ye1⟩ rfl rfl).w (by simp))).mono ?_
 rintro _ w17 ⟨rfl, M17⟩
 refine ⟨_, rfl, yaE.of0 M17, ?_, ?_⟩
 ·rw [hneg]; rfl
 ·exact (((((N11.go0 A12.mod (by simp)).go0 M13 (by simp)).go0 M14 (by simp)).go0 M15 (by simp)).go0 M16 (by simp)).go0 M17 (by simp)
theorem yKn {w0 w : World} (N : Mod [] w0 w) {bs : List Nat} : Calls pP 16 #[] w fun e w' => ∃ t : Bool, e = .returned (.bool t) ∧ yaE bs w w' ∧ (Value.bool t = .bool true ∧ Mod [] w0 w') := by
 refine (yxH w).mono ?_
 rintro _ w1 ⟨rfl, M1⟩
 exact ⟨_, rfl, yaE.of0 M1, rfl, N.go0 M1 (by simp)⟩
theorem yGn (m : PMail) : (yB2 m).calls.length ≤ 12 := by
 show ((m.calls.take 12).map yEG).length ≤ 12
 rw [List.length_map, List.length_take]; omega
set_option maxHeartbeats 4000000 in
theorem yBW {m n : PMail} {s f p s' f' p' : Sl} (w : World) (h : MailRd w m s f p) (h' : MailRd w n s' f' p') :
  Calls pP 3 #[m.v s f p, n.v s' f' p'] w fun e w' => e = .returned (.bool true) ∧ Mod [] w w' := by
 refine yaP (yGb ?_)
 intro b1 f1 b2 f2 w3 A3
 have s3 := A3.mod.size
 have l1 := A3.lt b1 (by simp)
 have l2 := A3.lt b2 (by simp)
 refine (ysY (h.keep0 A3.mod)).mono ?_
 rintro _ w4 ⟨_, rfl, sa, fa, pa, rfl, hA, M4⟩
 have s4 := M4.size
 refine ⟨_, _, _, _, _, _, _, _, _, _, _, _, _, _, _, _, _, _, _, _, _, _, _, rfl, yaE.of0 M4, ?_⟩
 intro w5 A5
 have s5 := A5.mod.size
 have hA5 := hA.keepB A5.mod (by simp; omega)
 have N5 : Mod [] w w5 := (A3.mod.go0 M4 (by simp)).go0 A5.mod (by simpa using f1)
 refine (ysY (h'.keep0 N5)).mono ?_
 rintro _ w6 ⟨_, rfl, sb, fb, pb, rfl, hB, M6⟩
 have s6 := M6.size
 refine ⟨_, _, _, _, _, _, _, _, _, _, _, _, _, _, _, _, _, _, _, _, _, _, _, rfl, yaE.of0 M6, ?_⟩
 intro w7 A7
 have s7 := A7.mod.size
 have hB7 := hB.keepB A7.mod (by simp; omega)
 have hA7 := (hA5.keep0 M6).keepB A7.mod (by simp; omega)
 have N7 : Mod [] w w7 := (N5.go0 M6 (by simp)).go0 A7.mod (by simpa using f2)
 refine (ysY (yJL hA7)).mono ?_
 rintro _ w8 ⟨_, rfl, sc, fc, pc, rfl, hC, M8⟩
 rw [yDj] at hC ⊢
 refine ⟨_, _, _, _, _, _, _, _, _, _, _, _, _, _, _, _, _, _, _, _, _, _, _, rfl, yaE.of0 M8, ?_⟩
 intro b9 f9 w9 A9
 have la := yGn m
 have K9 : Mod [] w7 w9 := M8.go0 A9.mod (by simp)
 have N9 := N7.go0 K9 (by simp)
 have hA9 := (hA7.keep0 K9)
 have hB9 := (hB7.keep0 K9)
 have hC9 := hC.keep0 A9.mod
 refine (yo6 hA9.at (by omega)).mono ?_
 rintro _ w10 ⟨rfl, M10⟩
 refine ⟨_, _, rfl, yaE.of0 M10, ?_⟩
 refine (yBP (hA9.keep0 M10).at (by omega)).mono ?_
 rintro _ w11 ⟨rfl, M11⟩
 refine ⟨_, _, rfl, yaE.of0 M11, brT (by rw [yf2]; simp) (brT (by simp) ?_)⟩
 intro w12 A12
 have K12 : Mod [] w9 w12 := (M10.go0 M11 (by simp)).go0 A12.mod (by simp)
 have N12 := N9.go0 K12 (by simp)
 refine (ygM ((hA9.keep0 K12).at.w (by omega))).mono ?_
 rintro _ w13 ⟨rfl, M13⟩
 refine ⟨_, rfl, yaE.of0 M13, rfl, ?_⟩
 have K13 := K12.go0 M13 (by simp)
 refine (ykJ (hA9.keep0 K13).at (by omega)).mono ?_
 rintro _ w14 ⟨rfl, M14⟩
 refine ⟨_, rfl, yaE.of0 M14, brT (by simp) ?_⟩
 have K14 := K13.go0 M14 (by simp)
 refine (ypA (hA9.keep0 K14).at (hB9.keep0 K14).at (by omega)).mono ?_
 rintro _ w15 ⟨rfl, M15⟩
 refine ⟨_, rfl, yaE.of0 M15, rfl, rfl, ?_⟩
 have K15 := K14.go0 M15 (by simp)
 refine (yi5 (hA9.keep0 K15).at (hB9.keep0 K15).at (by omega)).mono ?_
 rintro _ w16 ⟨rfl, M16⟩
 refine ⟨_, rfl, yaE.of0 M16, brT (by simp) ?_⟩
 have K16 := K15.go0 M16 (by simp)
 refine (yi5 (hA9.keep0 K16).at (hC9.keep0 K16).at (by omega)).mono ?_
 rintro _ w17 ⟨rfl, M17⟩
 exact ⟨_, rfl, yaE.of0 M17, brT (by simp) (yKn ((N9.go0 K16 (by simp)).go0 M17 (by simp)))⟩
end Go.Proofs.YtkbcmppbjfpjmaaGreat
